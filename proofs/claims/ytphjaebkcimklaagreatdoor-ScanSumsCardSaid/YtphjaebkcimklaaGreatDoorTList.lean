/- The contract of the tree's List: each's walk with the closure that appends. -/
import Derived.Test.YtphjaebkcimklaaGreatDoorTFrom
import Derived.Deep.AppendLies
import Derived.Deep.RegionLaw
import Derived.OwnWalk
import Derived.Test.YtphjaebkcimklaaGreatDoorWLast
set_option linter.unusedVariables false
set_option linter.unusedSimpArgs false
namespace Go.Proofs.YtphjaebkcimklaaGreatDoor
open Go.RowKit Go.Proofs.YtphjaebkcimklaaGreatDoorW.PrintLast
attribute [local go_sem ↓] Go.wp_at_zero Go.wp_at_succ

theorem info39b : (Tryz.prog.info? 60).map (fun i => (i.zero, i.size, i.bytes)) = some (some (.agg #[.slice none 0 0, .slice none 0 0]), 2, 48) := by kernel_rfl

/-- The cells of a row of pairs. -/
structure PsOf (S : Nat → Prop) (W : World) (vs : List Value) (L : Pairs) : Prop where
  len : vs.length = L.length * 2
  at_ : ∀ j, j < L.length → ∃ kv xv, vs[j * 2]? = some kv ∧ vs[j * 2 + 1]? = some xv ∧ BIn S W kv (L.getD j ([], [])).1 ∧ BIn S W xv (L.getD j ([], [])).2
theorem PsOf.imp {S S' : Nat → Prop} {W : World} {vs : List Value} {L : Pairs} (h : PsOf S W vs L) (hS : ∀ b, b < W.heap.size → S b → S' b) : PsOf S' W vs L :=
  ⟨h.len, fun j hj => by obtain ⟨kv, xv, h1, h2, h3, h4⟩ := h.at_ j hj; exact ⟨kv, xv, h1, h2, h3.imp hS, h4.imp hS⟩⟩
theorem PsOf.carry {S : Nat → Prop} {W W1 : World} {vs : List Value} {L : Pairs} (h : PsOf S W vs L) (hs : W.heap.size ≤ W1.heap.size) (hb : ∀ b, S b → b < W.heap.size → W1.heap[b]? = W.heap[b]?) : PsOf S W1 vs L :=
  ⟨h.len, fun j hj => by obtain ⟨kv, xv, h1, h2, h3, h4⟩ := h.at_ j hj; exact ⟨kv, xv, h1, h2, h3.carry hs hb, h4.carry hs hb⟩⟩
theorem PsOf.snoc {S : Nat → Prop} {W : World} {vs : List Value} {L : Pairs} {k x : Bytes} {kv xv : Value} (h : PsOf S W vs L) (hk : BIn S W kv k) (hx : BIn S W xv x) : PsOf S W (vs ++ [kv, xv]) (L ++ [(k, x)]) := by
  refine ⟨by simp [h.len]; omega, fun j hj => ?_⟩
  rw [List.length_append, List.length_singleton] at hj
  by_cases hlt : j < L.length
  · obtain ⟨a, b, h1, h2, h3, h4⟩ := h.at_ j hlt
    have e : (L ++ [(k, x)]).getD j ([], []) = L.getD j ([], []) := by simp [List.getD_eq_getElem?_getD, List.getElem?_append_left hlt]
    rw [e]
    exact ⟨a, b, by rw [List.getElem?_append_left (by rw [h.len]; omega)]; exact h1, by rw [List.getElem?_append_left (by rw [h.len]; omega)]; exact h2, h3, h4⟩
  · obtain rfl : j = L.length := by omega
    have e : (L ++ [(k, x)]).getD L.length ([], []) = (k, x) := by simp [List.getD_eq_getElem?_getD]
    rw [e]
    exact ⟨kv, xv, by rw [List.getElem?_append_right (by rw [h.len]; omega), h.len]; simp, by rw [List.getElem?_append_right (by rw [h.len]; omega), h.len]; simp, hk, hx⟩

/-- A list on its way: its variable, its row, its pairs. -/
structure LstV (base ob : Nat) (W : World) (A : Option Addr) (c : Nat) (vs : List Value) (L : Pairs) : Prop where
  le : base ≤ ob
  var : W.heap[ob]? = some (.cells #[.slice A L.length c] 69 (0, 0))
  own : W.ownsRow base 60 2 (.slice A L.length c) L.length vs
  ne : (Value.slice A L.length c).ownBlock ≠ some ob
  ps : PsOf (fun b => base ≤ b ∧ b ≠ ob ∧ (Value.slice A L.length c).ownBlock ≠ some b) W vs L
def Lst (base ob : Nat) (W : World) (L : Pairs) : Prop := ∃ A c vs, LstV base ob W A c vs L ∧ A ≠ none

theorem own_below {w w1 : World} {base : Nat} {e : TypeId} {size n : Nat} {v : Value} {xs : List Value} (h : w.ownsRow base e size v n xs) (hb : Below w.heap.size w w1) : w1.ownsRow base e size v n xs :=
  h.kept (row := none) ⟨hb.os, hb.tape, hb.output, hb.size, fun i hi _ => hb.block i hi⟩ (by cases v.ownBlock <;> simp)
theorem own_set {w : World} {base : Nat} {e : TypeId} {size n : Nat} {v : Value} {xs : List Value} (h : w.ownsRow base e size v n xs) {g : Nat} (hg : v.ownBlock ≠ some g) (i : Nat) (u : Value) : (w.setCell ⟨g, i, none⟩ u).ownsRow base e size v n xs :=
  h.kept (row := some g) ⟨rfl, rfl, rfl, by simp, fun k hk hne => heap_setCell_other w _ k u (by intro e; exact hne (congrArg some e))⟩ (.inr hg)

theorem LstV.step {base ob : Nat} {W wa w1 : World} {A : Option Addr} {c : Nat} {vs : List Value} {L : Pairs} {kv xv : Value} {k x : Bytes} {g cap : Nat} {o : Obj} (h : LstV base ob W A c vs L) (hb : Below W.heap.size W wa)
    (hk : BIn (New W.heap.size) wa kv k) (hx : BIn (New W.heap.size) wa xv x) (hown : w1.ownsRow base 60 2 (.slice (some ⟨g, 0, none⟩) (L.length + 1) cap) (L.length + 1) (vs ++ [kv, xv]))
    (hgr : (wa.alloc o).grownBy w1 (Value.slice A L.length c).ownBlock) (hat : (Value.slice A L.length c).ownBlock = some g ∨ g = wa.heap.size + 1) :
    Lst base ob (w1.setCell ⟨ob, 0, none⟩ (.slice (some ⟨g, 0, none⟩) (L.length + 1) cap)) (L ++ [(k, x)]) ∧ Below base W (w1.setCell ⟨ob, 0, none⟩ (.slice (some ⟨g, 0, none⟩) (L.length + 1) cap)) := by
  have hobl := (Array.getElem?_eq_some_iff.1 h.var).1
  have hsz := hb.size
  have hle := h.le
  have hs1 : (wa.alloc o).heap.size = wa.heap.size + 1 := by simp
  have hgs := hgr.size
  have hown0 := fun k (e : (Value.slice A L.length c).ownBlock = some k) => h.own.lt k e
  have hgob : g ≠ ob := by
    rcases hat with e | e
    · intro e2; subst e2; exact h.ne e
    · omega
  -- a block of W that is none of the two
  have far : ∀ b, b < W.heap.size → b ≠ ob → (Value.slice A L.length c).ownBlock ≠ some b → (w1.setCell ⟨ob, 0, none⟩ (.slice (some ⟨g, 0, none⟩) (L.length + 1) cap)).heap[b]? = W.heap[b]? := by
    intro b hlt h1 h2
    rw [heap_setCell_other _ _ _ _ (by simpa using h1), hgr.block b (by omega) (fun e => h2 e.symm), Below.heap_alloc wa o b (by omega), hb.block b hlt]
  have far2 : ∀ b, New W.heap.size b → b < wa.heap.size → (w1.setCell ⟨ob, 0, none⟩ (.slice (some ⟨g, 0, none⟩) (L.length + 1) cap)).heap[b]? = wa.heap[b]? := by
    intro b hge hlt
    have hge' : W.heap.size ≤ b := hge
    rw [heap_setCell_other _ _ _ _ (by simp only; omega), hgr.block b (by omega) (fun e => by have := hown0 b e.symm; omega), Below.heap_alloc wa o b hlt]
  have hsize : W.heap.size ≤ (w1.setCell ⟨ob, 0, none⟩ (.slice (some ⟨g, 0, none⟩) (L.length + 1) cap)).heap.size := by simp; omega
  have hsize2 : wa.heap.size ≤ (w1.setCell ⟨ob, 0, none⟩ (.slice (some ⟨g, 0, none⟩) (L.length + 1) cap)).heap.size := by simp; omega
  have new : ∀ b, b < wa.heap.size → New W.heap.size b → base ≤ b ∧ b ≠ ob ∧ (Value.slice (some ⟨g, 0, none⟩) (L ++ [(k, x)]).length cap).ownBlock ≠ some b := by
    intro b hlt hge
    have hge' : W.heap.size ≤ b := hge
    refine ⟨by omega, by omega, ?_⟩
    simp only [Value.ownBlock]
    intro e
    cases e
    rcases hat with e | e
    · have := hown0 _ e; omega
    · omega
  refine ⟨⟨some ⟨g, 0, none⟩, cap, vs ++ [kv, xv], ⟨hle, ?_, ?_, ?_, ?_⟩, by simp⟩, ?_⟩
  · have e1 : w1.heap[ob]? = some (.cells #[.slice A L.length c] 69 (0, 0)) := by
      rw [hgr.block ob (by omega) (fun e => h.ne e.symm), Below.heap_alloc wa o ob (by omega), hb.block ob hobl]; exact h.var
    simp [World.setCell, Array.getElem?_modify, e1]
  · rw [List.length_append, List.length_singleton]
    exact own_set hown (by simp [Value.ownBlock]; exact hgob) _ _
  · simp [Value.ownBlock]; exact hgob
  · refine PsOf.snoc (PsOf.imp (PsOf.carry (S := fun b => (base ≤ b ∧ b ≠ ob ∧ (Value.slice A L.length c).ownBlock ≠ some b) ∧ b < W.heap.size) (h.ps.imp fun b hlt hb => ⟨hb, hlt⟩) hsize fun b hb hlt => far b hlt hb.1.2.1 hb.1.2.2) ?_) ?_ ?_
    · intro b _ hb
      refine ⟨hb.1.1, hb.1.2.1, ?_⟩
      simp only [Value.ownBlock]
      intro e
      cases e
      rcases hat with e | e
      · exact hb.1.2.2 e
      · have := hb.2; omega
    · exact BIn.imp (BIn.carry (S := fun b => New W.heap.size b ∧ b < wa.heap.size) (hk.imp fun b hlt hb => ⟨hb, hlt⟩) hsize2 fun b hb hlt => far2 b hb.1 hlt) fun b _ hb => new b hb.2 hb.1
    · exact BIn.imp (BIn.carry (S := fun b => New W.heap.size b ∧ b < wa.heap.size) (hx.imp fun b hlt hb => ⟨hb, hlt⟩) hsize2 fun b hb hlt => far2 b hb.1 hlt) fun b _ hb => new b hb.2 hb.1
  · exact ((((Below.refl _ W).trans ((hb.mono (Nat.le_trans hle (Nat.le_of_lt hobl))))).alloc (by omega) o).grown hgr (by simp; omega) (fun k e => (hown0 k e).1)).setCell (p := ⟨ob, 0, none⟩) hle _

set_option maxRecDepth 100000 in
set_option maxHeartbeats 6400000 in
theorem lstep_any {S : Nat → Prop} (base ob b : Nat) (kv xv lv rv : Value) (sz : Int) (k x : Bytes) (L : Pairs) (W : World) (hh : W.heap[b]? = some (.cells #[kv, xv, lv, rv, .int .i64 sz] 129 (0, 0)))
    (hk : BIn S W kv k) (hx : BIn S W xv x) (hL : Lst base ob W L) (hn : L.length ≤ 1000000) :
    Calls Tryz.prog 132 #[.pointer (some ⟨b, 0, none⟩), .pointer (some ⟨ob, 0, none⟩)] W fun e W' => e = .returned (.bool true) ∧ Lst base ob W' (L ++ [(k, x)]) ∧ Below base W W' := by
  obtain ⟨A, c, vs, hL, _⟩ := hL
  have hob := hL.var
  obtain ⟨i0, hi, hz0, hz1, hz2⟩ := info_parts info39b
  obtain ⟨Ak, nk, ck, rfl⟩ := hk.slice
  obtain ⟨Ax, nx, cx, rfl⟩ := hx.slice
  obtain ⟨c0, c1, _, _, _⟩ := node_cells hh
  have o0 := cell_of_row W ob 0 _ _ _ hob
  have of0 := frozen_of_row W ob 0 _ _ hob
  dsimp at o0
  have hobl := (Array.getElem?_eq_some_iff.1 hob).1
  have HL := Lib.hid hL
  have HO := Lib.hid (own_any (.agg #[.slice Ak nk ck, .slice Ax nx cx]) k x W.drew ⟨_, _, rfl, hk.below (below_drew2 (Below.refl _ _)), hx.below (below_drew2 (Below.refl _ _))⟩)
  have hbl := World.block_lt_of_cell? W _ c0
  have hbob : ¬ (b = ob) := by
    intro e
    subst e
    rw [hh] at hob
    cases hob
  have hobb : ¬ (ob = b) := fun e => hbob e.symm
  have HBV : Hid (some b ≠ (Value.slice A L.length c).ownBlock) := by
    intro e
    have h2 := hL.own
    rcases h2.2 with ⟨hv, _⟩ | ⟨g, cap, cur, hv, _, hg, _⟩
    · rw [hv] at e; cases e
    · rw [hv] at e
      simp only [Value.ownBlock, Option.some.injEq] at e
      subst e
      rw [hh] at hg
      cases hg
  clear hh hL hob hk hx
  go_enter Tryz.func132, Tryz.ntmps132
  go_wp2_with fail
  refine start_ (n := 9) (S := fun w' => w'.cell? ⟨ob, 0, none⟩ = some (.slice A L.length c) ∧ w'.cell? ⟨b, 0, none⟩ = some (.slice Ak nk ck) ∧ w'.cell? ⟨b, 1, none⟩ = some (.slice Ax nx cx)) (ds := [8]) #[false, false, false, false, false, false, false, false, false] (by kernel_rfl) rfl rfl ⟨o0, c0, c1⟩ (fun hHeld => ?_)
  refine take_ (i := 0) (N := some 4) (v := .slice A L.length c) (a' := ?aa1) #[true, false, false, false, false, false, false, false, false] rfl rfl (by kernel_rfl) (fun _ _ _ h => h) (Or.inl ⟨by rfl, ?hy1⟩) hHeld ?ha1 ?hn1
  case hy1 =>
    rintro w' ⟨h1_, h2_, h3_⟩
    go_simp
  case ha1 =>
    simp only [Act.put, List.setIfInBounds_toArray, List.set_cons_zero, List.set_cons_succ]
    rfl
  refine pure_ (i := 1) (N := some 5) (v := ?vv2) (a' := ?aa2) #[true, true, false, false, false, false, false, false, false] rfl rfl (by kernel_rfl) (fun _ _ _ h => h) (Or.inl ⟨by rfl, ?hy2⟩) ?ha2 ?hn2
  case hy2 =>
    intro w'
    go_simp
    with_reducible rfl
  case ha2 =>
    simp only [Act.put, List.setIfInBounds_toArray, List.set_cons_zero, List.set_cons_succ]
    rfl
  refine pure_ (i := 2) (N := some 6) (v := ?vv3) (a' := ?aa3) #[true, true, true, false, false, false, false, false, false] rfl rfl (by kernel_rfl) (fun _ _ _ h => h) (Or.inl ⟨by rfl, ?hy3⟩) ?ha3 ?hn3
  case hy3 =>
    intro w'
    go_simp
    with_reducible rfl
  case ha3 =>
    simp only [Act.put, List.setIfInBounds_toArray, List.set_cons_zero, List.set_cons_succ]
    rfl
  refine pure_ (i := 3) (N := some 7) (v := ?vv4) (a' := ?aa4) #[true, true, true, true, false, false, false, false, false] rfl rfl (by kernel_rfl) (fun _ _ _ h => h) (Or.inl ⟨by rfl, ?hy4⟩) ?ha4 ?hn4
  case hy4 =>
    intro w'
    go_simp
    with_reducible rfl
  case ha4 =>
    simp only [Act.put, List.setIfInBounds_toArray, List.set_cons_zero, List.set_cons_succ]
    rfl
  refine take_ (i := 4) (N := some 8) (v := .agg #[.slice Ak nk ck, .slice Ax nx cx]) (a' := ?aa5) #[true, true, true, true, true, false, false, false, false] rfl rfl (by kernel_rfl) (fun _ _ _ h => h) (Or.inl ⟨by rfl, ?hy5⟩) hHeld ?ha5 ?hn5
  case hy5 =>
    rintro w' ⟨h1_, h2_, h3_⟩
    go_simp
  case ha5 =>
    simp only [Act.put, List.setIfInBounds_toArray, List.set_cons_zero, List.set_cons_succ]
    rfl
  refine one_ (i := 5) (N := some 9) #[true, true, true, true, true, true, false, false, false] rfl rfl (by kernel_rfl) (by decide) (fun K hK => ?_)
  refine goes_ Tryz.func78 (by kernel_rfl) rfl #[.agg #[.slice Ak nk ck, .slice Ax nx cx]] (by rfl) rfl rfl (by simp only [List.map_toArray, List.map_cons, List.map_nil]; rfl) ?_
  refine HO.out.mono ?_
  rintro e wa ⟨u, rfl, hu, hb1⟩
  obtain ⟨kv', xv', rfl, hk', hx'⟩ := hu
  obtain ⟨A1, n1, c1', rfl⟩ := hk'.slice
  obtain ⟨A2, n2, c2', rfl⟩ := hx'.slice
  have HB1 : Hid (Below W.heap.size W wa) := below_drew1 hb1
  have HCA : Hid (∀ g i v, g < W.heap.size → W.cell? ⟨g, i, none⟩ = some v → wa.cell? ⟨g, i, none⟩ = some v) := fun g i v hg hv => (HB1.out.cell (p := ⟨g, i, none⟩) hg).trans hv
  have HK1 := Lib.hid hk'
  have HX1 := Lib.hid hx'
  clear hk' hx' hb1
  refine ⟨_, rfl, hK.out _ _ ⟨HCA.out _ _ _ hobl o0, HCA.out _ _ _ hbl c0, HCA.out _ _ _ hbl c1⟩ (fun hHeld => ?_)⟩
  simp only [Act.put, List.setIfInBounds_toArray, List.set_cons_zero, List.set_cons_succ]
  refine one_ (i := 6) (N := some 10) #[true, true, true, true, true, true, true, false, false] rfl rfl (by kernel_rfl) (by decide) (fun K hK => ?_)
  refine value_ (w1 := wa.alloc (.cells #[.slice A1 n1 c1', .slice A2 n2 c2'] 60)) (v := .slice (some ⟨wa.heap.size, 0, none⟩) 1 1) (by rfl) rfl ?_ ?_
  · go_simp
  refine hK.out _ _ ⟨(World.cell?_alloc_lt _ _ _ (by have := HB1.out.size; simp; omega)).trans hHeld.1, (World.cell?_alloc_lt _ _ _ (by have := HB1.out.size; simp; omega)).trans hHeld.2.1, (World.cell?_alloc_lt _ _ _ (by have := HB1.out.size; simp; omega)).trans hHeld.2.2⟩ (fun hHeld => ?_)
  simp only [Act.put, List.setIfInBounds_toArray, List.set_cons_zero, List.set_cons_succ]
  refine one_ (i := 7) (N := some 11) #[true, true, true, true, true, true, true, true, false] rfl rfl (by kernel_rfl) (by decide) (fun K hK => ?_)
  have hw2 : (wa.alloc (.cells #[.slice A1 n1 c1', .slice A2 n2 c2'] 60)).ownsRow base 60 2 (.slice A L.length c) L.length vs := (own_below HL.out.own HB1.out).alloc _
  refine step_append_lies _ rfl (.tmp 4) (.tmp 10) 69 rfl base 60 i0 (.agg #[.slice none 0 0, .slice none 0 0]) 2 48 Tryz.underlying69 hi hz0 hz1 hz2 rfl (by decide) (.slice A L.length c) L.length vs (by simp [Act.eval]) hw2 ⟨wa.heap.size, 0, none⟩ 1 1 [.slice A1 n1 c1', .slice A2 n2 c2'] (by simp [Act.eval]) rfl (World.news_of_block (heap_new wa _)) (by simp [Value.oneCell']) (by decide) (by unfold maxLen; omega) (by omega) (by have := HB1.out.size; have := HL.out.le; simp; omega) (wa.heap.size + 1) (by simp) ?_
  intro g cap w1 hown1 hgrow hat hlt1
  have HST := Lib.hid (HL.out.step HB1.out HK1.out HX1.out hown1 hgrow hat)
  have hvar : w1.heap[ob]? = some (.cells #[.slice A L.length c] 69 (0, 0)) := (hgrow.block ob (by have := HB1.out.size; simp; omega) (fun e => HL.out.ne e.symm)).trans ((Below.heap_alloc wa _ ob (by have := HB1.out.size; omega)).trans ((HB1.out.block ob hobl).trans HL.out.var))
  have ob1 : w1.cell? ⟨ob, 0, none⟩ = some (.slice A L.length c) := cell_of_row w1 ob 0 _ _ _ hvar
  have of1 : w1.frozen? ⟨ob, 0, none⟩ = false := frozen_of_row w1 ob 0 _ _ hvar
  refine hK.out _ _ ⟨ob1, (hgrow.cell_far ⟨b, 0, none⟩ (by have := HB1.out.size; simp; omega) HBV.out).trans hHeld.2.1, (hgrow.cell_far ⟨b, 1, none⟩ (by have := HB1.out.size; simp; omega) HBV.out).trans hHeld.2.2⟩ (fun hHeld => ?_)
  clear hown1 hgrow hat hw2
  simp only [Act.put, List.setIfInBounds_toArray, List.set_cons_zero, List.set_cons_succ]
  refine last_ (i := 8) (N := none) #[true, true, true, true, true, true, true, true, true] rfl rfl (by kernel_rfl) (by decide) (fun K hK => ?_)
  refine skip_ (w1 := w1.setCell ⟨ob, 0, none⟩ (.slice (some ⟨g, 0, none⟩) (L.length + 1) cap)) (by rfl) rfl ?_ ?_
  · go_simp
  refine hK.out _ _ ?_
  refine done_ (by kernel_rfl) ?_
  clear hHeld c0 c1 o0 of0 ob1 of1 hvar
  go_wp2_with fail
  go_ret
  exact ⟨rfl, HST.out.1, HST.out.2⟩
  

/-! ### The walk of List -/
/-- The closure of List. -/
abbrev fnL (ob : Nat) : Value := .func (.func 132) #[] #[.pointer (some ⟨ob, 0, none⟩)]

set_option maxHeartbeats 6400000 in
theorem eachL_any {S : Nat → Prop} (base ob : Nat) (hS : ∀ b, S b → b < base) : ∀ (T : PT) (v : Value) (w : World) (L : Pairs), TIn S w v T → Lst base ob w L → L.length + T.size ≤ 1000000 →
    Calls Tryz.prog 131 #[v, fnL ob] w fun e w' => e = .returned (.bool true) ∧ Lst base ob w' (L ++ T.list) ∧ Below base w w' := by
  intro T
  induction T with
  | nil =>
    intro v w L hT hL _
    obtain rfl : v = .pointer none := hT
    have HL := Lib.hid hL
    clear hL
    go_enter Tryz.func131, Tryz.ntmps131
    go_wp2_with fail
    go_ret
    exact ⟨rfl, by rw [PT.list, List.append_nil]; exact HL.out, Below.refl _ _⟩
  | node l k x r ihl ihr =>
    intro v w L hT hL hn
    obtain ⟨b, kv, xv, lv, rv, rfl, hSb, hh, hk, hx, hl, hr⟩ := hT
    simp only [PT.size] at hn
    obtain ⟨lu, rfl⟩ := hl.ptr
    obtain ⟨ru, rfl⟩ := hr.ptr
    have HL1 := Lib.hid (ihl _ w L hl hL (by omega))
    have HH := Lib.hid hh
    have HK := Lib.hid hk
    have HX := Lib.hid hx
    have HR := Lib.hid hr
    have HI := Lib.hid ihr
    have hbb := hS b hSb
    obtain ⟨c0, c1, c2, c3, c4⟩ := node_cells hh
    clear hl hL hh hk hx hr ihl ihr
    go_enter Tryz.func131, Tryz.ntmps131
    go_wp2_with fail
    refine HL1.out.mono ?_
    rintro e w1 ⟨rfl, hL1, hb1⟩
    have hh1 := (hb1.block b hbb).trans HH.out
    have HST := Lib.hid (lstep_any base ob b kv xv (.pointer lu) (.pointer ru) _ k x (L ++ l.list) w1 hh1 (HK.out.carry hb1.size fun b hb _ => hb1.block b (hS b hb)) (HX.out.carry hb1.size fun b hb _ => hb1.block b (hS b hb)) hL1 (by rw [List.length_append, PT.size_list]; omega))
    have HB1 := Lib.hid hb1
    clear c0 c1 c2 c3 c4 hL1 hb1 hh1
    go_wp2_with fail
    refine HST.out.mono ?_
    rintro e w2 ⟨rfl, hL2, hb2⟩
    have hb12 : Below base w w2 := HB1.out.trans hb2
    have hh2 := (hb12.block b hbb).trans HH.out
    obtain ⟨c0, c1, c2, c3, c4⟩ := node_cells hh2
    have HR2 := Lib.hid (HI.out _ w2 (L ++ l.list ++ [(k, x)]) (HR.out.carry hb12.size fun b hb _ => hb12.block b (hS b hb)) hL2 (by simp only [List.length_append, List.length_singleton, PT.size_list]; omega))
    have HB12 := Lib.hid hb12
    clear hL2 hb2 hb12 hh2
    go_wp2_with fail
    refine HR2.out.mono ?_
    rintro e w3 ⟨rfl, hL3, hb3⟩
    have HL3 := Lib.hid hL3
    have HB3 := Lib.hid (HB12.out.trans hb3)
    clear hL3 hb3 c0 c1 c2 c3 c4
    go_wp2_with fail
    go_ret
    exact ⟨rfl, by rw [PT.list]; simpa using HL3.out, HB3.out⟩

/-- A list that the call has made. -/
structure OwnL (base : Nat) (W : World) (A : Option Addr) (n c : Nat) (vs : List Value) (L : Pairs) : Prop where
  is : A ≠ none
  len : L.length = n
  own : W.ownsRow base 60 2 (.slice A n c) n vs
  ps : PsOf (fun b => base ≤ b ∧ (Value.slice A n c).ownBlock ≠ some b) W vs L
theorem reads_own {base n c : Nat} {W : World} {A : Option Addr} {vs : List Value} {L : Pairs} {S S' : Nat → Prop} (ho : W.ownsRow base 60 2 (.slice A n c) n vs) (hp : PsOf S' W vs L) (hl : L.length = n)
    (hS' : ∀ b, b < W.heap.size → S' b → S b) (hS : ∀ b, base ≤ b → S b) : LIn S W A n L ∧ n ≤ c := by
  subst hl
  rcases ho.2 with ⟨hv, hn⟩ | ⟨g, cap, cur, hv, hb, hg, hc, hm, hs, ht⟩
  · injection hv with h1 h2 h3
    exact ⟨⟨rfl, fun h => by omega⟩, by omega⟩
  · injection hv with h1 h2 h3
    subst h1
    subst h3
    refine ⟨⟨rfl, fun hn => ⟨g, 0, rfl, (Array.getElem?_eq_some_iff.1 hg).1, hS g hb, fun j hj => ?_⟩⟩, hc⟩
    obtain ⟨kv, xv, e1, e2, e3, e4⟩ := hp.at_ j hj
    refine ⟨kv, xv, ?_, ?_, e3.imp hS', e4.imp hS'⟩
    · rw [Nat.zero_add, ho.cellAt _ (by omega)]; exact e1
    · rw [Nat.zero_add, ho.cellAt _ (by omega)]; exact e2

set_option maxHeartbeats 6400000 in
theorem listO_any {S : Nat → Prop} (T : PT) (v : Value) (w : World) (hT : TIn S w v T) (hn : T.size ≤ 1000000) :
    Calls Tryz.prog 117 #[v] w fun e w' => ∃ A c vs, e = .returned (.slice A T.size c) ∧ OwnL w.heap.size w' A T.size c vs T.list ∧ Below w.heap.size w w' := by
  obtain ⟨i0, hi, hz0, hz1, hz2⟩ := info_parts info39b
  obtain ⟨vu, rfl⟩ := hT.ptr
  have HS := Lib.hid (tsize_any T (.pointer vu) w hT)
  have HT := Lib.hid hT
  clear hT
  go_enter Tryz.func117, Tryz.ntmps117
  go_wp2_with fail
  refine HS.out.mono ?_
  rintro e w1 ⟨rfl, rfl⟩
  go_wp2_with (refine wpList_make_own _ rfl _ _ 69 rfl w.heap.size 60 i0 _ 2 Tryz.underlying69 hi hz0 hz1 .i64 .i64 _ T.size rfl rfl rfl (by rw [hz2]; omega) (by unfold maxLen; omega) (Nat.le_refl _) ?_)
  intro w1 hown hgr
  have hb1 : Below w.heap.size w w1 := ⟨hgr.os, hgr.tape, hgr.output, hgr.size, fun b hb => hgr.block b hb (by simp)⟩
  have hsz := hb1.size
  have hb2 := hb1.alloc hsz (.cells #[.slice (some ⟨w.heap.size, 0, none⟩) 0 T.size] 69)
  have hlt : w.heap.size < w1.heap.size := (hown.lt w.heap.size rfl).2
  have hL : Lst w.heap.size w1.heap.size (w1.alloc (.cells #[.slice (some ⟨w.heap.size, 0, none⟩) 0 T.size] 69)) [] :=
    ⟨some ⟨w.heap.size, 0, none⟩, T.size, [], ⟨hsz, heap_new w1 _, hown.alloc _, by simp [Value.ownBlock]; omega, ⟨rfl, fun j hj => by simp at hj⟩⟩, by simp⟩
  have hE := eachL_any (S := fun b => S b ∧ b < w.heap.size) w.heap.size w1.heap.size (fun b hb => hb.2) T (.pointer vu) (w1.alloc (.cells #[.slice (some ⟨w.heap.size, 0, none⟩) 0 T.size] 69)) []
    ((HT.out.imp fun b hlt hb => ⟨hb, hlt⟩).carry hb2.size fun b hb _ => hb2.block b hb.2) hL (by simpa using hn)
  have HE := Lib.hid hE
  have HB2 := Lib.hid hb2
  clear hown hgr hb1 hb2 hL hE
  go_wp2_with fail
  refine HE.out.mono ?_
  rintro e w2 ⟨rfl, ⟨A, c, vs, hL, hA⟩, hb3⟩
  rw [List.nil_append] at hL
  have hvar := hL.var
  have hr : OwnL w.heap.size w2 A T.list.length c vs T.list := ⟨hA, rfl, hL.own, hL.ps.imp fun b _ hb => ⟨hb.1, hb.2.2⟩⟩
  rw [PT.size_list] at hvar hr
  have hc0 := cell_of_row w2 w1.heap.size 0 _ _ _ hvar
  dsimp at hc0
  have HR := Lib.hid hr
  have HB3 := Lib.hid (HB2.out.trans hb3)
  clear hL hvar hr hb3 hA
  go_wp2_with fail
  go_ret
  exact ⟨A, c, vs, rfl, HR.out, HB3.out⟩

theorem list_any {S : Nat → Prop} (T : PT) (v : Value) (w : World) (hT : TIn S w v T) (hn : T.size ≤ 1000000) :
    Calls Tryz.prog 117 #[v] w fun e w' => ∃ A c, e = .returned (.slice A T.size c) ∧ T.size ≤ c ∧ LIn (New w.heap.size) w' A T.size T.list ∧ Below w.heap.size w w' :=
  (listO_any T v w hT hn).mono fun e w' ⟨A, c, vs, he, ho, hb⟩ => by
    obtain ⟨h1, h2⟩ := reads_own ho.own ho.ps ho.len (S := New w.heap.size) (fun _ _ h => h.1) (fun _ h => h)
    exact ⟨A, c, he, h2, h1, hb⟩

end Go.Proofs.YtphjaebkcimklaaGreatDoor
