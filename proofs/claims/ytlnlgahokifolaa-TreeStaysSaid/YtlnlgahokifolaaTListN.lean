/- What clone, own and List make may be written. -/
import Derived.Test.YtlnlgahokifolaaTStep2
import Derived.Deep.Heap
set_option linter.unusedVariables false
set_option linter.unusedSimpArgs false
namespace Go.Proofs.Ytlnlgahokifolaa
open Go.RowKit Go.Proofs.YtlnlgahokifolaaW.PrintLast
attribute [local go_sem ↓] Go.wp_at_zero Go.wp_at_succ

/-- A block of cells none of which is frozen. -/
def Nf (W : World) (b : Nat) : Prop := ∃ arr T, W.heap[b]? = some (.cells arr T (0, 0))
theorem Nf.lt {W : World} {b : Nat} (h : Nf W b) : b < W.heap.size := by obtain ⟨_, _, h⟩ := h; exact (Array.getElem?_eq_some_iff.1 h).1
theorem Nf.same {W W' : World} {b : Nat} (h : Nf W b) (hb : W'.heap[b]? = W.heap[b]?) : Nf W' b := by obtain ⟨arr, T, h⟩ := h; exact ⟨arr, T, hb.trans h⟩
/-- A slice over such a block. -/
def NfV (W : World) (v : Value) : Prop := ∀ A n c b o, v = .slice A n c → 0 < n → A = some ⟨b, o, none⟩ → Nf W b
theorem NfV.below {W W' : World} {v : Value} (h : NfV W v) (hb : Below W.heap.size W W') : NfV W' v := fun A n c b o e hn ea => (h A n c b o e hn ea).same (hb.block b (h A n c b o e hn ea).lt)
theorem BIn.and {S S' : Nat → Prop} {W : World} {v : Value} {l : Bytes} (h : BIn S W v l) (h' : ∀ A n c b o, v = .slice A n c → 0 < n → A = some ⟨b, o, none⟩ → S' b) : BIn (fun b => S b ∧ S' b) W v l := by
  obtain ⟨A, n, c, rfl, hc, hr, hs⟩ := h
  exact ⟨A, n, c, rfl, hc, hr, fun b o hn e => ⟨hs b o hn e, h' A n c b o rfl hn e⟩⟩
theorem BIn.dom {S : Nat → Prop} {W : World} {A : Option Addr} {n c : Nat} {l : Bytes} (h : BIn S W (.slice A n c) l) : ∀ b o, 0 < n → A = some ⟨b, o, none⟩ → S b := by
  obtain ⟨A', n', c', e, _, _, hs⟩ := h
  cases e
  exact hs
def NfL (W : World) (vs : List Value) : Prop := ∀ v ∈ vs, NfV W v
theorem NfL.get {W : World} {vs : List Value} (h : NfL W vs) (j : Nat) : NfV W (vs.getD j (.slice none 0 0)) := by
  rw [List.getD_eq_getElem?_getD]
  cases hj : vs[j]? with
  | none => intro A n c b o e hn; cases e; omega
  | some v => exact h v (List.mem_of_getElem? hj)
/-- A row of pairs of such slices. -/
def NfR (W : World) (A : Option Addr) (n : Nat) : Prop := 0 < n → ∃ b o, A = some ⟨b, o, none⟩ ∧ ∀ j, j < n → ∃ kv xv, W.cell? ⟨b, o + j * 2, none⟩ = some kv ∧ W.cell? ⟨b, o + j * 2 + 1, none⟩ = some xv ∧ NfV W kv ∧ NfV W xv
theorem nfR_of {base n c : Nat} {W : World} {A : Option Addr} {vs : List Value} (ho : W.ownsRow base 39 2 (.slice A n c) n vs) (h : NfL W vs) : NfR W A n := fun hn => by
  have hl := ho.1
  rcases ho.2 with ⟨hv, h0⟩ | ⟨g, cap, cur, hv, _⟩
  · omega
  · injection hv with e1 e2 e3
    subst e1
    refine ⟨g, 0, rfl, fun j hj => ?_⟩
    have h0 := World.ownsRow.cellAt ho (j := j * 2) (by omega)
    have h1 := World.ownsRow.cellAt ho (j := j * 2 + 1) (by omega)
    rw [List.getElem?_eq_getElem (by omega)] at h0 h1
    rw [Nat.zero_add]
    exact ⟨_, _, h0, h1, h _ (List.getElem_mem _), h _ (List.getElem_mem _)⟩

theorem Nf.setCell {W : World} {b : Nat} (h : Nf W b) (b' o : Nat) (v : Value) : Nf (W.setCell ⟨b', o, none⟩ v) b := by
  obtain ⟨arr, T, h⟩ := h
  by_cases e : b = b'
  · subst e
    exact ⟨arr.setIfInBounds o v, T, by simp [World.setCell, Array.getElem?_modify, h]⟩
  · exact ⟨arr, T, (Go.Deep.blk_setCell_other W ⟨b', o, none⟩ v b e).trans h⟩
theorem NfV.set {W : World} {v : Value} (h : NfV W v) (b' o : Nat) (u : Value) : NfV (W.setCell ⟨b', o, none⟩ u) v := fun A n c b o' e hn ea => (h A n c b o' e hn ea).setCell _ _ _
def NfP (W : World) (u : Value) : Prop := ∀ kv xv, u = .agg #[kv, xv] → NfV W kv ∧ NfV W xv
theorem NfL.carry {S : Nat → Prop} {W W1 : World} {vs : List Value} {L : Pairs} (h : NfL W vs) (hp : PsOf S W vs L) (hb : ∀ b, S b → b < W.heap.size → W1.heap[b]? = W.heap[b]?) : NfL W1 vs := fun v hv => by
  obtain ⟨i, hi, rfl⟩ := List.getElem_of_mem hv
  have hl := hp.len
  obtain ⟨kv, xv, h1, h2, h3, h4⟩ := hp.at_ (i / 2) (by omega)
  have key : ∃ l, BIn S W vs[i] l := by
    by_cases e : i % 2 = 0
    · rw [show i / 2 * 2 = i by omega, List.getElem?_eq_getElem hi] at h1
      injection h1 with h1
      exact ⟨_, h1 ▸ h3⟩
    · rw [show i / 2 * 2 + 1 = i by omega, List.getElem?_eq_getElem hi] at h2
      injection h2 with h2
      exact ⟨_, h2 ▸ h4⟩
  obtain ⟨l, hB⟩ := key
  intro A n c b o e hn ea
  have hnf := h _ hv A n c b o e hn ea
  rw [e] at hB
  exact hnf.same (hb b (hB.dom b o hn ea) hnf.lt)

set_option maxHeartbeats 1600000 in
theorem clone_nf {S : Nat → Prop} (v : Value) (l : Bytes) (w : World) (h : BIn S w v l) :
    Calls Try.prog 73 #[v] w fun e w' => ∃ A n c, e = .returned (.slice A n c) ∧ BIn (New w.heap.size) w' (.slice A n c) l ∧ Below w.heap.size w w' ∧ NfV w' (.slice A n c) := by
  obtain ⟨A, n, c, rfl, ⟨hc, h5⟩, hR, _⟩ := h
  have q27 := nil27
  obtain ⟨i0, hi, hz0, hz1, hz2⟩ := info_parts info5
  have hlen := hR.len
  cases A with
  | none =>
    have hn : n = 0 := by
      rcases Nat.eq_zero_or_pos n with h | h
      · exact h
      · obtain ⟨b, o, e, _⟩ := hR.cell h; cases e
    subst hn
    clear hR
    go_enter Try.func73, Try.ntmps73
    go_wp2
    go_ret
    exact ⟨_, _, _, rfl, ⟨none, 0, 0, rfl, ⟨Nat.le_refl _, by omega⟩, ⟨hlen, by omega, fun h => by omega⟩, fun b o h => by omega⟩, Below.refl _ _, fun _ _ _ _ _ e hn => by cases e; omega⟩
  | some a =>
    have HA : Hid (∀ i, i < n → w.cell? (a.add i) = some (.int .u8 ((l.getD i 0).toNat : Int))) := by
      intro i hi
      obtain ⟨b, o, e, _, hcell⟩ := hR.cell (by omega)
      cases e
      rw [addP]
      exact hcell i hi
    clear hR
    go_enter Try.func73, Try.ntmps73
    go_wp2_with (at_builtin; refine wpList_append_own _ rfl _ _ 27 rfl w.heap.size 5 i0 (.int .u8 0) 1 1 Try.underlying27 hi hz0 hz1 hz2 rfl (by decide) _ _ _ rfl (World.ownsRow_made w #[] 0 (Nat.le_refl _) (Nat.zero_le _) rfl) a n c (bvals l) rfl ?qc1 ?qc2 ?qc3 ?qc4 ?qc5 ?qc6 ?_)
    case qc1 => simp [bvals]; omega
    case qc2 =>
      intro j u hj
      have hjn : j < n := by
        have := (List.getElem?_eq_some_iff.1 hj).1
        simp [bvals] at this
        omega
      refine Lib.cell?_alloc_some _ ?_
      rw [HA.out j hjn]
      have e : (bvals l)[j]? = some (Value.int .u8 ((l.getD j 0).toNat : Int)) := by simp [bvals, List.getD, List.getElem?_eq_getElem (show j < l.length by omega)]
      rw [e] at hj
      exact hj
    case qc3 => intro u hu; obtain ⟨x, _, rfl⟩ := List.mem_map.1 hu; rfl
    case qc4 => unfold maxLen; omega
    case qc5 => omega
    case qc6 => simp
    intro v' w1 hown hgrow hnil
    have hb : Below w.heap.size w w1 := ((Below.refl _ w).alloc (Nat.le_refl _) _).grown hgrow (by simp) (by intro k hk; simp [Value.ownBlock] at hk; omega)
    have hB : BIn (New w.heap.size) w1 v' l := BIn.owned hlen h5 (by simpa using hown)
    have HB := Lib.hid hb
    have HNF : Hid (NfV w1 v') := by
      have hv : NfV w1 v' := by
        rcases hown.2 with ⟨hv, hn⟩ | ⟨g, cap, cur, hv, _, hg, _⟩
        · intro A n c b o e hn' ea; rw [hv] at e; cases e; omega
        · intro A n c b o e hn' ea; rw [hv] at e; cases e; cases ea; exact ⟨_, _, hg⟩
      exact hv
    have HI := Lib.hid hB
    clear hown hgrow hnil hb hB
    go_wp2
    go_ret
    obtain ⟨A', n', c', rfl, h'⟩ := HI.out
    exact ⟨A', n', c', rfl, HI.out, HB.out, HNF.out⟩

set_option maxHeartbeats 3200000 in
theorem own_nf {S : Nat → Prop} (v : Value) (k x : Bytes) (w : World) (h : PIn S w v k x) :
    Calls Try.prog 49 #[v] w fun e w' => ∃ u, e = .returned u ∧ PIn (New w.heap.size) w' u k x ∧ Below w.heap.size w w' ∧ NfP w' u := by
  obtain ⟨kv, xv, rfl, hk, hx⟩ := h
  obtain ⟨A, n, c, rfl, hk0⟩ := id hk
  obtain ⟨A', n', c', rfl, hx0⟩ := id hx
  clear hk0 hx0
  have h0 : Two ((w.alloc (.cells #[.slice A n c, .slice A' n' c'] 39)).alloc (.cells #[.slice none 0 0, .slice none 0 0] 39)) w.heap.size (.slice A n c) (.slice A' n' c') := heap_old _ (heap_new w _)
  have h1 : Two ((w.alloc (.cells #[.slice A n c, .slice A' n' c'] 39)).alloc (.cells #[.slice none 0 0, .slice none 0 0] 39)) (w.heap.size + 1) (.slice none 0 0) (.slice none 0 0) := by
    have := heap_new (w.alloc (.cells #[.slice A n c, .slice A' n' c'] 39)) (.cells #[.slice none 0 0, .slice none 0 0] 39)
    rw [World.size_alloc] at this
    exact this
  have hb := ((Below.refl _ w).alloc (Nat.le_refl _) (.cells #[.slice A n c, .slice A' n' c'] 39)).alloc (by simp) (.cells #[.slice none 0 0, .slice none 0 0] 39)
  have hk1 := hk.below hb
  have hx1 := hx.below hb
  have H0 := Lib.hid h0
  have H1 := Lib.hid h1
  have HB := Lib.hid hb
  have HK := Lib.hid hk1
  have HX := Lib.hid hx1
  clear h0 h1 hb hk1 hx1 hk hx
  go_enter Try.func49, Try.ntmps49
  go_wp2_with fail
  obtain ⟨c0, c1⟩ := H0.out.cells
  generalize (w.alloc (.cells #[.slice A n c, .slice A' n' c'] 39)).alloc (.cells #[.slice none 0 0, .slice none 0 0] 39) = X at *
  go_region_held3 (fun w' => w'.cell? ⟨w.heap.size, 0, none⟩ = some (.slice A n c) ∧ w'.cell? ⟨w.heap.size, 1, none⟩ = some (.slice A' n' c'))
    (first | with_reducible exact ⟨c0, c1⟩ | with_reducible exact K0.out.cells | with_reducible exact L0.out.cells | go_keep)
    (first
      | (go_at_call 73; (with_reducible refine (clone_nf (.slice A n c) k _ (HK.out.below (below_drew2 (Below.refl _ _)))).mono ?_); rintro e wa ⟨A1, n1, c1, rfl, hB1, hb1, hf1⟩; have F1 : Hid (NfV wa (.slice A1 n1 c1)) := hf1; have K0 : Hid (Two wa w.heap.size (.slice A n c) (.slice A' n' c')) := H0.out.below (below_drew1 hb1) H0.out.lt; have K1 : Hid (Two wa (w.heap.size + 1) (.slice none 0 0) (.slice none 0 0)) := H1.out.below (below_drew1 hb1) H1.out.lt; have KB : Hid (Below w.heap.size w wa) := HB.out.trans ((below_drew1 hb1).mono HB.out.size); have KX : Hid (BIn S wa (.slice A' n' c') x) := HX.out.below (below_drew1 hb1); have KK : Hid (BIn (New X.heap.size) wa (.slice A1 n1 c1) k) := hB1; have KS : Hid (X.heap.size ≤ wa.heap.size) := hb1.size; clear hB1 hb1 hf1)
      | (go_at_call 73; (with_reducible refine (clone_nf (.slice A' n' c') x _ KX.out).mono ?_); rintro e wb ⟨A2, n2, c2, rfl, hB2, hb2, hf2⟩; have F2 : Hid (NfV wb (.slice A1 n1 c1) ∧ NfV wb (.slice A2 n2 c2)) := ⟨F1.out.below hb2, hf2⟩; have L0 : Hid (Two wb w.heap.size (.slice A n c) (.slice A' n' c')) := K0.out.below hb2 K0.out.lt; have L1 : Hid (Two wb (w.heap.size + 1) (.slice none 0 0) (.slice none 0 0)) := K1.out.below hb2 K1.out.lt; have LB : Hid (Below w.heap.size w wb) := KB.out.trans (hb2.mono KB.out.size); have LK : Hid (BIn (New X.heap.size) wb (.slice A1 n1 c1) k) := KK.out.below hb2; have LX : Hid (BIn (New X.heap.size) wb (.slice A2 n2 c2) x) := hB2.imp (fun b _ hb => Nat.le_trans KS.out hb); clear hB2 hb2 hf2; obtain ⟨z0, z1⟩ := L1.out.cells; have f0 := frozen_of_row _ _ 0 _ _ L1.out; have f1 := frozen_of_row _ _ 1 _ _ L1.out))
  have hfin := L1.out.set (.slice A1 n1 c1) (.slice A2 n2 c2)
  have h1lt := H1.out.lt
  have hres : PIn (New w.heap.size) ((wb.setCell ⟨w.heap.size + 1, 0, none⟩ (.slice A1 n1 c1)).setCell ⟨w.heap.size + 1, 1, none⟩ (.slice A2 n2 c2)) (.agg #[.slice A1 n1 c1, .slice A2 n2 c2]) k x :=
    ⟨_, _, rfl, (LK.out.set2 h1lt _ _).imp fun b _ hb => Nat.le_trans HB.out.size hb, (LX.out.set2 h1lt _ _).imp fun b _ hb => Nat.le_trans HB.out.size hb⟩
  have hbel := (LB.out.setCell (p := ⟨w.heap.size + 1, 0, none⟩) (by simp) (.slice A1 n1 c1)).setCell (p := ⟨w.heap.size + 1, 1, none⟩) (by simp) (.slice A2 n2 c2)
  have HF := Lib.hid hfin
  have HR := Lib.hid hres
  have HL := Lib.hid hbel
  have HNP : Hid (NfP ((wb.setCell ⟨w.heap.size + 1, 0, none⟩ (.slice A1 n1 c1)).setCell ⟨w.heap.size + 1, 1, none⟩ (.slice A2 n2 c2)) (.agg #[.slice A1 n1 c1, .slice A2 n2 c2])) := fun kv xv e => by cases e; exact ⟨(F2.out.1.set _ _ _).set _ _ _, (F2.out.2.set _ _ _).set _ _ _⟩
  clear hfin hres hbel
  go_wp2_with fail
  exact bodyPost_ret (results_cell_row rfl _ _ (w.heap.size + 1) 39 _ (0, 0) _ (by rfl) HF.out Try.underlying39 rfl info39) rfl ⟨_, rfl, HR.out, HL.out, HNP.out⟩

/-- A list on its way: its variable, its row, its pairs. -/
structure LstNV (base ob : Nat) (W : World) (A : Option Addr) (c : Nat) (vs : List Value) (L : Pairs) : Prop where
  le : base ≤ ob
  var : W.heap[ob]? = some (.cells #[.slice A L.length c] 33 (0, 0))
  own : W.ownsRow base 39 2 (.slice A L.length c) L.length vs
  ne : (Value.slice A L.length c).ownBlock ≠ some ob
  ps : PsOf (fun b => base ≤ b ∧ b ≠ ob ∧ (Value.slice A L.length c).ownBlock ≠ some b) W vs L
  nf : NfL W vs
def LstN (base ob : Nat) (W : World) (L : Pairs) : Prop := ∃ A c vs, LstNV base ob W A c vs L ∧ A ≠ none

theorem LstNV.step {base ob : Nat} {W wa w1 : World} {A : Option Addr} {c : Nat} {vs : List Value} {L : Pairs} {kv xv : Value} {k x : Bytes} {g cap : Nat} {o : Obj} (h : LstNV base ob W A c vs L) (hb : Below W.heap.size W wa)
    (hk : BIn (New W.heap.size) wa kv k) (hx : BIn (New W.heap.size) wa xv x) (hnk : NfV wa kv) (hnx : NfV wa xv) (hown : w1.ownsRow base 39 2 (.slice (some ⟨g, 0, none⟩) (L.length + 1) cap) (L.length + 1) (vs ++ [kv, xv]))
    (hgr : (wa.alloc o).grownBy w1 (Value.slice A L.length c).ownBlock) (hat : (Value.slice A L.length c).ownBlock = some g ∨ g = wa.heap.size + 1) :
    LstN base ob (w1.setCell ⟨ob, 0, none⟩ (.slice (some ⟨g, 0, none⟩) (L.length + 1) cap)) (L ++ [(k, x)]) ∧ Below base W (w1.setCell ⟨ob, 0, none⟩ (.slice (some ⟨g, 0, none⟩) (L.length + 1) cap)) := by
  have hobl := (Array.getElem?_eq_some_iff.1 h.var).1
  have hsz := hb.size
  have hle := h.le
  have hs1 : (wa.alloc o).heap.size = wa.heap.size + 1 := by simp
  have hgs := hgr.size
  have hown0 := fun k (e : (Value.slice A L.length c).ownBlock = some k) => h.own.lt k e
  have hgob : g ≠ ob := by
    rcases hat with e | e
    · intro e2; subst e2; exact h.ne e
    · omega
  -- a block of W that is none of the two
  have far : ∀ b, b < W.heap.size → b ≠ ob → (Value.slice A L.length c).ownBlock ≠ some b → (w1.setCell ⟨ob, 0, none⟩ (.slice (some ⟨g, 0, none⟩) (L.length + 1) cap)).heap[b]? = W.heap[b]? := by
    intro b hlt h1 h2
    rw [heap_setCell_other _ _ _ _ (by simpa using h1), hgr.block b (by omega) (fun e => h2 e.symm), Below.heap_alloc wa o b (by omega), hb.block b hlt]
  have far2 : ∀ b, New W.heap.size b → b < wa.heap.size → (w1.setCell ⟨ob, 0, none⟩ (.slice (some ⟨g, 0, none⟩) (L.length + 1) cap)).heap[b]? = wa.heap[b]? := by
    intro b hge hlt
    have hge' : W.heap.size ≤ b := hge
    rw [heap_setCell_other _ _ _ _ (by simp only; omega), hgr.block b (by omega) (fun e => by have := hown0 b e.symm; omega), Below.heap_alloc wa o b hlt]
  have hsize : W.heap.size ≤ (w1.setCell ⟨ob, 0, none⟩ (.slice (some ⟨g, 0, none⟩) (L.length + 1) cap)).heap.size := by simp; omega
  have hsize2 : wa.heap.size ≤ (w1.setCell ⟨ob, 0, none⟩ (.slice (some ⟨g, 0, none⟩) (L.length + 1) cap)).heap.size := by simp; omega
  have new : ∀ b, b < wa.heap.size → New W.heap.size b → base ≤ b ∧ b ≠ ob ∧ (Value.slice (some ⟨g, 0, none⟩) (L ++ [(k, x)]).length cap).ownBlock ≠ some b := by
    intro b hlt hge
    have hge' : W.heap.size ≤ b := hge
    refine ⟨by omega, by omega, ?_⟩
    simp only [Value.ownBlock]
    intro e
    cases e
    rcases hat with e | e
    · have := hown0 _ e; omega
    · omega
  refine ⟨⟨some ⟨g, 0, none⟩, cap, vs ++ [kv, xv], ⟨hle, ?_, ?_, ?_, ?_, ?_⟩, by simp⟩, ?_⟩
  · have e1 : w1.heap[ob]? = some (.cells #[.slice A L.length c] 33 (0, 0)) := by
      rw [hgr.block ob (by omega) (fun e => h.ne e.symm), Below.heap_alloc wa o ob (by omega), hb.block ob hobl]; exact h.var
    simp [World.setCell, Array.getElem?_modify, e1]
  · rw [List.length_append, List.length_singleton]
    exact own_set hown (by simp [Value.ownBlock]; exact hgob) _ _
  · simp [Value.ownBlock]; exact hgob
  · refine PsOf.snoc (PsOf.imp (PsOf.carry (S := fun b => (base ≤ b ∧ b ≠ ob ∧ (Value.slice A L.length c).ownBlock ≠ some b) ∧ b < W.heap.size) (h.ps.imp fun b hlt hb => ⟨hb, hlt⟩) hsize fun b hb hlt => far b hlt hb.1.2.1 hb.1.2.2) ?_) ?_ ?_
    · intro b _ hb
      refine ⟨hb.1.1, hb.1.2.1, ?_⟩
      simp only [Value.ownBlock]
      intro e
      cases e
      rcases hat with e | e
      · exact hb.1.2.2 e
      · have := hb.2; omega
    · exact BIn.imp (BIn.carry (S := fun b => New W.heap.size b ∧ b < wa.heap.size) (hk.imp fun b hlt hb => ⟨hb, hlt⟩) hsize2 fun b hb hlt => far2 b hb.1 hlt) fun b _ hb => new b hb.2 hb.1
    · exact BIn.imp (BIn.carry (S := fun b => New W.heap.size b ∧ b < wa.heap.size) (hx.imp fun b hlt hb => ⟨hb, hlt⟩) hsize2 fun b hb hlt => far2 b hb.1 hlt) fun b _ hb => new b hb.2 hb.1
  · have hold : NfL (w1.setCell ⟨ob, 0, none⟩ (.slice (some ⟨g, 0, none⟩) (L.length + 1) cap)) vs := h.nf.carry h.ps fun b hb hlt => far b hlt hb.2.1 hb.2.2
    have hone : ∀ v l, BIn (New W.heap.size) wa v l → NfV wa v → NfV (w1.setCell ⟨ob, 0, none⟩ (.slice (some ⟨g, 0, none⟩) (L.length + 1) cap)) v := fun v l hB hN A n c b o e hn ea => by
      have hnf := hN A n c b o e hn ea
      rw [e] at hB
      exact hnf.same (far2 b (hB.dom b o hn ea) hnf.lt)
    intro v hv
    rcases List.mem_append.1 hv with hv | hv
    · exact hold v hv
    · rcases List.mem_cons.1 hv with rfl | hv
      · exact hone _ _ hk hnk
      · rw [List.mem_singleton] at hv
        subst hv
        exact hone _ _ hx hnx
  · exact ((((Below.refl _ W).trans ((hb.mono (Nat.le_trans hle (Nat.le_of_lt hobl))))).alloc (by omega) o).grown hgr (by simp; omega) (fun k e => (hown0 k e).1)).setCell (p := ⟨ob, 0, none⟩) hle _

set_option maxRecDepth 100000 in
set_option maxHeartbeats 6400000 in
theorem lstep_nf {S : Nat → Prop} (base ob b : Nat) (kv xv lv rv : Value) (sz : Int) (k x : Bytes) (L : Pairs) (W : World) (hh : W.heap[b]? = some (.cells #[kv, xv, lv, rv, .int .i64 sz] 80 (0, 0)))
    (hk : BIn S W kv k) (hx : BIn S W xv x) (hL : LstN base ob W L) (hn : L.length ≤ 1000000) :
    Calls Try.prog 48 #[.pointer (some ⟨b, 0, none⟩), .pointer (some ⟨ob, 0, none⟩)] W fun e W' => e = .returned (.bool true) ∧ LstN base ob W' (L ++ [(k, x)]) ∧ Below base W W' := by
  obtain ⟨A, c, vs, hL, _⟩ := hL
  have hob := hL.var
  obtain ⟨i0, hi, hz0, hz1, hz2⟩ := info_parts info39b
  obtain ⟨Ak, nk, ck, rfl⟩ := hk.slice
  obtain ⟨Ax, nx, cx, rfl⟩ := hx.slice
  obtain ⟨c0, c1, _, _, _⟩ := node_cells hh
  have o0 := cell_of_row W ob 0 _ _ _ hob
  have of0 := frozen_of_row W ob 0 _ _ hob
  dsimp at o0
  have hobl := (Array.getElem?_eq_some_iff.1 hob).1
  have HL := Lib.hid hL
  have HO := Lib.hid (own_nf (.agg #[.slice Ak nk ck, .slice Ax nx cx]) k x W.drew ⟨_, _, rfl, hk.below (below_drew2 (Below.refl _ _)), hx.below (below_drew2 (Below.refl _ _))⟩)
  have hbl := World.block_lt_of_cell? W _ c0
  have hbob : ¬ (b = ob) := by
    intro e
    subst e
    rw [hh] at hob
    cases hob
  have hobb : ¬ (ob = b) := fun e => hbob e.symm
  have HBV : Hid (some b ≠ (Value.slice A L.length c).ownBlock) := by
    intro e
    have h2 := hL.own
    rcases h2.2 with ⟨hv, _⟩ | ⟨g, cap, cur, hv, _, hg, _⟩
    · rw [hv] at e; cases e
    · rw [hv] at e
      simp only [Value.ownBlock, Option.some.injEq] at e
      subst e
      rw [hh] at hg
      cases hg
  clear hh hL hob hk hx
  go_enter Try.func48, Try.ntmps48
  go_wp2_with fail
  refine start_ (n := 9) (S := fun w' => w'.cell? ⟨ob, 0, none⟩ = some (.slice A L.length c) ∧ w'.cell? ⟨b, 0, none⟩ = some (.slice Ak nk ck) ∧ w'.cell? ⟨b, 1, none⟩ = some (.slice Ax nx cx)) (ds := [8]) #[false, false, false, false, false, false, false, false, false] (by kernel_rfl) rfl rfl ⟨o0, c0, c1⟩ (fun hHeld => ?_)
  refine take_ (i := 0) (N := some 4) (v := .slice A L.length c) (a' := ?aa1) #[true, false, false, false, false, false, false, false, false] rfl rfl (by kernel_rfl) (fun _ _ _ h => h) (Or.inl ⟨by rfl, ?hy1⟩) hHeld ?ha1 ?hn1
  case hy1 =>
    rintro w' ⟨h1_, h2_, h3_⟩
    go_simp
  case ha1 =>
    simp only [Act.put, List.setIfInBounds_toArray, List.set_cons_zero, List.set_cons_succ]
    rfl
  refine pure_ (i := 1) (N := some 5) (v := ?vv2) (a' := ?aa2) #[true, true, false, false, false, false, false, false, false] rfl rfl (by kernel_rfl) (fun _ _ _ h => h) (Or.inl ⟨by rfl, ?hy2⟩) ?ha2 ?hn2
  case hy2 =>
    intro w'
    go_simp
    with_reducible rfl
  case ha2 =>
    simp only [Act.put, List.setIfInBounds_toArray, List.set_cons_zero, List.set_cons_succ]
    rfl
  refine pure_ (i := 2) (N := some 6) (v := ?vv3) (a' := ?aa3) #[true, true, true, false, false, false, false, false, false] rfl rfl (by kernel_rfl) (fun _ _ _ h => h) (Or.inl ⟨by rfl, ?hy3⟩) ?ha3 ?hn3
  case hy3 =>
    intro w'
    go_simp
    with_reducible rfl
  case ha3 =>
    simp only [Act.put, List.setIfInBounds_toArray, List.set_cons_zero, List.set_cons_succ]
    rfl
  refine pure_ (i := 3) (N := some 7) (v := ?vv4) (a' := ?aa4) #[true, true, true, true, false, false, false, false, false] rfl rfl (by kernel_rfl) (fun _ _ _ h => h) (Or.inl ⟨by rfl, ?hy4⟩) ?ha4 ?hn4
  case hy4 =>
    intro w'
    go_simp
    with_reducible rfl
  case ha4 =>
    simp only [Act.put, List.setIfInBounds_toArray, List.set_cons_zero, List.set_cons_succ]
    rfl
  refine take_ (i := 4) (N := some 8) (v := .agg #[.slice Ak nk ck, .slice Ax nx cx]) (a' := ?aa5) #[true, true, true, true, true, false, false, false, false] rfl rfl (by kernel_rfl) (fun _ _ _ h => h) (Or.inl ⟨by rfl, ?hy5⟩) hHeld ?ha5 ?hn5
  case hy5 =>
    rintro w' ⟨h1_, h2_, h3_⟩
    go_simp
  case ha5 =>
    simp only [Act.put, List.setIfInBounds_toArray, List.set_cons_zero, List.set_cons_succ]
    rfl
  refine one_ (i := 5) (N := some 9) #[true, true, true, true, true, true, false, false, false] rfl rfl (by kernel_rfl) (by decide) (fun K hK => ?_)
  refine goes_ Try.func49 (by kernel_rfl) rfl #[.agg #[.slice Ak nk ck, .slice Ax nx cx]] (by rfl) rfl rfl (by simp only [List.map_toArray, List.map_cons, List.map_nil]; rfl) ?_
  refine HO.out.mono ?_
  rintro e wa ⟨u, rfl, hu, hb1, hfu⟩
  obtain ⟨kv', xv', rfl, hk', hx'⟩ := hu
  obtain ⟨A1, n1, c1', rfl⟩ := hk'.slice
  obtain ⟨A2, n2, c2', rfl⟩ := hx'.slice
  have HB1 : Hid (Below W.heap.size W wa) := below_drew1 hb1
  have HCA : Hid (∀ g i v, g < W.heap.size → W.cell? ⟨g, i, none⟩ = some v → wa.cell? ⟨g, i, none⟩ = some v) := fun g i v hg hv => (HB1.out.cell (p := ⟨g, i, none⟩) hg).trans hv
  have HK1 := Lib.hid hk'
  have HFU := Lib.hid (hfu _ _ rfl)
  clear hfu
  have HX1 := Lib.hid hx'
  clear hk' hx' hb1
  refine ⟨_, rfl, hK.out _ _ ⟨HCA.out _ _ _ hobl o0, HCA.out _ _ _ hbl c0, HCA.out _ _ _ hbl c1⟩ (fun hHeld => ?_)⟩
  simp only [Act.put, List.setIfInBounds_toArray, List.set_cons_zero, List.set_cons_succ]
  refine one_ (i := 6) (N := some 10) #[true, true, true, true, true, true, true, false, false] rfl rfl (by kernel_rfl) (by decide) (fun K hK => ?_)
  refine value_ (w1 := wa.alloc (.cells #[.slice A1 n1 c1', .slice A2 n2 c2'] 39)) (v := .slice (some ⟨wa.heap.size, 0, none⟩) 1 1) (by rfl) rfl ?_ ?_
  · go_simp
  refine hK.out _ _ ⟨(World.cell?_alloc_lt _ _ _ (by have := HB1.out.size; simp; omega)).trans hHeld.1, (World.cell?_alloc_lt _ _ _ (by have := HB1.out.size; simp; omega)).trans hHeld.2.1, (World.cell?_alloc_lt _ _ _ (by have := HB1.out.size; simp; omega)).trans hHeld.2.2⟩ (fun hHeld => ?_)
  simp only [Act.put, List.setIfInBounds_toArray, List.set_cons_zero, List.set_cons_succ]
  refine one_ (i := 7) (N := some 11) #[true, true, true, true, true, true, true, true, false] rfl rfl (by kernel_rfl) (by decide) (fun K hK => ?_)
  have hw2 : (wa.alloc (.cells #[.slice A1 n1 c1', .slice A2 n2 c2'] 39)).ownsRow base 39 2 (.slice A L.length c) L.length vs := (own_below HL.out.own HB1.out).alloc _
  refine step_append_lies _ rfl (.tmp 4) (.tmp 10) 33 rfl base 39 i0 (.agg #[.slice none 0 0, .slice none 0 0]) 2 48 Try.underlying33 hi hz0 hz1 hz2 rfl (by decide) (.slice A L.length c) L.length vs (by simp [Act.eval]) hw2 ⟨wa.heap.size, 0, none⟩ 1 1 [.slice A1 n1 c1', .slice A2 n2 c2'] (by simp [Act.eval]) rfl (World.news_of_block (heap_new wa _)) (by simp [Value.oneCell']) (by decide) (by unfold maxLen; omega) (by omega) (by have := HB1.out.size; have := HL.out.le; simp; omega) (wa.heap.size + 1) (by simp) ?_
  intro g cap w1 hown1 hgrow hat hlt1
  have HST := Lib.hid (HL.out.step HB1.out HK1.out HX1.out HFU.out.1 HFU.out.2 hown1 hgrow hat)
  have hvar : w1.heap[ob]? = some (.cells #[.slice A L.length c] 33 (0, 0)) := (hgrow.block ob (by have := HB1.out.size; simp; omega) (fun e => HL.out.ne e.symm)).trans ((Below.heap_alloc wa _ ob (by have := HB1.out.size; omega)).trans ((HB1.out.block ob hobl).trans HL.out.var))
  have ob1 : w1.cell? ⟨ob, 0, none⟩ = some (.slice A L.length c) := cell_of_row w1 ob 0 _ _ _ hvar
  have of1 : w1.frozen? ⟨ob, 0, none⟩ = false := frozen_of_row w1 ob 0 _ _ hvar
  refine hK.out _ _ ⟨ob1, (hgrow.cell_far ⟨b, 0, none⟩ (by have := HB1.out.size; simp; omega) HBV.out).trans hHeld.2.1, (hgrow.cell_far ⟨b, 1, none⟩ (by have := HB1.out.size; simp; omega) HBV.out).trans hHeld.2.2⟩ (fun hHeld => ?_)
  clear hown1 hgrow hat hw2
  simp only [Act.put, List.setIfInBounds_toArray, List.set_cons_zero, List.set_cons_succ]
  refine last_ (i := 8) (N := none) #[true, true, true, true, true, true, true, true, true] rfl rfl (by kernel_rfl) (by decide) (fun K hK => ?_)
  refine skip_ (w1 := w1.setCell ⟨ob, 0, none⟩ (.slice (some ⟨g, 0, none⟩) (L.length + 1) cap)) (by rfl) rfl ?_ ?_
  · go_simp
  refine hK.out _ _ ?_
  refine done_ (by kernel_rfl) ?_
  clear hHeld c0 c1 o0 of0 ob1 of1 hvar
  go_wp2_with fail
  go_ret
  exact ⟨rfl, HST.out.1, HST.out.2⟩
  

set_option maxHeartbeats 6400000 in
theorem eachL_nf {S : Nat → Prop} (base ob : Nat) (hS : ∀ b, S b → b < base) : ∀ (T : PT) (v : Value) (w : World) (L : Pairs), TIn S w v T → LstN base ob w L → L.length + T.size ≤ 1000000 →
    Calls Try.prog 47 #[v, fnL ob] w fun e w' => e = .returned (.bool true) ∧ LstN base ob w' (L ++ T.list) ∧ Below base w w' := by
  intro T
  induction T with
  | nil =>
    intro v w L hT hL _
    obtain rfl : v = .pointer none := hT
    have HL := Lib.hid hL
    clear hL
    go_enter Try.func47, Try.ntmps47
    go_wp2_with fail
    go_ret
    exact ⟨rfl, by rw [PT.list, List.append_nil]; exact HL.out, Below.refl _ _⟩
  | node l k x r ihl ihr =>
    intro v w L hT hL hn
    obtain ⟨b, kv, xv, lv, rv, rfl, hSb, hh, hk, hx, hl, hr⟩ := hT
    simp only [PT.size] at hn
    obtain ⟨lu, rfl⟩ := hl.ptr
    obtain ⟨ru, rfl⟩ := hr.ptr
    have HL1 := Lib.hid (ihl _ w L hl hL (by omega))
    have HH := Lib.hid hh
    have HK := Lib.hid hk
    have HX := Lib.hid hx
    have HR := Lib.hid hr
    have HI := Lib.hid ihr
    have hbb := hS b hSb
    obtain ⟨c0, c1, c2, c3, c4⟩ := node_cells hh
    clear hl hL hh hk hx hr ihl ihr
    go_enter Try.func47, Try.ntmps47
    go_wp2_with fail
    refine HL1.out.mono ?_
    rintro e w1 ⟨rfl, hL1, hb1⟩
    have hh1 := (hb1.block b hbb).trans HH.out
    have HST := Lib.hid (lstep_nf base ob b kv xv (.pointer lu) (.pointer ru) _ k x (L ++ l.list) w1 hh1 (HK.out.carry hb1.size fun b hb _ => hb1.block b (hS b hb)) (HX.out.carry hb1.size fun b hb _ => hb1.block b (hS b hb)) hL1 (by rw [List.length_append, PT.size_list]; omega))
    have HB1 := Lib.hid hb1
    clear c0 c1 c2 c3 c4 hL1 hb1 hh1
    go_wp2_with fail
    refine HST.out.mono ?_
    rintro e w2 ⟨rfl, hL2, hb2⟩
    have hb12 : Below base w w2 := HB1.out.trans hb2
    have hh2 := (hb12.block b hbb).trans HH.out
    obtain ⟨c0, c1, c2, c3, c4⟩ := node_cells hh2
    have HR2 := Lib.hid (HI.out _ w2 (L ++ l.list ++ [(k, x)]) (HR.out.carry hb12.size fun b hb _ => hb12.block b (hS b hb)) hL2 (by simp only [List.length_append, List.length_singleton, PT.size_list]; omega))
    have HB12 := Lib.hid hb12
    clear hL2 hb2 hb12 hh2
    go_wp2_with fail
    refine HR2.out.mono ?_
    rintro e w3 ⟨rfl, hL3, hb3⟩
    have HL3 := Lib.hid hL3
    have HB3 := Lib.hid (HB12.out.trans hb3)
    clear hL3 hb3 c0 c1 c2 c3 c4
    go_wp2_with fail
    go_ret
    exact ⟨rfl, by rw [PT.list]; simpa using HL3.out, HB3.out⟩

set_option maxHeartbeats 6400000 in
theorem listO_nf {S : Nat → Prop} (T : PT) (v : Value) (w : World) (hT : TIn S w v T) (hn : T.size ≤ 1000000) :
    Calls Try.prog 17 #[v] w fun e w' => ∃ A c vs, e = .returned (.slice A T.size c) ∧ OwnL w.heap.size w' A T.size c vs T.list ∧ Below w.heap.size w w' ∧ NfL w' vs := by
  obtain ⟨i0, hi, hz0, hz1, hz2⟩ := info_parts info39b
  obtain ⟨vu, rfl⟩ := hT.ptr
  have HS := Lib.hid (tsize_any T (.pointer vu) w hT)
  have HT := Lib.hid hT
  clear hT
  go_enter Try.func17, Try.ntmps17
  go_wp2_with fail
  refine HS.out.mono ?_
  rintro e w1 ⟨rfl, rfl⟩
  go_wp2_with (refine wpList_make_own _ rfl _ _ 33 rfl w.heap.size 39 i0 _ 2 Try.underlying33 hi hz0 hz1 .i64 .i64 _ T.size rfl rfl rfl (by rw [hz2]; omega) (by unfold maxLen; omega) (Nat.le_refl _) ?_)
  intro w1 hown hgr
  have hb1 : Below w.heap.size w w1 := ⟨hgr.os, hgr.tape, hgr.output, hgr.size, fun b hb => hgr.block b hb (by simp)⟩
  have hsz := hb1.size
  have hb2 := hb1.alloc hsz (.cells #[.slice (some ⟨w.heap.size, 0, none⟩) 0 T.size] 33)
  have hlt : w.heap.size < w1.heap.size := (hown.lt w.heap.size rfl).2
  have hL : LstN w.heap.size w1.heap.size (w1.alloc (.cells #[.slice (some ⟨w.heap.size, 0, none⟩) 0 T.size] 33)) [] :=
    ⟨some ⟨w.heap.size, 0, none⟩, T.size, [], ⟨hsz, heap_new w1 _, hown.alloc _, by simp [Value.ownBlock]; omega, ⟨rfl, fun j hj => by simp at hj⟩, fun v hv => by cases hv⟩, by simp⟩
  have hE := eachL_nf (S := fun b => S b ∧ b < w.heap.size) w.heap.size w1.heap.size (fun b hb => hb.2) T (.pointer vu) (w1.alloc (.cells #[.slice (some ⟨w.heap.size, 0, none⟩) 0 T.size] 33)) []
    ((HT.out.imp fun b hlt hb => ⟨hb, hlt⟩).carry hb2.size fun b hb _ => hb2.block b hb.2) hL (by simpa using hn)
  have HE := Lib.hid hE
  have HB2 := Lib.hid hb2
  clear hown hgr hb1 hb2 hL hE
  go_wp2_with fail
  refine HE.out.mono ?_
  rintro e w2 ⟨rfl, ⟨A, c, vs, hL, hA⟩, hb3⟩
  rw [List.nil_append] at hL
  have hvar := hL.var
  have hr : OwnL w.heap.size w2 A T.list.length c vs T.list := ⟨hA, rfl, hL.own, hL.ps.imp fun b _ hb => ⟨hb.1, hb.2.2⟩⟩
  rw [PT.size_list] at hvar hr
  have hc0 := cell_of_row w2 w1.heap.size 0 _ _ _ hvar
  dsimp at hc0
  have HR := Lib.hid hr
  have HNL := Lib.hid hL.nf
  have HB3 := Lib.hid (HB2.out.trans hb3)
  clear hL hvar hr hb3 hA
  go_wp2_with fail
  go_ret
  exact ⟨A, c, vs, rfl, HR.out, HB3.out, HNL.out⟩

theorem list_nf {S : Nat → Prop} (T : PT) (v : Value) (w : World) (hT : TIn S w v T) (hn : T.size ≤ 1000000) :
    Calls Try.prog 17 #[v] w fun e w' => ∃ A c, e = .returned (.slice A T.size c) ∧ T.size ≤ c ∧ LIn (New w.heap.size) w' A T.size T.list ∧ Below w.heap.size w w' ∧ NfR w' A T.size :=
  (listO_nf T v w hT hn).mono fun e w' ⟨A, c, vs, he, ho, hb, hnf⟩ => by
    obtain ⟨h1, h2⟩ := reads_own ho.own ho.ps ho.len (S := New w.heap.size) (fun _ _ h => h.1) (fun _ h => h)
    exact ⟨A, c, he, h2, h1, hb, nfR_of ho.own hnf⟩

end Go.Proofs.Ytlnlgahokifolaa
