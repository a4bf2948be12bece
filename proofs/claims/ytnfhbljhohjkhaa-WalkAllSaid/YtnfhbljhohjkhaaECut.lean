/- The walks of the stretches: Span.Empty, from, three, Cut, Out, Count. -/
import Derived.Test.YtnfhbljhohjkhaaECutPlain
set_option linter.unusedVariables false
set_option linter.unusedSimpArgs false
namespace Go.Proofs.Ytnfhbljhohjkhaa
open Go.RowKit
attribute [local go_sem] max2_num min2_num maxOf_two minOf_two

/-- A stretch as it lies. -/
def SIn (S : Nat → Prop) (w : World) (v : Value) (f t : Bytes) (c : Bool) : Prop := ∃ fv tv, v = .agg #[fv, tv, .bool c] ∧ BIn S w fv f ∧ BIn S w tv t
theorem SIn.below {S : Nat → Prop} {w w1 : World} {v : Value} {f t : Bytes} {c : Bool} (h : SIn S w v f t c) (hb : Below w.heap.size w w1) : SIn S w1 v f t c := by
  obtain ⟨fv, tv, e, h1, h2⟩ := h
  exact ⟨fv, tv, e, h1.below hb, h2.below hb⟩
/-- Three cells of a block. -/
def Tri (T : TypeId) (W : World) (g : Nat) (u v x : Value) : Prop := W.heap[g]? = some (.cells #[u, v, x] T (0, 0))
theorem Tri.cells {T : TypeId} {W : World} {g : Nat} {u v x : Value} (h : Tri T W g u v x) : W.cell? ⟨g, 0, none⟩ = some u ∧ W.cell? ⟨g, 1, none⟩ = some v ∧ W.cell? ⟨g, 2, none⟩ = some x :=
  ⟨cell_of_row W g 0 _ _ _ h, cell_of_row W g 1 _ _ _ h, cell_of_row W g 2 _ _ _ h⟩
theorem Tri.lt {T : TypeId} {W : World} {g : Nat} {u v x : Value} (h : Tri T W g u v x) : g < W.heap.size := (Array.getElem?_eq_some_iff.1 h).1
theorem Tri.below {T : TypeId} {W W' : World} {g n : Nat} {u v x : Value} (h : Tri T W g u v x) (hb : Below n W W') (hn : g < n) : Tri T W' g u v x := (hb.block g hn).trans h
theorem Tri.all {T : TypeId} {w : World} {u v x : Value} : ∀ W, Below (w.alloc (.cells #[u, v, x] T)).heap.size (w.alloc (.cells #[u, v, x] T)) W → W.cell? ⟨w.heap.size, 0, none⟩ = some u ∧ W.cell? ⟨w.heap.size, 1, none⟩ = some v ∧ W.cell? ⟨w.heap.size, 2, none⟩ = some x := fun W hW =>
  (Tri.below (show Tri T (w.alloc (.cells #[u, v, x] T)) w.heap.size u v x from heap_new w _) hW (by simp)).cells

set_option maxHeartbeats 1600000 in
theorem empty_any {S : Nat → Prop} (v : Value) (f t : Bytes) (cl : Bool) (w : World) (h : SIn S w v f t cl) :
    Calls Try.prog 92 #[v] w fun e w' => e = .returned (.bool (cl && !decide (cmp t f = 1))) ∧ Below w.heap.size w w' := by
  obtain ⟨fv, tv, rfl, hf, ht⟩ := h
  obtain ⟨A, n, c, rfl⟩ := hf.slice
  obtain ⟨A', n', c', rfl⟩ := ht.slice
  have hb := (Below.refl _ w).alloc (Nat.le_refl _) (.cells #[.slice A n c, .slice A' n' c', .bool cl] 42)
  have HC := Lib.hid (compare_any (.slice A' n' c') (.slice A n c) t f _ (ht.below hb) (hf.below hb))
  have HB := Lib.hid hb
  have HQ := cmp3 t f
  clear hf ht hb
  cases cl with
  | false =>
    clear HQ
    go_enter Try.func92, Try.ntmps92
    go_wp2_with fail
    go_ret
    exact ⟨rfl, HB.out⟩
  | true =>
    go_enter Try.func92, Try.ntmps92
    go_wp2_with fail
    refine HC.out.mono ?_
    rintro e w1 ⟨rfl, rfl⟩
    rcases HQ with h | h | h <;> rw [h] <;> (have h' : Hid (cmp t f = _) := h; clear h; go_wp2_with fail; go_ret; exact ⟨by rw [h'.out]; rfl, HB.out⟩)

/-- What from tells. -/
def FromIn (S : Nat → Prop) (w w' : World) (e : Ending) (P Q : Pairs) : Prop :=
  ∃ u1 u2 TL TR, e = .returned (.tuple #[.pointer u1, .pointer u2]) ∧ Hid (TL.list = P ∧ TR.list = Q ∧ TL.even ∧ TR.even ∧ TIn (Up S w.heap.size) w' (.pointer u1) TL ∧ TIn (Up S w.heap.size) w' (.pointer u2) TR ∧ Below w.heap.size w w')

set_option maxRecDepth 100000 in
set_option maxHeartbeats 3200000 in
theorem from93_any {S S' : Nat → Prop} (T : PT) (v kv : Value) (key : Bytes) (w : World) (hT : TIn S w v T) (hK : BIn S' w kv key) (hev : T.even) (hasc : Asc T.list) (hn : T.size ≤ 100000) :
    Calls Try.prog 93 #[v, kv] w fun e w' => FromIn S w w' e (lessM T.list key) (geM T.list key) := by
  obtain ⟨tu, rfl⟩ := hT.ptr
  obtain ⟨A, n, c, rfl⟩ := hK.slice
  have HAT := Lib.hid (At_any key T (.pointer tu) (.slice A n c) w hT hK hev (by omega))
  have hcut := cut_plain T key hasc
  have hget := get_plain T key hasc
  have HLL : Hid ((lessM T.list key).length ≤ 100000 ∧ (moreM T.list key).length ≤ 100000) := by
    have h1 : (lessM T.list key).length ≤ T.list.length := List.length_filter_le _ _
    have h2 : (moreM T.list key).length ≤ T.list.length := List.length_filter_le _ _
    rw [PT.size_list] at h1 h2
    have h3 : (lessM T.list key).length ≤ 100000 := by omega
    have h4 : (moreM T.list key).length ≤ 100000 := by omega
    exact And.intro h3 h4
  cases hg : getM T.list key with
  | none =>
    have HP := Lib.hid (And.intro hcut (And.intro (hget.trans hg) (ge_more T.list key hasc hg)))
    clear hcut hget hg hT hK hev hasc
    go_enter Try.func93, Try.ntmps93
    go_wp2_with fail
    refine HAT.out.mono ?_
    rintro e w1 ⟨u1, u2, Av, nv, cv, ok, TL, TR, rfl, H⟩
    obtain rfl : ok = false := by rw [H.out.1, HP.out.2.1]; rfl
    have HF : Hid (TL.list = lessM T.list key ∧ TR.list = geM T.list key ∧ TL.even ∧ TR.even ∧ TIn (Up S w.heap.size) w1 (.pointer u1) TL ∧ TIn (Up S w.heap.size) w1 (.pointer u2) TR ∧ Below w.heap.size w w1) :=
      ⟨H.out.2.1.trans HP.out.1.1, (H.out.2.2.1.trans HP.out.1.2).trans HP.out.2.2.symm, H.out.2.2.2.1, H.out.2.2.2.2.1, H.out.2.2.2.2.2.1, H.out.2.2.2.2.2.2.1, H.out.2.2.2.2.2.2.2.2⟩
    go_wp2_with fail
    go_ret2
    exact ⟨u1, u2, TL, TR, rfl, HF⟩
  | some x =>
    have HP := Lib.hid (And.intro hcut (And.intro (hget.trans hg) (ge_cons T.list key x hasc hg)))
    have hal := at_less T.list key x hasc hg
    have hbl := below_less T key hasc
    have HCE : Hid (∀ W, Below w.heap.size w W → Calls Try.prog 102 #[.pointer tu, .slice A n c] W fun e w' => ∃ A1 n1 c1 A2 n2 c2 b, e = .returned (.tuple #[.agg #[.slice A1 n1 c1, .slice A2 n2 c2], .bool b]) ∧ Hid (PIn (New W.heap.size) w' (.agg #[.slice A1 n1 c1, .slice A2 n2 c2]) key x ∧ Below W.heap.size W w')) := fun W hW => by
      refine (ceil_any T (.pointer tu) (.slice A n c) key W (hT.below hW) (hK.below hW) (by omega)).mono ?_
      rintro e w' ⟨A1, n1, c1, A2, n2, c2, rfl, hp, hb⟩
      rw [hbl, if_pos ⟨by omega, by have := hal.1; omega⟩, Int.toNat_natCast, hal.2] at hp
      exact ⟨A1, n1, c1, A2, n2, c2, _, rfl, hp, hb⟩
    clear hcut hget hg hT hK hev hasc hal hbl
    go_enter Try.func93, Try.ntmps93
    go_wp2_with fail
    refine HAT.out.mono ?_
    rintro e w1 ⟨u1, u2, Av, nv, cv, ok, TL, TR, rfl, H⟩
    obtain rfl : ok = true := by rw [H.out.1, HP.out.2.1]; rfl
    have HB1 : Hid (Below w.heap.size w w1) := H.out.2.2.2.2.2.2.2.2
    go_wp2_with fail
    refine (HCE.out w1 HB1.out).mono ?_
    rintro e w2 ⟨A1, n1, c1, A2, n2, c2, b, rfl, H2⟩
    obtain ⟨hp2, hb2⟩ := H2.out
    obtain ⟨hk2, hx2⟩ := hp2.kx
    have hbn : Below w2.heap.size w2 (w2.alloc (.cells #[.slice A1 n1 c1, .slice A2 n2 c2] 40)) := (Below.refl _ _).alloc (Nat.le_refl _) _
    have hbx : Below w1.heap.size w1 (w2.alloc (.cells #[.slice A1 n1 c1, .slice A2 n2 c2] 40)) := hb2.trans (hbn.mono hb2.size)
    have HJ := Lib.hid (Join_any (S := Up S w.heap.size) .nil TR (.pointer none) (.agg #[.slice A1 n1 c1, .slice A2 n2 c2]) (.pointer u2) key x (w2.alloc (.cells #[.slice A1 n1 c1, .slice A2 n2 c2] 40)) rfl
      ⟨_, _, rfl, (hk2.below hbn).imp (fun b _ hb => .inr (Nat.le_trans HB1.out.size hb)), (hx2.below hbn).imp (fun b _ hb => .inr (Nat.le_trans HB1.out.size hb))⟩
      (H.out.2.2.2.2.2.2.1.below hbx) (by have h1 := HLL.out.2; have h2 := PT.size_of (H.out.2.2.1.trans HP.out.1.2); simp only [PT.size]; omega) trivial H.out.2.2.2.2.1)
    have HX : Hid (Below w.heap.size w (w2.alloc (.cells #[.slice A1 n1 c1, .slice A2 n2 c2] 40)) ∧ TIn (Up S w.heap.size) (w2.alloc (.cells #[.slice A1 n1 c1, .slice A2 n2 c2] 40)) (.pointer u1) TL) :=
      ⟨HB1.out.trans (hbx.mono HB1.out.size), H.out.2.2.2.2.2.1.below hbx⟩
    clear hp2 hb2 hk2 hx2 hbn hbx H2
    go_wp2_with fail
    refine HJ.out.mono ?_
    rintro e w3 ⟨u3, T3, rfl, a1, a2, a3, a4⟩
    have HF : Hid (TL.list = lessM T.list key ∧ T3.list = geM T.list key ∧ TL.even ∧ T3.even ∧ TIn (Up S w.heap.size) w3 (.pointer u1) TL ∧ TIn (Up S w.heap.size) w3 (.pointer u3) T3 ∧ Below w.heap.size w w3) :=
      ⟨H.out.2.1.trans HP.out.1.1, by rw [a1, HP.out.2.2, ← HP.out.1.2, ← H.out.2.2.1]; rfl, H.out.2.2.2.1, a2, HX.out.2.below a4, a3.imp (fun b _ hb => up_up HX.out.1.size b hb), HX.out.1.trans (a4.mono HX.out.1.size)⟩
    clear a1 a2 a3 a4
    go_wp2_with fail
    go_ret2
    exact ⟨u1, u3, TL, T3, rfl, HF⟩

/-- What three tells. -/
def ThreeIn (S : Nat → Prop) (w w' : World) (e : Ending) (P Q : Pairs) : Prop :=
  ∃ u1 u2 u3 T1 T2 T3, e = .returned (.tuple #[.pointer u1, .pointer u2, .pointer u3]) ∧ Hid (T2.list = P ∧ T1.list ++ T3.list = Q ∧ T1.even ∧ T2.even ∧ T3.even ∧
    TIn (Up S w.heap.size) w' (.pointer u1) T1 ∧ TIn (Up S w.heap.size) w' (.pointer u2) T2 ∧ TIn (Up S w.heap.size) w' (.pointer u3) T3 ∧ Below w.heap.size w w')

set_option maxRecDepth 100000 in
set_option maxHeartbeats 3200000 in
theorem three_any {S S' : Nat → Prop} (T : PT) (v sv : Value) (f t : Bytes) (cl : Bool) (w : World) (hT : TIn S w v T) (hs : SIn S' w sv f t cl) (hev : T.even) (hasc : Asc T.list) (hn : T.size ≤ 100000) :
    Calls Try.prog 68 #[v, sv] w fun e w' => ThreeIn S w w' e (cutM T.list f t cl true) (cutM T.list f t cl false) := by
  obtain ⟨tu, rfl⟩ := hT.ptr
  obtain ⟨fv, tv, rfl, hf, ht⟩ := hs
  obtain ⟨A, n, c, rfl⟩ := hf.slice
  obtain ⟨A', n', c', rfl⟩ := ht.slice
  have HC := Lib.hid (Tri.all (T := 42) (w := w) (u := .slice A n c) (v := .slice A' n' c') (x := .bool cl))
  have hb := (Below.refl _ w).alloc (Nat.le_refl _) (.cells #[.slice A n c, .slice A' n' c', .bool cl] 42)
  have HX : Hid (∀ W, Below (w.alloc (.cells #[.slice A n c, .slice A' n' c', .bool cl] 42)).heap.size (w.alloc (.cells #[.slice A n c, .slice A' n' c', .bool cl] 42)) W →
      Below w.heap.size w W ∧ TIn S W (.pointer tu) T ∧ BIn S' W (.slice A n c) f ∧ BIn S' W (.slice A' n' c') t) := fun W hW => by
    have h2 := hb.trans (hW.mono hb.size)
    exact ⟨h2, hT.below h2, hf.below h2, ht.below h2⟩
  have HT := Lib.hid (And.intro hev hasc)
  clear hb hf ht hT hev hasc
  go_enter Try.func68, Try.ntmps68
  go_upto_region 1 with fail
  generalize w.alloc (.cells #[.slice A n c, .slice A' n' c', .bool cl] 42) = X at *
  obtain ⟨b0, b1, b2⟩ := HC.out X (Below.refl _ _)
  have HE := Lib.hid (empty_any (.agg #[.slice A n c, .slice A' n' c', .bool cl]) f t cl X ⟨_, _, rfl, (HX.out X (Below.refl _ _)).2.2.1, (HX.out X (Below.refl _ _)).2.2.2⟩)
  by_cases hem : (cl && !decide (cmp t f = 1)) = true
  · rw [hem] at HE
    have HEM : Hid (cutM T.list f t cl true = [] ∧ cutM T.list f t cl false = T.list) := by
      rw [Bool.and_eq_true] at hem
      have hcl : cl = true := hem.1
      have hq : ¬ cmp t f = 1 := by have := hem.2; intro h; rw [decide_eq_true h] at this; cases this
      rw [hcl]
      have := cut_empty hq T.list
      exact this
    clear hem
    go_wp2_with fail
    refine HE.out.mono ?_
    rintro e w1 ⟨rfl, hb1⟩
    have HF : Hid (PT.nil.list = cutM T.list f t cl true ∧ T.list ++ PT.nil.list = cutM T.list f t cl false ∧ T.even ∧ PT.nil.even ∧ PT.nil.even ∧ TIn (Up S w.heap.size) w1 (.pointer tu) T ∧ TIn (Up S w.heap.size) w1 (.pointer none) .nil ∧ TIn (Up S w.heap.size) w1 (.pointer none) .nil ∧ Below w.heap.size w w1) :=
      ⟨HEM.out.1.symm, by rw [HEM.out.2]; exact List.append_nil _, HT.out.1, trivial, trivial, (HX.out w1 hb1).2.1.up _, rfl, rfl, (HX.out w1 hb1).1⟩
    clear b0 b1 b2 hb1
    go_wp2_with fail
    try simp only [Exit.inBlock, Exit.then]
    refine bodyPost_ret (results_tmp3 rfl _ _ _) rfl ?_
    exact ⟨tu, none, none, T, .nil, .nil, rfl, HF⟩
  · rw [Bool.not_eq_true] at hem
    rw [hem] at HE
    clear hem
    go_wp2_with fail
    refine HE.out.mono ?_
    rintro e w1 ⟨rfl, hb1⟩
    have B1 : Hid (Below X.heap.size X w1) := hb1
    clear b0 b1 b2 hb1
    obtain ⟨b0, b1, b2⟩ := HC.out w1 B1.out
    have HF1 := Lib.hid (from93_any T (.pointer tu) (.slice A n c) f w1 (HX.out w1 B1.out).2.1 (HX.out w1 B1.out).2.2.1 HT.out.1 HT.out.2 hn)
    go_wp2_with fail
    refine HF1.out.mono ?_
    rintro e w2 ⟨u1, u2, TL, TR, rfl, H2⟩
    have B2 : Hid (Below X.heap.size X w2) := B1.out.trans (H2.out.2.2.2.2.2.2.mono B1.out.size)
    have HU : Hid (w.heap.size ≤ w1.heap.size) := (HX.out w1 B1.out).1.size
    clear b0 b1 b2
    obtain ⟨b0, b1, b2⟩ := HC.out w2 B2.out
    cases cl with
    | false =>
      have HF : Hid (TR.list = cutM T.list f t false true ∧ TL.list ++ PT.nil.list = cutM T.list f t false false ∧ TL.even ∧ TR.even ∧ PT.nil.even ∧ TIn (Up S w.heap.size) w2 (.pointer u1) TL ∧ TIn (Up S w.heap.size) w2 (.pointer u2) TR ∧ TIn (Up S w.heap.size) w2 (.pointer none) .nil ∧ Below w.heap.size w w2) :=
        ⟨H2.out.2.1.trans (cut_open T.list f t).1.symm, by rw [(cut_open T.list f t).2, H2.out.1]; exact List.append_nil _, H2.out.2.2.1, H2.out.2.2.2.1, trivial, H2.out.2.2.2.2.1.imp (fun b _ hb => up_imp HU.out b hb), H2.out.2.2.2.2.2.1.imp (fun b _ hb => up_imp HU.out b hb), rfl, (HX.out w2 B2.out).1⟩
      go_wp2_with fail
      try simp only [Exit.inBlock, Exit.then]
      refine bodyPost_ret (results_tmp3 rfl _ _ _) rfl ?_
      exact ⟨u1, u2, none, TL, TR, .nil, rfl, HF⟩
    | true =>
      have hsz : TR.size ≤ 100000 := by
        have h1 := PT.size_of H2.out.2.1
        have h2 : (geM T.list f).length ≤ T.list.length := ge_len _ _
        rw [PT.size_list] at h2
        omega
      have HF2 := Lib.hid (from93_any TR (.pointer u2) (.slice A' n' c') t w2 H2.out.2.2.2.2.2.1 (HX.out w2 B2.out).2.2.2 H2.out.2.2.2.1 (by rw [H2.out.2.1]; exact ge_asc f HT.out.2) hsz)
      clear hsz
      go_wp2_with fail
      refine HF2.out.mono ?_
      rintro e w3 ⟨u3, u4, TL3, TR3, rfl, H3⟩
      have B3 : Hid (Below X.heap.size X w3) := B2.out.trans (H3.out.2.2.2.2.2.2.mono B2.out.size)
      have HU2 : Hid (w.heap.size ≤ w2.heap.size) := (HX.out w2 B2.out).1.size
      have HF : Hid (TL3.list = cutM T.list f t true true ∧ TL.list ++ TR3.list = cutM T.list f t true false ∧ TL.even ∧ TL3.even ∧ TR3.even ∧ TIn (Up S w.heap.size) w3 (.pointer u1) TL ∧ TIn (Up S w.heap.size) w3 (.pointer u3) TL3 ∧ TIn (Up S w.heap.size) w3 (.pointer u4) TR3 ∧ Below w.heap.size w w3) :=
        ⟨by rw [H3.out.1, H2.out.2.1, cut_closed], by rw [cut_rest T.list f t HT.out.2, H2.out.1, H3.out.2.1, H2.out.2.1], H2.out.2.2.1, H3.out.2.2.1, H3.out.2.2.2.1,
          (H2.out.2.2.2.2.1.below H3.out.2.2.2.2.2.2).imp (fun b _ hb => up_imp HU.out b hb),
          H3.out.2.2.2.2.1.imp (fun b _ hb => by
            rcases hb with hb | hb
            · exact up_imp HU.out b hb
            · exact .inr (Nat.le_trans HU2.out hb)),
          H3.out.2.2.2.2.2.1.imp (fun b _ hb => by
            rcases hb with hb | hb
            · exact up_imp HU.out b hb
            · exact .inr (Nat.le_trans HU2.out hb)), (HX.out w3 B3.out).1⟩
      clear b0 b1 b2
      go_wp2_with fail
      try simp only [Exit.inBlock, Exit.then]
      refine bodyPost_ret (results_tmp3 rfl _ _ _) rfl ?_
      exact ⟨u1, u3, u4, TL, TL3, TR3, rfl, HF⟩

/-- A tree that a call makes. -/
def TreeIn (S : Nat → Prop) (w w' : World) (e : Ending) (P : Pairs) : Prop :=
  ∃ u T, e = .returned (.pointer u) ∧ Hid (T.list = P ∧ T.even ∧ TIn (Up S w.heap.size) w' (.pointer u) T ∧ Below w.heap.size w w')

set_option maxHeartbeats 1600000 in
theorem scut_any {S S' : Nat → Prop} (T : PT) (v sv : Value) (f t : Bytes) (cl : Bool) (w : World) (hT : TIn S w v T) (hs : SIn S' w sv f t cl) (hev : T.even) (hasc : Asc T.list) (hn : T.size ≤ 100000) :
    Calls Try.prog 26 #[v, sv] w fun e w' => TreeIn S w w' e (cutM T.list f t cl true) := by
  obtain ⟨tu, rfl⟩ := hT.ptr
  obtain ⟨fv, tv, rfl, hf, ht⟩ := hs
  obtain ⟨A, n, c, rfl⟩ := hf.slice
  obtain ⟨A', n', c', rfl⟩ := ht.slice
  have hb := (Below.refl _ w).alloc (Nat.le_refl _) (.cells #[.slice A n c, .slice A' n' c', .bool cl] 42)
  have HTH := Lib.hid (three_any T (.pointer tu) (.agg #[.slice A n c, .slice A' n' c', .bool cl]) f t cl _ (hT.below hb) ⟨_, _, rfl, hf.below hb, ht.below hb⟩ hev hasc hn)
  obtain ⟨b0, b1, b2⟩ := Tri.all (T := 42) (w := w) (u := .slice A n c) (v := .slice A' n' c') (x := .bool cl) _ (Below.refl _ _)
  have HB := Lib.hid hb
  clear hf ht hb hT hev hasc
  go_enter Try.func26, Try.ntmps26
  go_wp2_with fail
  refine HTH.out.mono ?_
  rintro e w1 ⟨u1, u2, u3, T1, T2, T3, rfl, H⟩
  clear b0 b1 b2
  have HF : Hid (T2.list = cutM T.list f t cl true ∧ T2.even ∧ TIn (Up S w.heap.size) w1 (.pointer u2) T2 ∧ Below w.heap.size w w1) := ⟨H.out.1, H.out.2.2.2.1, H.out.2.2.2.2.2.2.1.imp (fun b _ hb => up_imp HB.out.size b hb), HB.out.trans (H.out.2.2.2.2.2.2.2.2.mono HB.out.size)⟩
  go_wp2_with fail
  go_ret
  exact ⟨u2, T2, rfl, HF⟩

set_option maxHeartbeats 1600000 in
theorem sout_any {S S' : Nat → Prop} (T : PT) (v sv : Value) (f t : Bytes) (cl : Bool) (w : World) (hT : TIn S w v T) (hs : SIn S' w sv f t cl) (hev : T.even) (hasc : Asc T.list) (hn : T.size ≤ 100000) :
    Calls Try.prog 27 #[v, sv] w fun e w' => TreeIn S w w' e (cutM T.list f t cl false) := by
  obtain ⟨tu, rfl⟩ := hT.ptr
  obtain ⟨fv, tv, rfl, hf, ht⟩ := hs
  obtain ⟨A, n, c, rfl⟩ := hf.slice
  obtain ⟨A', n', c', rfl⟩ := ht.slice
  have hb := (Below.refl _ w).alloc (Nat.le_refl _) (.cells #[.slice A n c, .slice A' n' c', .bool cl] 42)
  have HTH := Lib.hid (three_any T (.pointer tu) (.agg #[.slice A n c, .slice A' n' c', .bool cl]) f t cl _ (hT.below hb) ⟨_, _, rfl, hf.below hb, ht.below hb⟩ hev hasc hn)
  obtain ⟨b0, b1, b2⟩ := Tri.all (T := 42) (w := w) (u := .slice A n c) (v := .slice A' n' c') (x := .bool cl) _ (Below.refl _ _)
  have HB := Lib.hid hb
  have hlen : (cutM T.list f t cl false).length ≤ T.list.length := cutM_len _ _ _ _ _
  rw [PT.size_list] at hlen
  have HLN : Hid ((cutM T.list f t cl false).length ≤ 100000) := (by omega : (cutM T.list f t cl false).length ≤ 100000)
  clear hf ht hb hT hev hasc hlen
  go_enter Try.func27, Try.ntmps27
  go_wp2_with fail
  refine HTH.out.mono ?_
  rintro e w1 ⟨u1, u2, u3, T1, T2, T3, rfl, H⟩
  clear b0 b1 b2
  have hl : T1.size + T3.size ≤ 100000 := by
    have h1 := congrArg List.length H.out.2.1
    rw [List.length_append, PT.size_list, PT.size_list] at h1
    have := HLN.out
    omega
  have HP := Lib.hid (Pair_any (S := Up S w.heap.size) none (by simp) T1 T3 (.pointer u1) (.pointer u3) 0 0 w1 (H.out.2.2.2.2.2.1.imp (fun b _ hb => up_imp HB.out.size b hb)) (H.out.2.2.2.2.2.2.2.1.imp (fun b _ hb => up_imp HB.out.size b hb)) (fun b e => by cases e) H.out.2.2.1 H.out.2.2.2.2.1 (by omega) (by have := T3.height_le; omega))
  have HMV : Hid (mV none = .pointer none) := rfl
  rw [HMV.out] at HP
  have HB1 : Hid (Below w.heap.size w w1) := HB.out.trans (H.out.2.2.2.2.2.2.2.2.mono HB.out.size)
  clear hl HMV
  go_wp2_with fail
  refine HP.out.mono ?_
  rintro e w4 ⟨u4, T4, vi4, co4, rfl, a1, a2, a3, a4⟩
  have HF : Hid (T4.list = cutM T.list f t cl false ∧ T4.even ∧ TIn (Up S w.heap.size) w4 (.pointer u4) T4 ∧ Below w.heap.size w w4) := ⟨a1.trans H.out.2.1, a2, a3.imp (fun b _ hb => up_up HB1.out.size b hb), HB1.out.trans (a4.kept.to.mono HB1.out.size)⟩
  clear a1 a2 a3 a4 HP
  go_wp2_with fail
  go_ret
  exact ⟨u4, T4, rfl, HF⟩

set_option maxHeartbeats 3200000 in
theorem scount_any {S S' : Nat → Prop} (T : PT) (v sv : Value) (f t : Bytes) (cl : Bool) (w : World) (hT : TIn S w v T) (hs : SIn S' w sv f t cl) (hasc : Asc T.list) (hn : T.size ≤ 100000) :
    Calls Try.prog 28 #[v, sv] w fun e w' => e = .returned (.int .i64 ((cutM T.list f t cl true).length : Int)) ∧ Below w.heap.size w w' := by
  obtain ⟨tu, rfl⟩ := hT.ptr
  obtain ⟨fv, tv, rfl, hf, ht⟩ := hs
  obtain ⟨A, n, c, rfl⟩ := hf.slice
  obtain ⟨A', n', c', rfl⟩ := ht.slice
  have HC := Lib.hid (Tri.all (T := 42) (w := w) (u := .slice A n c) (v := .slice A' n' c') (x := .bool cl))
  have hb := (Below.refl _ w).alloc (Nat.le_refl _) (.cells #[.slice A n c, .slice A' n' c', .bool cl] 42)
  have HX : Hid (∀ W, Below (w.alloc (.cells #[.slice A n c, .slice A' n' c', .bool cl] 42)).heap.size (w.alloc (.cells #[.slice A n c, .slice A' n' c', .bool cl] 42)) W →
      Below w.heap.size w W ∧ TIn S W (.pointer tu) T ∧ BIn S' W (.slice A n c) f ∧ BIn S' W (.slice A' n' c') t) := fun W hW => by
    have h2 := hb.trans (hW.mono hb.size)
    exact ⟨h2, hT.below h2, hf.below h2, ht.below h2⟩
  have HCP := Lib.hid (count_plain T f t cl hasc)
  have le1 := T.belowT_le (fun k => decide (cmp k f = -1))
  have le2 := T.belowT_le (fun k => decide (cmp k t = -1))
  have lez : endT T t cl ≤ T.size := by unfold endT; split <;> omega
  have HLZ := Lib.hid lez
  clear hb hf ht hT hasc lez
  go_enter Try.func28, Try.ntmps28
  go_upto_region 1 with fail
  generalize w.alloc (.cells #[.slice A n c, .slice A' n' c', .bool cl] 42) = X at *
  obtain ⟨b0, b1, b2⟩ := HC.out X (Below.refl _ _)
  have HS := Lib.hid (tsize_any T (.pointer tu) X (HX.out X (Below.refl _ _)).2.1)
  go_wp2_with fail
  refine HS.out.mono ?_
  rintro e w1 ⟨rfl, rfl⟩
  cases cl with
  | false =>
    have HEN : Hid (endT T t false = T.size) := rfl
    have hcp := HCP.out
    rw [HEN.out] at hcp
    have HR := Lib.hid (rank_any T (.pointer tu) (.slice A n c) f X (HX.out X (Below.refl _ _)).2.1 (HX.out X (Below.refl _ _)).2.2.1 (by omega))
    generalize T.belowT (fun k => decide (cmp k f = -1)) = p at *
    have HCP2 := Lib.hid hcp
    have hw : IntKind.i64.wrap ((T.size : Int) - (p : Int)) = (T.size : Int) - (p : Int) := wsm _ (by omega)
    clear hcp
    go_wp2_with fail
    refine HR.out.mono ?_
    rintro e w2 ⟨rfl, hb2⟩
    have HB2 : Hid (Below w.heap.size w w2) := (HX.out w2 hb2).1
    clear b0 b1 b2 hb2
    go_wp2_with fail
    all_goals (go_ret; exact ⟨ret_num (by have h := HCP2.out; split at h <;> omega), HB2.out⟩)
  | true =>
    have HEN : Hid (endT T t true = T.belowT (fun k => decide (cmp k t = -1))) := rfl
    have hcp := HCP.out
    rw [HEN.out] at hcp
    have HR2 := Lib.hid (rank_any T (.pointer tu) (.slice A' n' c') t X (HX.out X (Below.refl _ _)).2.1 (HX.out X (Below.refl _ _)).2.2.2 (by omega))
    have HR := Lib.hid (fun W (hW : Below X.heap.size X W) => rank_any T (.pointer tu) (.slice A n c) f W (HX.out W hW).2.1 (HX.out W hW).2.2.1 (by omega))
    generalize T.belowT (fun k => decide (cmp k f = -1)) = p at *
    generalize T.belowT (fun k => decide (cmp k t = -1)) = p2 at *
    have HCP2 := Lib.hid hcp
    have hw : IntKind.i64.wrap ((p2 : Int) - (p : Int)) = (p2 : Int) - (p : Int) := wsm _ (by omega)
    clear hcp
    go_wp2_with fail
    refine HR2.out.mono ?_
    rintro e w2 ⟨rfl, hb2⟩
    have B2 : Hid (Below X.heap.size X w2) := hb2
    clear b0 b1 b2 hb2
    obtain ⟨b0, b1, b2⟩ := HC.out w2 B2.out
    go_wp2_with fail
    refine (HR.out w2 B2.out).mono ?_
    rintro e w3 ⟨rfl, hb3⟩
    have HB3 : Hid (Below w.heap.size w w3) := (HX.out w3 (B2.out.trans (hb3.mono B2.out.size))).1
    clear b0 b1 b2 hb3
    go_wp2_with fail
    all_goals (go_ret; exact ⟨ret_num (by have h := HCP2.out; split at h <;> omega), HB3.out⟩)

end Go.Proofs.Ytnfhbljhohjkhaa
