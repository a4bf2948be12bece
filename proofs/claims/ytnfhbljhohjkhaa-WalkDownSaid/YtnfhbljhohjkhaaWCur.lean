/- The package walk: the cursor's calls. -/
import Derived.Test.YtnfhbljhohjkhaaESpanOpen
set_option linter.unusedVariables false
set_option linter.unusedSimpArgs false
namespace Go.Proofs.Ytnfhbljhohjkhaa
open Go.RowKit
attribute [local go_sem] max2_num min2_num maxOf_two minOf_two

/-- A cursor as it lies: its tree, and its place. -/
def Cur (W : World) (g : Nat) (tv : Value) (k : Int) : Prop := W.heap[g]? = some (.cells #[tv, .int .i64 k] 114 (0, 0))
theorem Cur.cells {W : World} {g : Nat} {tv : Value} {k : Int} (h : Cur W g tv k) : W.cell? ⟨g, 0, none⟩ = some tv ∧ W.cell? ⟨g, 1, none⟩ = some (.int .i64 k) := ⟨cell_of_row W g 0 _ _ _ h, cell_of_row W g 1 _ _ _ h⟩
theorem Cur.lt {W : World} {g : Nat} {tv : Value} {k : Int} (h : Cur W g tv k) : g < W.heap.size := (Array.getElem?_eq_some_iff.1 h).1
theorem Cur.below {W W' : World} {g n : Nat} {tv : Value} {k : Int} (h : Cur W g tv k) (hb : Below n W W') (hn : g < n) : Cur W' g tv k := (hb.block g hn).trans h
theorem Cur.set {W : World} {g : Nat} {tv : Value} {k : Int} (h : Cur W g tv k) (k' : Int) : Cur (W.setCell ⟨g, 1, none⟩ (.int .i64 k')) g tv k' := by
  simp [Cur, World.setCell, Array.getElem?_modify, show W.heap[g]? = _ from h]
theorem Cur.other {W : World} {g b i : Nat} {tv v : Value} {k : Int} (h : Cur W g tv k) (hb : b ≠ g) : Cur (W.setCell ⟨b, i, none⟩ v) g tv k := by
  unfold Cur
  rw [heap_setCell_other _ _ _ _ (by simpa using hb.symm)]
  exact h
theorem Two.other {W : World} {g b i : Nat} {u v x : Value} (h : Two W g u v) (hb : b ≠ g) : Two (W.setCell ⟨b, i, none⟩ x) g u v := by
  unfold Two
  rw [heap_setCell_other _ _ _ _ (by simpa using hb.symm)]
  exact h
theorem Kept.cur {w W : World} {g : Nat} (h : Kept (some g) w W) (v : Value) : Kept (some g) w (W.setCell ⟨g, 1, none⟩ v) :=
  ⟨h.os, h.tape, h.output, by simpa using h.size, fun b hb hm => by
    rw [heap_setCell_other _ _ _ _ (by intro e; exact hm (by rw [e]))]
    exact h.block b hb hm⟩
theorem Kept.over {g : Nat} {w X W : World} (hb : Below w.heap.size w X) (hg : w.heap.size ≤ g) (h : Kept (some g) X W) : Below w.heap.size w W :=
  ⟨h.os.trans hb.os, h.tape.trans hb.tape, h.output.trans hb.output, Nat.le_trans hb.size h.size, fun b hbn => (h.block b (Nat.lt_of_lt_of_le hbn hb.size) (by intro e; injection e with e; omega)).trans (hb.block b hbn)⟩

/-- A place held in a tree of n. -/
def heldN (i : Int) (n : Nat) : Nat := if i < 0 then 0 else if (n : Int) < i then n else i.toNat
theorem heldN_le (i : Int) (n : Nat) : heldN i n ≤ n := by unfold heldN; split; omega; split <;> omega

set_option maxHeartbeats 1600000 in
theorem wat_any {S : Nat → Prop} (T : PT) (v : Value) (i : Int) (w : World) (hT : TIn S w v T) (hn : T.size ≤ 100000) :
    Calls Try.prog 43 #[v, .int .i64 i] w fun e w' => e = .returned (.pointer (some ⟨w.heap.size, 0, none⟩)) ∧ Hid (Cur w' w.heap.size v (heldN i T.size : Int) ∧ Below w.heap.size w w' ∧ w.heap.size < w'.heap.size) := by
  obtain ⟨tu, rfl⟩ := hT.ptr
  have HS := Lib.hid (tsize_any T (.pointer tu) w hT)
  have HF : Hid (∀ k : Int, Cur (w.alloc (.cells #[.pointer tu, .int .i64 k] 114)) w.heap.size (.pointer tu) k ∧ Below w.heap.size w (w.alloc (.cells #[.pointer tu, .int .i64 k] 114)) ∧ w.heap.size < (w.alloc (.cells #[.pointer tu, .int .i64 k] 114)).heap.size) := fun k =>
    ⟨heap_new w _, (Below.refl _ w).alloc (Nat.le_refl _) _, by simp⟩
  clear hT
  have h0 : ¬ ((T.size : Int) < 0) := by omega
  by_cases h1 : i < 0
  · have HH : Hid ((heldN i T.size : Int) = 0) := by unfold heldN; rw [if_pos h1]; exact (rfl : ((0 : Nat) : Int) = 0)
    rw [HH.out]
    go_enter Try.func43, Try.ntmps43
    go_wp2_with fail
    refine HS.out.mono ?_
    rintro e w1 ⟨rfl, rfl⟩
    go_wp2_with fail
    go_ret
    exact ⟨rfl, HF.out _⟩
  · by_cases h2 : (T.size : Int) < i
    · have HH : Hid ((heldN i T.size : Int) = (T.size : Int)) := by unfold heldN; rw [if_neg h1, if_pos h2]; exact (rfl : (T.size : Int) = T.size)
      rw [HH.out]
      go_enter Try.func43, Try.ntmps43
      go_wp2_with fail
      refine HS.out.mono ?_
      rintro e w1 ⟨rfl, rfl⟩
      go_wp2_with fail
      go_ret
      exact ⟨rfl, HF.out _⟩
    · have HH : Hid ((heldN i T.size : Int) = i) := by unfold heldN; rw [if_neg h1, if_neg h2]; exact Int.toNat_of_nonneg (by omega)
      rw [HH.out]
      go_enter Try.func43, Try.ntmps43
      go_wp2_with fail
      refine HS.out.mono ?_
      rintro e w1 ⟨rfl, rfl⟩
      go_wp2_with fail
      go_ret
      exact ⟨rfl, HF.out _⟩

set_option maxRecDepth 100000 in
set_option maxHeartbeats 3200000 in
theorem nextY_any (T : PT) (tu : Option Addr) (g k : Nat) (w : World) (hT : TIn (fun b => b < g) w (.pointer tu) T) (hC : Cur w g (.pointer tu) (k : Int)) (hk : k < T.size) (hn : T.size ≤ 100000) :
    Calls Try.prog 44 #[.pointer (some ⟨g, 0, none⟩)] w fun e w' => ∃ A n c A' n' c', e = .returned (.tuple #[.agg #[.slice A n c, .slice A' n' c'], .bool true]) ∧
      Hid (PIn (New w.heap.size) w' (.agg #[.slice A n c, .slice A' n' c']) (T.list.getD k ([], [])).1 (T.list.getD k ([], [])).2 ∧ Kept (some g) w w' ∧ Cur w' g (.pointer tu) (((k : Int) + 1))) := by
  have hB := (Below.refl _ w).alloc (Nat.le_refl _) (.cells #[.slice none 0 0, .slice none 0 0] 40)
  have hgl := hC.lt
  have HX1 : Hid (∀ W, Below (w.alloc (.cells #[.slice none 0 0, .slice none 0 0] 40)).heap.size (w.alloc (.cells #[.slice none 0 0, .slice none 0 0] 40)) W → Two W w.heap.size (.slice none 0 0) (.slice none 0 0) ∧ Cur W g (.pointer tu) (k : Int) ∧ Below w.heap.size w W ∧ w.heap.size < W.heap.size) := fun W hW => by
    have h2 := hB.trans (hW.mono hB.size)
    have h0 : Two (w.alloc (.cells #[.slice none 0 0, .slice none 0 0] 40)) w.heap.size (.slice none 0 0) (.slice none 0 0) := heap_new w _
    exact ⟨h0.below hW h0.lt, hC.below h2 hgl, h2, Nat.lt_of_lt_of_le h0.lt hW.size⟩
  have HLL := Lib.hid T.size_list
  have HAT : Hid (∀ W, Below (w.alloc (.cells #[.slice none 0 0, .slice none 0 0] 40)).heap.size (w.alloc (.cells #[.slice none 0 0, .slice none 0 0] 40)) W → Calls Try.prog 78 #[.pointer tu, .int .i64 (k : Int)] W fun e w' => ∃ A n c A' n' c', e = .returned (.tuple #[.agg #[.slice A n c, .slice A' n' c'], .bool true]) ∧ Hid (PIn (New W.heap.size) w' (.agg #[.slice A n c, .slice A' n' c']) (T.list.getD k ([], [])).1 (T.list.getD k ([], [])).2 ∧ Below W.heap.size W w')) := fun W hW => by
    refine (at_any T (.pointer tu) (k : Int) W (hT.below (HX1.out W hW).2.2.1) (by omega) (WalkArith.wf_i64 (by omega))).mono ?_
    rintro e w' ⟨A1, n1, c1, A2, n2, c2, rfl, hp, hb⟩
    have hll := HLL.out
    rw [if_pos (by constructor <;> omega)] at hp
    rw [show ((k : Int)).toNat = k by omega] at hp
    rw [decide_eq_true (by constructor <;> omega : 0 ≤ (k : Int) ∧ (k : Int) < (T.list.length : Int))]
    exact ⟨A1, n1, c1, A2, n2, c2, rfl, hp, hb⟩
  have HG := Lib.hid hgl
  have hk1 : k ≤ 100000 := by omega
  have HK := Lib.hid hk
  clear hT hC hB hgl hk
  go_enter Try.func44, Try.ntmps44
  go_upto_region 1 with fail
  generalize w.alloc (.cells #[.slice none 0 0, .slice none 0 0] 40) = X at *
  obtain ⟨b0, b1⟩ := (HX1.out X (Below.refl _ _)).2.1.cells
  have HXL : Hid (w.heap.size < X.heap.size) := (HX1.out X (Below.refl _ _)).2.2.2
  have BZ : Hid (Below X.heap.size X (X.alloc (.cells #[.slice none 0 0, .slice none 0 0] 40))) := (Below.refl _ _).alloc (Nat.le_refl _) _
  have HZT : Hid (Two (X.alloc (.cells #[.slice none 0 0, .slice none 0 0] 40)) X.heap.size (.slice none 0 0) (.slice none 0 0)) := heap_new X _
  go_cut [4, 5] (fun p b V => ∃ q A1 n1 c1 A2 n2 c2, p = .pointer (some ⟨q, 0, none⟩) ∧ b = .bool true ∧ Hid (Two V q (.slice A1 n1 c1) (.slice A2 n2 c2) ∧ X.heap.size ≤ q ∧ PIn (New X.heap.size) V (.agg #[.slice A1 n1 c1, .slice A2 n2 c2]) (T.list.getD k ([], [])).1 (T.list.getD k ([], [])).2 ∧ Below X.heap.size X V))
  case first =>
    go_region_held3 (fun w' => w'.cell? ⟨g, 0, none⟩ = some (.pointer tu) ∧ w'.cell? ⟨g, 1, none⟩ = some (.int .i64 (k : Int)))
      (first | with_reducible exact (HX1.out _ (below_drew2 (Below.refl _ _))).2.1.cells | with_reducible exact (HX1.out _ (below_drew2 BZ.out)).2.1.cells | with_reducible exact (HX1.out _ BZ.out).2.1.cells | with_reducible exact (HX1.out _ B1.out).2.1.cells | with_reducible exact (HX1.out _ (BA.out _)).2.1.cells | with_reducible exact CZ.out.cells)
      (first
        | (go_at_call 78; (with_reducible refine (HAT.out _ (below_drew2 (Below.refl _ _))).mono ?_); rintro e w1 ⟨A1, n1, c1, A2, n2, c2, rfl, H1⟩
           have B1 : Hid (Below X.heap.size X w1) := below_drew1 H1.out.2
           have BA : Hid (∀ o, Below X.heap.size X (w1.alloc o)) := fun o => B1.out.alloc B1.out.size o)
        | (go_at_call 78; (with_reducible refine (HAT.out _ (below_drew2 BZ.out)).mono ?_); rintro e w1 ⟨A1, n1, c1, A2, n2, c2, rfl, H1⟩
           have B1 : Hid (Below X.heap.size X w1) := BZ.out.trans ((below_drew1 H1.out.2).mono BZ.out.size)
           have BA : Hid (∀ o, Below X.heap.size X (w1.alloc o)) := fun o => B1.out.alloc B1.out.size o
           have ZT : Hid (Two w1 X.heap.size (.slice none 0 0) (.slice none 0 0)) := HZT.out.below (below_drew1 H1.out.2) HZT.out.lt
           obtain ⟨q0, q1⟩ := ZT.out.cells
           have r0 := frozen_of_row _ _ 0 _ _ ZT.out
           have r1 := frozen_of_row _ _ 1 _ _ ZT.out
           have hng : X.heap.size ≠ g := by have h1 := HG.out; have h2 := HXL.out; omega
           have CZ : Hid (Cur ((w1.setCell ⟨X.heap.size, 0, none⟩ (.slice A1 n1 c1)).setCell ⟨X.heap.size, 1, none⟩ (.slice A2 n2 c2)) g (.pointer tu) (k : Int)) := ((HX1.out w1 B1.out).2.1.other hng).other hng
           clear hng))
    · have hn : Two (w1.alloc (.cells #[.slice A1 n1 c1, .slice A2 n2 c2] 40)) w1.heap.size (.slice A1 n1 c1) (.slice A2 n2 c2) := heap_new w1 _
      obtain ⟨h1, h2⟩ := H1.out.1.kx
      have hbn : Below w1.heap.size w1 (w1.alloc (.cells #[.slice A1 n1 c1, .slice A2 n2 c2] 40)) := (Below.refl _ _).alloc (Nat.le_refl _) _
      have HM : Hid (Two (w1.alloc (.cells #[.slice A1 n1 c1, .slice A2 n2 c2] 40)) w1.heap.size (.slice A1 n1 c1) (.slice A2 n2 c2) ∧ X.heap.size ≤ w1.heap.size ∧ PIn (New X.heap.size) (w1.alloc (.cells #[.slice A1 n1 c1, .slice A2 n2 c2] 40)) (.agg #[.slice A1 n1 c1, .slice A2 n2 c2]) (T.list.getD k ([], [])).1 (T.list.getD k ([], [])).2 ∧ Below X.heap.size X (w1.alloc (.cells #[.slice A1 n1 c1, .slice A2 n2 c2] 40))) :=
        ⟨hn, B1.out.size, ⟨_, _, rfl, h1.below hbn, h2.below hbn⟩, BA.out _⟩
      clear hn h1 h2 hbn
      go_wp2_with fail
      go_meet
      exact ⟨_, A1, n1, c1, A2, n2, c2, rfl, rfl, HM⟩
    · obtain ⟨h1, h2⟩ := H1.out.1.kx
      have hzl : X.heap.size < (X.alloc (.cells #[.slice none 0 0, .slice none 0 0] 40)).heap.size := by simp
      have HM : Hid (Two ((w1.setCell ⟨X.heap.size, 0, none⟩ (.slice A1 n1 c1)).setCell ⟨X.heap.size, 1, none⟩ (.slice A2 n2 c2)) X.heap.size (.slice A1 n1 c1) (.slice A2 n2 c2) ∧ X.heap.size ≤ X.heap.size ∧ PIn (New X.heap.size) ((w1.setCell ⟨X.heap.size, 0, none⟩ (.slice A1 n1 c1)).setCell ⟨X.heap.size, 1, none⟩ (.slice A2 n2 c2)) (.agg #[.slice A1 n1 c1, .slice A2 n2 c2]) (T.list.getD k ([], [])).1 (T.list.getD k ([], [])).2 ∧ Below X.heap.size X ((w1.setCell ⟨X.heap.size, 0, none⟩ (.slice A1 n1 c1)).setCell ⟨X.heap.size, 1, none⟩ (.slice A2 n2 c2))) :=
        ⟨ZT.out.set _ _, Nat.le_refl _, ⟨_, _, rfl, (BIn.set2 (b := X.heap.size) h1 hzl _ _).imp (fun b _ hb => Nat.le_trans (Nat.le_of_lt hzl) hb), (BIn.set2 (b := X.heap.size) h2 hzl _ _).imp (fun b _ hb => Nat.le_trans (Nat.le_of_lt hzl) hb)⟩, (B1.out.setCell (p := ⟨X.heap.size, 0, none⟩) (Nat.le_refl _) _).setCell (p := ⟨X.heap.size, 1, none⟩) (Nat.le_refl _) _⟩
      clear h1 h2 hzl q0 q1 r0 r1
      go_wp2_with fail
      go_meet
      exact ⟨_, A1, n1, c1, A2, n2, c2, rfl, rfl, HM⟩
  case rest =>
    obtain ⟨q, A1, n1, c1, A2, n2, c2, rfl, rfl, HM⟩ := hcut
    have hV := HX1.out wc HM.out.2.2.2
    have hqx := HM.out.2.1
    have hqg : q ≠ g := by have h1 := HG.out; have h2 := HXL.out; omega
    have hqw : q ≠ w.heap.size := by have h2 := HXL.out; omega
    obtain ⟨d0, d1⟩ := hV.2.1.cells
    have f1 := frozen_of_row _ _ 1 _ _ hV.2.1
    have HY : Hid (Two (wc.setCell ⟨g, 1, none⟩ (.int .i64 (((k : Int) + 1)))) q (.slice A1 n1 c1) (.slice A2 n2 c2) ∧ Two (wc.setCell ⟨g, 1, none⟩ (.int .i64 (((k : Int) + 1)))) w.heap.size (.slice none 0 0) (.slice none 0 0) ∧ Cur (wc.setCell ⟨g, 1, none⟩ (.int .i64 (((k : Int) + 1)))) g (.pointer tu) (((k : Int) + 1)) ∧ Kept (some g) w (wc.setCell ⟨g, 1, none⟩ (.int .i64 (((k : Int) + 1))))) :=
      ⟨HM.out.1.other hqg.symm, hV.1.other (by have := HG.out; omega), hV.2.1.set _, (Kept.of hV.2.2.1).cur _⟩
    have HP : Hid (PIn (New X.heap.size) (wc.setCell ⟨g, 1, none⟩ (.int .i64 (((k : Int) + 1)))) (.agg #[.slice A1 n1 c1, .slice A2 n2 c2]) (T.list.getD k ([], [])).1 (T.list.getD k ([], [])).2) := HM.out.2.2.1.carry (by simp) fun b hb _ => by
      have hne : b ≠ g := by intro e; subst e; have h1 := HG.out; have h2 := HXL.out; exact absurd (show X.heap.size ≤ b from hb) (by omega)
      rw [heap_setCell_other _ _ _ _ (by simpa using hne)]
    clear hV b0 b1 hqg hqw hqx
    go_upto_region 4 with fail
    clear d0 d1 f1
    generalize wc.setCell ⟨g, 1, none⟩ (.int .i64 (((k : Int) + 1))) = Y at *
    obtain ⟨e0, e1⟩ := HY.out.1.cells
    obtain ⟨z0, z1⟩ := HY.out.2.1.cells
    have g0 := frozen_of_row _ _ 0 _ _ HY.out.2.1
    have g1 := frozen_of_row _ _ 1 _ _ HY.out.2.1
    go_wp2_with fail
    try simp only [Exit.inBlock, Exit.then]
    refine bodyPost_ret (results_two rfl _ _ w.heap.size _ _ (by rfl) (Two.set HY.out.2.1 _ _)) rfl ?_
    obtain ⟨k1, k2⟩ := HP.out.kx
    have hne : w.heap.size ≠ g := by have := HG.out; omega
    have kp : Kept (some g) w ((Y.setCell ⟨w.heap.size, 0, none⟩ (.slice A1 n1 c1)).setCell ⟨w.heap.size, 1, none⟩ (.slice A2 n2 c2)) := (HY.out.2.2.2.set2 (Nat.le_refl _) 0 _).set2 (Nat.le_refl _) 1 _
    exact ⟨A1, n1, c1, A2, n2, c2, rfl, Lib.hid ⟨⟨_, _, rfl, (BIn.set2 (b := w.heap.size) k1 HXL.out _ _).imp (fun b _ hb => Nat.le_trans (Nat.le_of_lt HXL.out) hb), (BIn.set2 (b := w.heap.size) k2 HXL.out _ _).imp (fun b _ hb => Nat.le_trans (Nat.le_of_lt HXL.out) hb)⟩, kp, (HY.out.2.2.1.other hne).other hne⟩⟩

set_option maxRecDepth 100000 in
set_option maxHeartbeats 3200000 in
theorem nextN_any (T : PT) (tu : Option Addr) (g k : Nat) (w : World) (hT : TIn (fun b => b < g) w (.pointer tu) T) (hC : Cur w g (.pointer tu) (k : Int)) (hk : k = T.size) (hn : T.size ≤ 100000) :
    Calls Try.prog 44 #[.pointer (some ⟨g, 0, none⟩)] w fun e w' => ∃ A n c A' n' c', e = .returned (.tuple #[.agg #[.slice A n c, .slice A' n' c'], .bool false]) ∧
      Hid (PIn (New w.heap.size) w' (.agg #[.slice A n c, .slice A' n' c']) [] [] ∧ Kept (some g) w w' ∧ Cur w' g (.pointer tu) ((k : Int))) := by
  have hB := (Below.refl _ w).alloc (Nat.le_refl _) (.cells #[.slice none 0 0, .slice none 0 0] 40)
  have hgl := hC.lt
  have HX1 : Hid (∀ W, Below (w.alloc (.cells #[.slice none 0 0, .slice none 0 0] 40)).heap.size (w.alloc (.cells #[.slice none 0 0, .slice none 0 0] 40)) W → Two W w.heap.size (.slice none 0 0) (.slice none 0 0) ∧ Cur W g (.pointer tu) (k : Int) ∧ Below w.heap.size w W ∧ w.heap.size < W.heap.size) := fun W hW => by
    have h2 := hB.trans (hW.mono hB.size)
    have h0 : Two (w.alloc (.cells #[.slice none 0 0, .slice none 0 0] 40)) w.heap.size (.slice none 0 0) (.slice none 0 0) := heap_new w _
    exact ⟨h0.below hW h0.lt, hC.below h2 hgl, h2, Nat.lt_of_lt_of_le h0.lt hW.size⟩
  have HLL := Lib.hid T.size_list
  have HAT : Hid (∀ W, Below (w.alloc (.cells #[.slice none 0 0, .slice none 0 0] 40)).heap.size (w.alloc (.cells #[.slice none 0 0, .slice none 0 0] 40)) W → Calls Try.prog 78 #[.pointer tu, .int .i64 (k : Int)] W fun e w' => ∃ A n c A' n' c', e = .returned (.tuple #[.agg #[.slice A n c, .slice A' n' c'], .bool false]) ∧ Hid (PIn (New W.heap.size) w' (.agg #[.slice A n c, .slice A' n' c']) [] [] ∧ Below W.heap.size W w')) := fun W hW => by
    refine (at_any T (.pointer tu) (k : Int) W (hT.below (HX1.out W hW).2.2.1) (by omega) (WalkArith.wf_i64 (by omega))).mono ?_
    rintro e w' ⟨A1, n1, c1, A2, n2, c2, rfl, hp, hb⟩
    have hll := HLL.out
    have hno : ¬ (0 ≤ (k : Int) ∧ (k : Int) < (T.list.length : Int)) := by omega
    rw [if_neg hno] at hp
    rw [decide_eq_false hno]
    exact ⟨A1, n1, c1, A2, n2, c2, rfl, hp, hb⟩
  have HG := Lib.hid hgl
  have hk1 : k ≤ 100000 := by omega
  have HK := Lib.hid hk
  clear hT hC hB hgl hk
  go_enter Try.func44, Try.ntmps44
  go_upto_region 1 with fail
  generalize w.alloc (.cells #[.slice none 0 0, .slice none 0 0] 40) = X at *
  obtain ⟨b0, b1⟩ := (HX1.out X (Below.refl _ _)).2.1.cells
  have HXL : Hid (w.heap.size < X.heap.size) := (HX1.out X (Below.refl _ _)).2.2.2
  have BZ : Hid (Below X.heap.size X (X.alloc (.cells #[.slice none 0 0, .slice none 0 0] 40))) := (Below.refl _ _).alloc (Nat.le_refl _) _
  have HZT : Hid (Two (X.alloc (.cells #[.slice none 0 0, .slice none 0 0] 40)) X.heap.size (.slice none 0 0) (.slice none 0 0)) := heap_new X _
  go_cut [4, 5] (fun p b V => ∃ q A1 n1 c1 A2 n2 c2, p = .pointer (some ⟨q, 0, none⟩) ∧ b = .bool false ∧ Hid (Two V q (.slice A1 n1 c1) (.slice A2 n2 c2) ∧ X.heap.size ≤ q ∧ PIn (New X.heap.size) V (.agg #[.slice A1 n1 c1, .slice A2 n2 c2]) [] [] ∧ Below X.heap.size X V))
  case first =>
    go_region_held3 (fun w' => w'.cell? ⟨g, 0, none⟩ = some (.pointer tu) ∧ w'.cell? ⟨g, 1, none⟩ = some (.int .i64 (k : Int)))
      (first | with_reducible exact (HX1.out _ (below_drew2 (Below.refl _ _))).2.1.cells | with_reducible exact (HX1.out _ (below_drew2 BZ.out)).2.1.cells | with_reducible exact (HX1.out _ BZ.out).2.1.cells | with_reducible exact (HX1.out _ B1.out).2.1.cells | with_reducible exact (HX1.out _ (BA.out _)).2.1.cells | with_reducible exact CZ.out.cells)
      (first
        | (go_at_call 78; (with_reducible refine (HAT.out _ (below_drew2 (Below.refl _ _))).mono ?_); rintro e w1 ⟨A1, n1, c1, A2, n2, c2, rfl, H1⟩
           have B1 : Hid (Below X.heap.size X w1) := below_drew1 H1.out.2
           have BA : Hid (∀ o, Below X.heap.size X (w1.alloc o)) := fun o => B1.out.alloc B1.out.size o)
        | (go_at_call 78; (with_reducible refine (HAT.out _ (below_drew2 BZ.out)).mono ?_); rintro e w1 ⟨A1, n1, c1, A2, n2, c2, rfl, H1⟩
           have B1 : Hid (Below X.heap.size X w1) := BZ.out.trans ((below_drew1 H1.out.2).mono BZ.out.size)
           have BA : Hid (∀ o, Below X.heap.size X (w1.alloc o)) := fun o => B1.out.alloc B1.out.size o
           have ZT : Hid (Two w1 X.heap.size (.slice none 0 0) (.slice none 0 0)) := HZT.out.below (below_drew1 H1.out.2) HZT.out.lt
           obtain ⟨q0, q1⟩ := ZT.out.cells
           have r0 := frozen_of_row _ _ 0 _ _ ZT.out
           have r1 := frozen_of_row _ _ 1 _ _ ZT.out
           have hng : X.heap.size ≠ g := by have h1 := HG.out; have h2 := HXL.out; omega
           have CZ : Hid (Cur ((w1.setCell ⟨X.heap.size, 0, none⟩ (.slice A1 n1 c1)).setCell ⟨X.heap.size, 1, none⟩ (.slice A2 n2 c2)) g (.pointer tu) (k : Int)) := ((HX1.out w1 B1.out).2.1.other hng).other hng
           clear hng))
    · have hn : Two (w1.alloc (.cells #[.slice A1 n1 c1, .slice A2 n2 c2] 40)) w1.heap.size (.slice A1 n1 c1) (.slice A2 n2 c2) := heap_new w1 _
      obtain ⟨h1, h2⟩ := H1.out.1.kx
      have hbn : Below w1.heap.size w1 (w1.alloc (.cells #[.slice A1 n1 c1, .slice A2 n2 c2] 40)) := (Below.refl _ _).alloc (Nat.le_refl _) _
      have HM : Hid (Two (w1.alloc (.cells #[.slice A1 n1 c1, .slice A2 n2 c2] 40)) w1.heap.size (.slice A1 n1 c1) (.slice A2 n2 c2) ∧ X.heap.size ≤ w1.heap.size ∧ PIn (New X.heap.size) (w1.alloc (.cells #[.slice A1 n1 c1, .slice A2 n2 c2] 40)) (.agg #[.slice A1 n1 c1, .slice A2 n2 c2]) [] [] ∧ Below X.heap.size X (w1.alloc (.cells #[.slice A1 n1 c1, .slice A2 n2 c2] 40))) :=
        ⟨hn, B1.out.size, ⟨_, _, rfl, h1.below hbn, h2.below hbn⟩, BA.out _⟩
      clear hn h1 h2 hbn
      go_wp2_with fail
      go_meet
      exact ⟨_, A1, n1, c1, A2, n2, c2, rfl, rfl, HM⟩
    · obtain ⟨h1, h2⟩ := H1.out.1.kx
      have hzl : X.heap.size < (X.alloc (.cells #[.slice none 0 0, .slice none 0 0] 40)).heap.size := by simp
      have HM : Hid (Two ((w1.setCell ⟨X.heap.size, 0, none⟩ (.slice A1 n1 c1)).setCell ⟨X.heap.size, 1, none⟩ (.slice A2 n2 c2)) X.heap.size (.slice A1 n1 c1) (.slice A2 n2 c2) ∧ X.heap.size ≤ X.heap.size ∧ PIn (New X.heap.size) ((w1.setCell ⟨X.heap.size, 0, none⟩ (.slice A1 n1 c1)).setCell ⟨X.heap.size, 1, none⟩ (.slice A2 n2 c2)) (.agg #[.slice A1 n1 c1, .slice A2 n2 c2]) [] [] ∧ Below X.heap.size X ((w1.setCell ⟨X.heap.size, 0, none⟩ (.slice A1 n1 c1)).setCell ⟨X.heap.size, 1, none⟩ (.slice A2 n2 c2))) :=
        ⟨ZT.out.set _ _, Nat.le_refl _, ⟨_, _, rfl, (BIn.set2 (b := X.heap.size) h1 hzl _ _).imp (fun b _ hb => Nat.le_trans (Nat.le_of_lt hzl) hb), (BIn.set2 (b := X.heap.size) h2 hzl _ _).imp (fun b _ hb => Nat.le_trans (Nat.le_of_lt hzl) hb)⟩, (B1.out.setCell (p := ⟨X.heap.size, 0, none⟩) (Nat.le_refl _) _).setCell (p := ⟨X.heap.size, 1, none⟩) (Nat.le_refl _) _⟩
      clear h1 h2 hzl q0 q1 r0 r1
      go_wp2_with fail
      go_meet
      exact ⟨_, A1, n1, c1, A2, n2, c2, rfl, rfl, HM⟩
  case rest =>
    obtain ⟨q, A1, n1, c1, A2, n2, c2, rfl, rfl, HM⟩ := hcut
    have hV := HX1.out wc HM.out.2.2.2
    have hqx := HM.out.2.1
    have hqg : q ≠ g := by have h1 := HG.out; have h2 := HXL.out; omega
    have hqw : q ≠ w.heap.size := by have h2 := HXL.out; omega
    obtain ⟨d0, d1⟩ := hV.2.1.cells
    have f1 := frozen_of_row _ _ 1 _ _ hV.2.1
    have HY : Hid (Two wc q (.slice A1 n1 c1) (.slice A2 n2 c2) ∧ Two wc w.heap.size (.slice none 0 0) (.slice none 0 0) ∧ Cur wc g (.pointer tu) ((k : Int)) ∧ Kept (some g) w wc) :=
      ⟨HM.out.1, hV.1, hV.2.1, Kept.of hV.2.2.1⟩
    have HP := Lib.hid HM.out.2.2.1
    clear hV b0 b1 hqg hqw hqx
    go_upto_region 4 with fail
    clear d0 d1 f1
    obtain ⟨e0, e1⟩ := HY.out.1.cells
    obtain ⟨z0, z1⟩ := HY.out.2.1.cells
    have g0 := frozen_of_row _ _ 0 _ _ HY.out.2.1
    have g1 := frozen_of_row _ _ 1 _ _ HY.out.2.1
    go_wp2_with fail
    try simp only [Exit.inBlock, Exit.then]
    refine bodyPost_ret (results_two rfl _ _ w.heap.size _ _ (by rfl) (Two.set HY.out.2.1 _ _)) rfl ?_
    obtain ⟨k1, k2⟩ := HP.out.kx
    have hne : w.heap.size ≠ g := by have := HG.out; omega
    have kp : Kept (some g) w ((wc.setCell ⟨w.heap.size, 0, none⟩ (.slice A1 n1 c1)).setCell ⟨w.heap.size, 1, none⟩ (.slice A2 n2 c2)) := (HY.out.2.2.2.set2 (Nat.le_refl _) 0 _).set2 (Nat.le_refl _) 1 _
    exact ⟨A1, n1, c1, A2, n2, c2, rfl, Lib.hid ⟨⟨_, _, rfl, (BIn.set2 (b := w.heap.size) k1 HXL.out _ _).imp (fun b _ hb => Nat.le_trans (Nat.le_of_lt HXL.out) hb), (BIn.set2 (b := w.heap.size) k2 HXL.out _ _).imp (fun b _ hb => Nat.le_trans (Nat.le_of_lt HXL.out) hb)⟩, kp, (HY.out.2.2.1.other hne).other hne⟩⟩

set_option maxRecDepth 100000 in
set_option maxHeartbeats 3200000 in
theorem backY_any (T : PT) (tu : Option Addr) (g k : Nat) (w : World) (hT : TIn (fun b => b < g) w (.pointer tu) T) (hC : Cur w g (.pointer tu) (k : Int)) (hk : 0 < k ∧ k ≤ T.size) (hn : T.size ≤ 100000) :
    Calls Try.prog 46 #[.pointer (some ⟨g, 0, none⟩)] w fun e w' => ∃ A n c A' n' c', e = .returned (.tuple #[.agg #[.slice A n c, .slice A' n' c'], .bool true]) ∧
      Hid (PIn (New w.heap.size) w' (.agg #[.slice A n c, .slice A' n' c']) (T.list.getD (k - 1) ([], [])).1 (T.list.getD (k - 1) ([], [])).2 ∧ Kept (some g) w w' ∧ Cur w' g (.pointer tu) (((k : Int) - 1))) := by
  have hB := (Below.refl _ w).alloc (Nat.le_refl _) (.cells #[.slice none 0 0, .slice none 0 0] 40)
  have hgl := hC.lt
  have HX1 : Hid (∀ W, Below (w.alloc (.cells #[.slice none 0 0, .slice none 0 0] 40)).heap.size (w.alloc (.cells #[.slice none 0 0, .slice none 0 0] 40)) W → Two W w.heap.size (.slice none 0 0) (.slice none 0 0) ∧ Cur W g (.pointer tu) (k : Int) ∧ Below w.heap.size w W ∧ w.heap.size < W.heap.size) := fun W hW => by
    have h2 := hB.trans (hW.mono hB.size)
    have h0 : Two (w.alloc (.cells #[.slice none 0 0, .slice none 0 0] 40)) w.heap.size (.slice none 0 0) (.slice none 0 0) := heap_new w _
    exact ⟨h0.below hW h0.lt, hC.below h2 hgl, h2, Nat.lt_of_lt_of_le h0.lt hW.size⟩
  have HLL := Lib.hid T.size_list
  have hw : IntKind.i64.wrap ((k : Int) - 1) = ((k : Int) - 1) := wsm _ (by omega)
  have HAT : Hid (∀ W, Below (w.alloc (.cells #[.slice none 0 0, .slice none 0 0] 40)).heap.size (w.alloc (.cells #[.slice none 0 0, .slice none 0 0] 40)) W → Calls Try.prog 78 #[.pointer tu, .int .i64 ((k : Int) - 1)] W fun e w' => ∃ A n c A' n' c', e = .returned (.tuple #[.agg #[.slice A n c, .slice A' n' c'], .bool true]) ∧ Hid (PIn (New W.heap.size) w' (.agg #[.slice A n c, .slice A' n' c']) (T.list.getD (k - 1) ([], [])).1 (T.list.getD (k - 1) ([], [])).2 ∧ Below W.heap.size W w')) := fun W hW => by
    refine (at_any T (.pointer tu) ((k : Int) - 1) W (hT.below (HX1.out W hW).2.2.1) (by omega) (WalkArith.wf_i64 (by omega))).mono ?_
    rintro e w' ⟨A1, n1, c1, A2, n2, c2, rfl, hp, hb⟩
    have hll := HLL.out
    rw [if_pos (by constructor <;> omega)] at hp
    rw [show (((k : Int) - 1)).toNat = (k - 1) by omega] at hp
    rw [decide_eq_true (by constructor <;> omega : 0 ≤ ((k : Int) - 1) ∧ ((k : Int) - 1) < (T.list.length : Int))]
    exact ⟨A1, n1, c1, A2, n2, c2, rfl, hp, hb⟩
  have HG := Lib.hid hgl
  have hk1 : k ≤ 100000 := by omega
  have HK := Lib.hid hk
  clear hT hC hB hgl hk
  go_enter Try.func46, Try.ntmps46
  go_upto_region 1 with fail
  generalize w.alloc (.cells #[.slice none 0 0, .slice none 0 0] 40) = X at *
  obtain ⟨b0, b1⟩ := (HX1.out X (Below.refl _ _)).2.1.cells
  have HXL : Hid (w.heap.size < X.heap.size) := (HX1.out X (Below.refl _ _)).2.2.2
  have BZ : Hid (Below X.heap.size X (X.alloc (.cells #[.slice none 0 0, .slice none 0 0] 40))) := (Below.refl _ _).alloc (Nat.le_refl _) _
  have HZT : Hid (Two (X.alloc (.cells #[.slice none 0 0, .slice none 0 0] 40)) X.heap.size (.slice none 0 0) (.slice none 0 0)) := heap_new X _
  go_cut [4, 5] (fun p b V => ∃ q A1 n1 c1 A2 n2 c2, p = .pointer (some ⟨q, 0, none⟩) ∧ b = .bool true ∧ Hid (Two V q (.slice A1 n1 c1) (.slice A2 n2 c2) ∧ X.heap.size ≤ q ∧ PIn (New X.heap.size) V (.agg #[.slice A1 n1 c1, .slice A2 n2 c2]) (T.list.getD (k - 1) ([], [])).1 (T.list.getD (k - 1) ([], [])).2 ∧ Below X.heap.size X V))
  case first =>
    go_region_held3 (fun w' => w'.cell? ⟨g, 0, none⟩ = some (.pointer tu) ∧ w'.cell? ⟨g, 1, none⟩ = some (.int .i64 (k : Int)))
      (first | with_reducible exact (HX1.out _ (below_drew2 (Below.refl _ _))).2.1.cells | with_reducible exact (HX1.out _ (below_drew2 BZ.out)).2.1.cells | with_reducible exact (HX1.out _ BZ.out).2.1.cells | with_reducible exact (HX1.out _ B1.out).2.1.cells | with_reducible exact (HX1.out _ (BA.out _)).2.1.cells | with_reducible exact CZ.out.cells)
      (first
        | (go_at_call 78; (with_reducible refine (HAT.out _ (below_drew2 (Below.refl _ _))).mono ?_); rintro e w1 ⟨A1, n1, c1, A2, n2, c2, rfl, H1⟩
           have B1 : Hid (Below X.heap.size X w1) := below_drew1 H1.out.2
           have BA : Hid (∀ o, Below X.heap.size X (w1.alloc o)) := fun o => B1.out.alloc B1.out.size o)
        | (go_at_call 78; (with_reducible refine (HAT.out _ (below_drew2 BZ.out)).mono ?_); rintro e w1 ⟨A1, n1, c1, A2, n2, c2, rfl, H1⟩
           have B1 : Hid (Below X.heap.size X w1) := BZ.out.trans ((below_drew1 H1.out.2).mono BZ.out.size)
           have BA : Hid (∀ o, Below X.heap.size X (w1.alloc o)) := fun o => B1.out.alloc B1.out.size o
           have ZT : Hid (Two w1 X.heap.size (.slice none 0 0) (.slice none 0 0)) := HZT.out.below (below_drew1 H1.out.2) HZT.out.lt
           obtain ⟨q0, q1⟩ := ZT.out.cells
           have r0 := frozen_of_row _ _ 0 _ _ ZT.out
           have r1 := frozen_of_row _ _ 1 _ _ ZT.out
           have hng : X.heap.size ≠ g := by have h1 := HG.out; have h2 := HXL.out; omega
           have CZ : Hid (Cur ((w1.setCell ⟨X.heap.size, 0, none⟩ (.slice A1 n1 c1)).setCell ⟨X.heap.size, 1, none⟩ (.slice A2 n2 c2)) g (.pointer tu) (k : Int)) := ((HX1.out w1 B1.out).2.1.other hng).other hng
           clear hng))
    · have hn : Two (w1.alloc (.cells #[.slice A1 n1 c1, .slice A2 n2 c2] 40)) w1.heap.size (.slice A1 n1 c1) (.slice A2 n2 c2) := heap_new w1 _
      obtain ⟨h1, h2⟩ := H1.out.1.kx
      have hbn : Below w1.heap.size w1 (w1.alloc (.cells #[.slice A1 n1 c1, .slice A2 n2 c2] 40)) := (Below.refl _ _).alloc (Nat.le_refl _) _
      have HM : Hid (Two (w1.alloc (.cells #[.slice A1 n1 c1, .slice A2 n2 c2] 40)) w1.heap.size (.slice A1 n1 c1) (.slice A2 n2 c2) ∧ X.heap.size ≤ w1.heap.size ∧ PIn (New X.heap.size) (w1.alloc (.cells #[.slice A1 n1 c1, .slice A2 n2 c2] 40)) (.agg #[.slice A1 n1 c1, .slice A2 n2 c2]) (T.list.getD (k - 1) ([], [])).1 (T.list.getD (k - 1) ([], [])).2 ∧ Below X.heap.size X (w1.alloc (.cells #[.slice A1 n1 c1, .slice A2 n2 c2] 40))) :=
        ⟨hn, B1.out.size, ⟨_, _, rfl, h1.below hbn, h2.below hbn⟩, BA.out _⟩
      clear hn h1 h2 hbn
      go_wp2_with fail
      go_meet
      exact ⟨_, A1, n1, c1, A2, n2, c2, rfl, rfl, HM⟩
    · obtain ⟨h1, h2⟩ := H1.out.1.kx
      have hzl : X.heap.size < (X.alloc (.cells #[.slice none 0 0, .slice none 0 0] 40)).heap.size := by simp
      have HM : Hid (Two ((w1.setCell ⟨X.heap.size, 0, none⟩ (.slice A1 n1 c1)).setCell ⟨X.heap.size, 1, none⟩ (.slice A2 n2 c2)) X.heap.size (.slice A1 n1 c1) (.slice A2 n2 c2) ∧ X.heap.size ≤ X.heap.size ∧ PIn (New X.heap.size) ((w1.setCell ⟨X.heap.size, 0, none⟩ (.slice A1 n1 c1)).setCell ⟨X.heap.size, 1, none⟩ (.slice A2 n2 c2)) (.agg #[.slice A1 n1 c1, .slice A2 n2 c2]) (T.list.getD (k - 1) ([], [])).1 (T.list.getD (k - 1) ([], [])).2 ∧ Below X.heap.size X ((w1.setCell ⟨X.heap.size, 0, none⟩ (.slice A1 n1 c1)).setCell ⟨X.heap.size, 1, none⟩ (.slice A2 n2 c2))) :=
        ⟨ZT.out.set _ _, Nat.le_refl _, ⟨_, _, rfl, (BIn.set2 (b := X.heap.size) h1 hzl _ _).imp (fun b _ hb => Nat.le_trans (Nat.le_of_lt hzl) hb), (BIn.set2 (b := X.heap.size) h2 hzl _ _).imp (fun b _ hb => Nat.le_trans (Nat.le_of_lt hzl) hb)⟩, (B1.out.setCell (p := ⟨X.heap.size, 0, none⟩) (Nat.le_refl _) _).setCell (p := ⟨X.heap.size, 1, none⟩) (Nat.le_refl _) _⟩
      clear h1 h2 hzl q0 q1 r0 r1
      go_wp2_with fail
      go_meet
      exact ⟨_, A1, n1, c1, A2, n2, c2, rfl, rfl, HM⟩
  case rest =>
    obtain ⟨q, A1, n1, c1, A2, n2, c2, rfl, rfl, HM⟩ := hcut
    have hV := HX1.out wc HM.out.2.2.2
    have hqx := HM.out.2.1
    have hqg : q ≠ g := by have h1 := HG.out; have h2 := HXL.out; omega
    have hqw : q ≠ w.heap.size := by have h2 := HXL.out; omega
    obtain ⟨d0, d1⟩ := hV.2.1.cells
    have f1 := frozen_of_row _ _ 1 _ _ hV.2.1
    have HY : Hid (Two (wc.setCell ⟨g, 1, none⟩ (.int .i64 (((k : Int) - 1)))) q (.slice A1 n1 c1) (.slice A2 n2 c2) ∧ Two (wc.setCell ⟨g, 1, none⟩ (.int .i64 (((k : Int) - 1)))) w.heap.size (.slice none 0 0) (.slice none 0 0) ∧ Cur (wc.setCell ⟨g, 1, none⟩ (.int .i64 (((k : Int) - 1)))) g (.pointer tu) (((k : Int) - 1)) ∧ Kept (some g) w (wc.setCell ⟨g, 1, none⟩ (.int .i64 (((k : Int) - 1))))) :=
      ⟨HM.out.1.other hqg.symm, hV.1.other (by have := HG.out; omega), hV.2.1.set _, (Kept.of hV.2.2.1).cur _⟩
    have HP : Hid (PIn (New X.heap.size) (wc.setCell ⟨g, 1, none⟩ (.int .i64 (((k : Int) - 1)))) (.agg #[.slice A1 n1 c1, .slice A2 n2 c2]) (T.list.getD (k - 1) ([], [])).1 (T.list.getD (k - 1) ([], [])).2) := HM.out.2.2.1.carry (by simp) fun b hb _ => by
      have hne : b ≠ g := by intro e; subst e; have h1 := HG.out; have h2 := HXL.out; exact absurd (show X.heap.size ≤ b from hb) (by omega)
      rw [heap_setCell_other _ _ _ _ (by simpa using hne)]
    clear hV b0 b1 hqg hqw hqx
    go_upto_region 4 with fail
    clear d0 d1 f1
    generalize wc.setCell ⟨g, 1, none⟩ (.int .i64 (((k : Int) - 1))) = Y at *
    obtain ⟨e0, e1⟩ := HY.out.1.cells
    obtain ⟨z0, z1⟩ := HY.out.2.1.cells
    have g0 := frozen_of_row _ _ 0 _ _ HY.out.2.1
    have g1 := frozen_of_row _ _ 1 _ _ HY.out.2.1
    go_wp2_with fail
    try simp only [Exit.inBlock, Exit.then]
    refine bodyPost_ret (results_two rfl _ _ w.heap.size _ _ (by rfl) (Two.set HY.out.2.1 _ _)) rfl ?_
    obtain ⟨k1, k2⟩ := HP.out.kx
    have hne : w.heap.size ≠ g := by have := HG.out; omega
    have kp : Kept (some g) w ((Y.setCell ⟨w.heap.size, 0, none⟩ (.slice A1 n1 c1)).setCell ⟨w.heap.size, 1, none⟩ (.slice A2 n2 c2)) := (HY.out.2.2.2.set2 (Nat.le_refl _) 0 _).set2 (Nat.le_refl _) 1 _
    exact ⟨A1, n1, c1, A2, n2, c2, rfl, Lib.hid ⟨⟨_, _, rfl, (BIn.set2 (b := w.heap.size) k1 HXL.out _ _).imp (fun b _ hb => Nat.le_trans (Nat.le_of_lt HXL.out) hb), (BIn.set2 (b := w.heap.size) k2 HXL.out _ _).imp (fun b _ hb => Nat.le_trans (Nat.le_of_lt HXL.out) hb)⟩, kp, (HY.out.2.2.1.other hne).other hne⟩⟩

set_option maxRecDepth 100000 in
set_option maxHeartbeats 3200000 in
theorem backN_any (T : PT) (tu : Option Addr) (g k : Nat) (w : World) (hT : TIn (fun b => b < g) w (.pointer tu) T) (hC : Cur w g (.pointer tu) (k : Int)) (hk : k = 0) (hn : T.size ≤ 100000) :
    Calls Try.prog 46 #[.pointer (some ⟨g, 0, none⟩)] w fun e w' => ∃ A n c A' n' c', e = .returned (.tuple #[.agg #[.slice A n c, .slice A' n' c'], .bool false]) ∧
      Hid (PIn (New w.heap.size) w' (.agg #[.slice A n c, .slice A' n' c']) [] [] ∧ Kept (some g) w w' ∧ Cur w' g (.pointer tu) ((k : Int))) := by
  have hB := (Below.refl _ w).alloc (Nat.le_refl _) (.cells #[.slice none 0 0, .slice none 0 0] 40)
  have hgl := hC.lt
  have HX1 : Hid (∀ W, Below (w.alloc (.cells #[.slice none 0 0, .slice none 0 0] 40)).heap.size (w.alloc (.cells #[.slice none 0 0, .slice none 0 0] 40)) W → Two W w.heap.size (.slice none 0 0) (.slice none 0 0) ∧ Cur W g (.pointer tu) (k : Int) ∧ Below w.heap.size w W ∧ w.heap.size < W.heap.size) := fun W hW => by
    have h2 := hB.trans (hW.mono hB.size)
    have h0 : Two (w.alloc (.cells #[.slice none 0 0, .slice none 0 0] 40)) w.heap.size (.slice none 0 0) (.slice none 0 0) := heap_new w _
    exact ⟨h0.below hW h0.lt, hC.below h2 hgl, h2, Nat.lt_of_lt_of_le h0.lt hW.size⟩
  have HLL := Lib.hid T.size_list
  have hw : IntKind.i64.wrap ((k : Int) - 1) = ((k : Int) - 1) := wsm _ (by omega)
  have HAT : Hid (∀ W, Below (w.alloc (.cells #[.slice none 0 0, .slice none 0 0] 40)).heap.size (w.alloc (.cells #[.slice none 0 0, .slice none 0 0] 40)) W → Calls Try.prog 78 #[.pointer tu, .int .i64 ((k : Int) - 1)] W fun e w' => ∃ A n c A' n' c', e = .returned (.tuple #[.agg #[.slice A n c, .slice A' n' c'], .bool false]) ∧ Hid (PIn (New W.heap.size) w' (.agg #[.slice A n c, .slice A' n' c']) [] [] ∧ Below W.heap.size W w')) := fun W hW => by
    refine (at_any T (.pointer tu) ((k : Int) - 1) W (hT.below (HX1.out W hW).2.2.1) (by omega) (WalkArith.wf_i64 (by omega))).mono ?_
    rintro e w' ⟨A1, n1, c1, A2, n2, c2, rfl, hp, hb⟩
    have hll := HLL.out
    have hno : ¬ (0 ≤ ((k : Int) - 1) ∧ ((k : Int) - 1) < (T.list.length : Int)) := by omega
    rw [if_neg hno] at hp
    rw [decide_eq_false hno]
    exact ⟨A1, n1, c1, A2, n2, c2, rfl, hp, hb⟩
  have HG := Lib.hid hgl
  have hk1 : k ≤ 100000 := by omega
  have HK := Lib.hid hk
  clear hT hC hB hgl hk
  go_enter Try.func46, Try.ntmps46
  go_upto_region 1 with fail
  generalize w.alloc (.cells #[.slice none 0 0, .slice none 0 0] 40) = X at *
  obtain ⟨b0, b1⟩ := (HX1.out X (Below.refl _ _)).2.1.cells
  have HXL : Hid (w.heap.size < X.heap.size) := (HX1.out X (Below.refl _ _)).2.2.2
  have BZ : Hid (Below X.heap.size X (X.alloc (.cells #[.slice none 0 0, .slice none 0 0] 40))) := (Below.refl _ _).alloc (Nat.le_refl _) _
  have HZT : Hid (Two (X.alloc (.cells #[.slice none 0 0, .slice none 0 0] 40)) X.heap.size (.slice none 0 0) (.slice none 0 0)) := heap_new X _
  go_cut [4, 5] (fun p b V => ∃ q A1 n1 c1 A2 n2 c2, p = .pointer (some ⟨q, 0, none⟩) ∧ b = .bool false ∧ Hid (Two V q (.slice A1 n1 c1) (.slice A2 n2 c2) ∧ X.heap.size ≤ q ∧ PIn (New X.heap.size) V (.agg #[.slice A1 n1 c1, .slice A2 n2 c2]) [] [] ∧ Below X.heap.size X V))
  case first =>
    go_region_held3 (fun w' => w'.cell? ⟨g, 0, none⟩ = some (.pointer tu) ∧ w'.cell? ⟨g, 1, none⟩ = some (.int .i64 (k : Int)))
      (first | with_reducible exact (HX1.out _ (below_drew2 (Below.refl _ _))).2.1.cells | with_reducible exact (HX1.out _ (below_drew2 BZ.out)).2.1.cells | with_reducible exact (HX1.out _ BZ.out).2.1.cells | with_reducible exact (HX1.out _ B1.out).2.1.cells | with_reducible exact (HX1.out _ (BA.out _)).2.1.cells | with_reducible exact CZ.out.cells)
      (first
        | (go_at_call 78; (with_reducible refine (HAT.out _ (below_drew2 (Below.refl _ _))).mono ?_); rintro e w1 ⟨A1, n1, c1, A2, n2, c2, rfl, H1⟩
           have B1 : Hid (Below X.heap.size X w1) := below_drew1 H1.out.2
           have BA : Hid (∀ o, Below X.heap.size X (w1.alloc o)) := fun o => B1.out.alloc B1.out.size o)
        | (go_at_call 78; (with_reducible refine (HAT.out _ (below_drew2 BZ.out)).mono ?_); rintro e w1 ⟨A1, n1, c1, A2, n2, c2, rfl, H1⟩
           have B1 : Hid (Below X.heap.size X w1) := BZ.out.trans ((below_drew1 H1.out.2).mono BZ.out.size)
           have BA : Hid (∀ o, Below X.heap.size X (w1.alloc o)) := fun o => B1.out.alloc B1.out.size o
           have ZT : Hid (Two w1 X.heap.size (.slice none 0 0) (.slice none 0 0)) := HZT.out.below (below_drew1 H1.out.2) HZT.out.lt
           obtain ⟨q0, q1⟩ := ZT.out.cells
           have r0 := frozen_of_row _ _ 0 _ _ ZT.out
           have r1 := frozen_of_row _ _ 1 _ _ ZT.out
           have hng : X.heap.size ≠ g := by have h1 := HG.out; have h2 := HXL.out; omega
           have CZ : Hid (Cur ((w1.setCell ⟨X.heap.size, 0, none⟩ (.slice A1 n1 c1)).setCell ⟨X.heap.size, 1, none⟩ (.slice A2 n2 c2)) g (.pointer tu) (k : Int)) := ((HX1.out w1 B1.out).2.1.other hng).other hng
           clear hng))
    · have hn : Two (w1.alloc (.cells #[.slice A1 n1 c1, .slice A2 n2 c2] 40)) w1.heap.size (.slice A1 n1 c1) (.slice A2 n2 c2) := heap_new w1 _
      obtain ⟨h1, h2⟩ := H1.out.1.kx
      have hbn : Below w1.heap.size w1 (w1.alloc (.cells #[.slice A1 n1 c1, .slice A2 n2 c2] 40)) := (Below.refl _ _).alloc (Nat.le_refl _) _
      have HM : Hid (Two (w1.alloc (.cells #[.slice A1 n1 c1, .slice A2 n2 c2] 40)) w1.heap.size (.slice A1 n1 c1) (.slice A2 n2 c2) ∧ X.heap.size ≤ w1.heap.size ∧ PIn (New X.heap.size) (w1.alloc (.cells #[.slice A1 n1 c1, .slice A2 n2 c2] 40)) (.agg #[.slice A1 n1 c1, .slice A2 n2 c2]) [] [] ∧ Below X.heap.size X (w1.alloc (.cells #[.slice A1 n1 c1, .slice A2 n2 c2] 40))) :=
        ⟨hn, B1.out.size, ⟨_, _, rfl, h1.below hbn, h2.below hbn⟩, BA.out _⟩
      clear hn h1 h2 hbn
      go_wp2_with fail
      go_meet
      exact ⟨_, A1, n1, c1, A2, n2, c2, rfl, rfl, HM⟩
    · obtain ⟨h1, h2⟩ := H1.out.1.kx
      have hzl : X.heap.size < (X.alloc (.cells #[.slice none 0 0, .slice none 0 0] 40)).heap.size := by simp
      have HM : Hid (Two ((w1.setCell ⟨X.heap.size, 0, none⟩ (.slice A1 n1 c1)).setCell ⟨X.heap.size, 1, none⟩ (.slice A2 n2 c2)) X.heap.size (.slice A1 n1 c1) (.slice A2 n2 c2) ∧ X.heap.size ≤ X.heap.size ∧ PIn (New X.heap.size) ((w1.setCell ⟨X.heap.size, 0, none⟩ (.slice A1 n1 c1)).setCell ⟨X.heap.size, 1, none⟩ (.slice A2 n2 c2)) (.agg #[.slice A1 n1 c1, .slice A2 n2 c2]) [] [] ∧ Below X.heap.size X ((w1.setCell ⟨X.heap.size, 0, none⟩ (.slice A1 n1 c1)).setCell ⟨X.heap.size, 1, none⟩ (.slice A2 n2 c2))) :=
        ⟨ZT.out.set _ _, Nat.le_refl _, ⟨_, _, rfl, (BIn.set2 (b := X.heap.size) h1 hzl _ _).imp (fun b _ hb => Nat.le_trans (Nat.le_of_lt hzl) hb), (BIn.set2 (b := X.heap.size) h2 hzl _ _).imp (fun b _ hb => Nat.le_trans (Nat.le_of_lt hzl) hb)⟩, (B1.out.setCell (p := ⟨X.heap.size, 0, none⟩) (Nat.le_refl _) _).setCell (p := ⟨X.heap.size, 1, none⟩) (Nat.le_refl _) _⟩
      clear h1 h2 hzl q0 q1 r0 r1
      go_wp2_with fail
      go_meet
      exact ⟨_, A1, n1, c1, A2, n2, c2, rfl, rfl, HM⟩
  case rest =>
    obtain ⟨q, A1, n1, c1, A2, n2, c2, rfl, rfl, HM⟩ := hcut
    have hV := HX1.out wc HM.out.2.2.2
    have hqx := HM.out.2.1
    have hqg : q ≠ g := by have h1 := HG.out; have h2 := HXL.out; omega
    have hqw : q ≠ w.heap.size := by have h2 := HXL.out; omega
    obtain ⟨d0, d1⟩ := hV.2.1.cells
    have f1 := frozen_of_row _ _ 1 _ _ hV.2.1
    have HY : Hid (Two wc q (.slice A1 n1 c1) (.slice A2 n2 c2) ∧ Two wc w.heap.size (.slice none 0 0) (.slice none 0 0) ∧ Cur wc g (.pointer tu) ((k : Int)) ∧ Kept (some g) w wc) :=
      ⟨HM.out.1, hV.1, hV.2.1, Kept.of hV.2.2.1⟩
    have HP := Lib.hid HM.out.2.2.1
    clear hV b0 b1 hqg hqw hqx
    go_upto_region 4 with fail
    clear d0 d1 f1
    obtain ⟨e0, e1⟩ := HY.out.1.cells
    obtain ⟨z0, z1⟩ := HY.out.2.1.cells
    have g0 := frozen_of_row _ _ 0 _ _ HY.out.2.1
    have g1 := frozen_of_row _ _ 1 _ _ HY.out.2.1
    go_wp2_with fail
    try simp only [Exit.inBlock, Exit.then]
    refine bodyPost_ret (results_two rfl _ _ w.heap.size _ _ (by rfl) (Two.set HY.out.2.1 _ _)) rfl ?_
    obtain ⟨k1, k2⟩ := HP.out.kx
    have hne : w.heap.size ≠ g := by have := HG.out; omega
    have kp : Kept (some g) w ((wc.setCell ⟨w.heap.size, 0, none⟩ (.slice A1 n1 c1)).setCell ⟨w.heap.size, 1, none⟩ (.slice A2 n2 c2)) := (HY.out.2.2.2.set2 (Nat.le_refl _) 0 _).set2 (Nat.le_refl _) 1 _
    exact ⟨A1, n1, c1, A2, n2, c2, rfl, Lib.hid ⟨⟨_, _, rfl, (BIn.set2 (b := w.heap.size) k1 HXL.out _ _).imp (fun b _ hb => Nat.le_trans (Nat.le_of_lt HXL.out) hb), (BIn.set2 (b := w.heap.size) k2 HXL.out _ _).imp (fun b _ hb => Nat.le_trans (Nat.le_of_lt HXL.out) hb)⟩, kp, (HY.out.2.2.1.other hne).other hne⟩⟩

theorem place_any (w : World) (g : Nat) (tv : Value) (k : Int) (h : Cur w g tv k) : Calls Try.prog 47 #[.pointer (some ⟨g, 0, none⟩)] w fun e w' => e = .returned (.int .i64 k) ∧ w = w' := by
  obtain ⟨c0, c1⟩ := h.cells
  clear h
  go_enter Try.func47, Try.ntmps47
  go_wp2_with fail
  go_ret
  exact ⟨rfl, rfl⟩

end Go.Proofs.Ytnfhbljhohjkhaa
