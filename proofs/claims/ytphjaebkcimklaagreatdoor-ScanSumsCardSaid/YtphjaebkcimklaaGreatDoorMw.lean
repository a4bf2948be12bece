/- Texts put together: WCur WMove WAwake. -/
import Derived.Test.YtphjaebkcimklaaGreatDoorMe
/- The package walk: the cursor's calls. -/
set_option linter.unusedVariables false
set_option linter.unusedSimpArgs false
namespace Go.Proofs.YtphjaebkcimklaaGreatDoor
open Go.RowKit
attribute [local go_sem] max2_num min2_num maxOf_two minOf_two

/-- A cursor as it lies: its tree, and its place. -/
def Cur (W : World) (g : Nat) (tv : Value) (k : Int) : Prop := W.heap[g]? = some (.cells #[tv, .int .i64 k] 142 (0, 0))
theorem Cur.cells {W : World} {g : Nat} {tv : Value} {k : Int} (h : Cur W g tv k) : W.cell? ⟨g, 0, none⟩ = some tv ∧ W.cell? ⟨g, 1, none⟩ = some (.int .i64 k) := ⟨cell_of_row W g 0 _ _ _ h, cell_of_row W g 1 _ _ _ h⟩
theorem Cur.lt {W : World} {g : Nat} {tv : Value} {k : Int} (h : Cur W g tv k) : g < W.heap.size := (Array.getElem?_eq_some_iff.1 h).1
theorem Cur.below {W W' : World} {g n : Nat} {tv : Value} {k : Int} (h : Cur W g tv k) (hb : Below n W W') (hn : g < n) : Cur W' g tv k := (hb.block g hn).trans h
theorem Cur.set {W : World} {g : Nat} {tv : Value} {k : Int} (h : Cur W g tv k) (k' : Int) : Cur (W.setCell ⟨g, 1, none⟩ (.int .i64 k')) g tv k' := by
  simp [Cur, World.setCell, Array.getElem?_modify, show W.heap[g]? = _ from h]
theorem Cur.other {W : World} {g b i : Nat} {tv v : Value} {k : Int} (h : Cur W g tv k) (hb : b ≠ g) : Cur (W.setCell ⟨b, i, none⟩ v) g tv k := by
  unfold Cur
  rw [heap_setCell_other _ _ _ _ (by simpa using hb.symm)]
  exact h
theorem Two.other {W : World} {g b i : Nat} {u v x : Value} (h : Two W g u v) (hb : b ≠ g) : Two (W.setCell ⟨b, i, none⟩ x) g u v := by
  unfold Two
  rw [heap_setCell_other _ _ _ _ (by simpa using hb.symm)]
  exact h
theorem Kept.cur {w W : World} {g : Nat} (h : Kept (some g) w W) (v : Value) : Kept (some g) w (W.setCell ⟨g, 1, none⟩ v) :=
  ⟨h.os, h.tape, h.output, by simpa using h.size, fun b hb hm => by
    rw [heap_setCell_other _ _ _ _ (by intro e; exact hm (by rw [e]))]
    exact h.block b hb hm⟩
theorem Kept.over {g : Nat} {w X W : World} (hb : Below w.heap.size w X) (hg : w.heap.size ≤ g) (h : Kept (some g) X W) : Below w.heap.size w W :=
  ⟨h.os.trans hb.os, h.tape.trans hb.tape, h.output.trans hb.output, Nat.le_trans hb.size h.size, fun b hbn => (h.block b (Nat.lt_of_lt_of_le hbn hb.size) (by intro e; injection e with e; omega)).trans (hb.block b hbn)⟩

/-- A place held in a tree of n. -/
def heldN (i : Int) (n : Nat) : Nat := if i < 0 then 0 else if (n : Int) < i then n else i.toNat
theorem heldN_le (i : Int) (n : Nat) : heldN i n ≤ n := by unfold heldN; split; omega; split <;> omega

set_option maxHeartbeats 1600000 in
theorem wat_any {S : Nat → Prop} (T : PT) (v : Value) (i : Int) (w : World) (hT : TIn S w v T) (hn : T.size ≤ 100000) :
    Calls Tryz.prog 64 #[v, .int .i64 i] w fun e w' => e = .returned (.pointer (some ⟨w.heap.size, 0, none⟩)) ∧ Hid (Cur w' w.heap.size v (heldN i T.size : Int) ∧ Below w.heap.size w w' ∧ w.heap.size < w'.heap.size) := by
  obtain ⟨tu, rfl⟩ := hT.ptr
  have HS := Lib.hid (tsize_any T (.pointer tu) w hT)
  have HF : Hid (∀ k : Int, Cur (w.alloc (.cells #[.pointer tu, .int .i64 k] 142)) w.heap.size (.pointer tu) k ∧ Below w.heap.size w (w.alloc (.cells #[.pointer tu, .int .i64 k] 142)) ∧ w.heap.size < (w.alloc (.cells #[.pointer tu, .int .i64 k] 142)).heap.size) := fun k =>
    ⟨heap_new w _, (Below.refl _ w).alloc (Nat.le_refl _) _, by simp⟩
  clear hT
  have h0 : ¬ ((T.size : Int) < 0) := by omega
  by_cases h1 : i < 0
  · have HH : Hid ((heldN i T.size : Int) = 0) := by unfold heldN; rw [if_pos h1]; exact (rfl : ((0 : Nat) : Int) = 0)
    rw [HH.out]
    go_enter Tryz.func64, Tryz.ntmps64
    go_wp2_with fail
    refine HS.out.mono ?_
    rintro e w1 ⟨rfl, rfl⟩
    go_wp2_with fail
    go_ret
    exact ⟨rfl, HF.out _⟩
  · by_cases h2 : (T.size : Int) < i
    · have HH : Hid ((heldN i T.size : Int) = (T.size : Int)) := by unfold heldN; rw [if_neg h1, if_pos h2]; exact (rfl : (T.size : Int) = T.size)
      rw [HH.out]
      go_enter Tryz.func64, Tryz.ntmps64
      go_wp2_with fail
      refine HS.out.mono ?_
      rintro e w1 ⟨rfl, rfl⟩
      go_wp2_with fail
      go_ret
      exact ⟨rfl, HF.out _⟩
    · have HH : Hid ((heldN i T.size : Int) = i) := by unfold heldN; rw [if_neg h1, if_neg h2]; exact Int.toNat_of_nonneg (by omega)
      rw [HH.out]
      go_enter Tryz.func64, Tryz.ntmps64
      go_wp2_with fail
      refine HS.out.mono ?_
      rintro e w1 ⟨rfl, rfl⟩
      go_wp2_with fail
      go_ret
      exact ⟨rfl, HF.out _⟩

set_option maxRecDepth 100000 in
set_option maxHeartbeats 3200000 in
theorem nextY_any (T : PT) (tu : Option Addr) (g k : Nat) (w : World) (hT : TIn (fun b => b < g) w (.pointer tu) T) (hC : Cur w g (.pointer tu) (k : Int)) (hk : k < T.size) (hn : T.size ≤ 100000) :
    Calls Tryz.prog 66 #[.pointer (some ⟨g, 0, none⟩)] w fun e w' => ∃ A n c A' n' c', e = .returned (.tuple #[.agg #[.slice A n c, .slice A' n' c'], .bool true]) ∧
      Hid (PIn (New w.heap.size) w' (.agg #[.slice A n c, .slice A' n' c']) (T.list.getD k ([], [])).1 (T.list.getD k ([], [])).2 ∧ Kept (some g) w w' ∧ Cur w' g (.pointer tu) (((k : Int) + 1))) := by
  have hB := (Below.refl _ w).alloc (Nat.le_refl _) (.cells #[.slice none 0 0, .slice none 0 0] 60)
  have hgl := hC.lt
  have HX1 : Hid (∀ W, Below (w.alloc (.cells #[.slice none 0 0, .slice none 0 0] 60)).heap.size (w.alloc (.cells #[.slice none 0 0, .slice none 0 0] 60)) W → Two W w.heap.size (.slice none 0 0) (.slice none 0 0) ∧ Cur W g (.pointer tu) (k : Int) ∧ Below w.heap.size w W ∧ w.heap.size < W.heap.size) := fun W hW => by
    have h2 := hB.trans (hW.mono hB.size)
    have h0 : Two (w.alloc (.cells #[.slice none 0 0, .slice none 0 0] 60)) w.heap.size (.slice none 0 0) (.slice none 0 0) := heap_new w _
    exact ⟨h0.below hW h0.lt, hC.below h2 hgl, h2, Nat.lt_of_lt_of_le h0.lt hW.size⟩
  have HLL := Lib.hid T.size_list
  have HAT : Hid (∀ W, Below (w.alloc (.cells #[.slice none 0 0, .slice none 0 0] 60)).heap.size (w.alloc (.cells #[.slice none 0 0, .slice none 0 0] 60)) W → Calls Tryz.prog 68 #[.pointer tu, .int .i64 (k : Int)] W fun e w' => ∃ A n c A' n' c', e = .returned (.tuple #[.agg #[.slice A n c, .slice A' n' c'], .bool true]) ∧ Hid (PIn (New W.heap.size) w' (.agg #[.slice A n c, .slice A' n' c']) (T.list.getD k ([], [])).1 (T.list.getD k ([], [])).2 ∧ Below W.heap.size W w')) := fun W hW => by
    refine (at_any T (.pointer tu) (k : Int) W (hT.below (HX1.out W hW).2.2.1) (by omega) (WalkArith.wf_i64 (by omega))).mono ?_
    rintro e w' ⟨A1, n1, c1, A2, n2, c2, rfl, hp, hb⟩
    have hll := HLL.out
    rw [if_pos (by constructor <;> omega)] at hp
    rw [show ((k : Int)).toNat = k by omega] at hp
    rw [decide_eq_true (by constructor <;> omega : 0 ≤ (k : Int) ∧ (k : Int) < (T.list.length : Int))]
    exact ⟨A1, n1, c1, A2, n2, c2, rfl, hp, hb⟩
  have HG := Lib.hid hgl
  have hk1 : k ≤ 100000 := by omega
  have HK := Lib.hid hk
  clear hT hC hB hgl hk
  go_enter Tryz.func66, Tryz.ntmps66
  go_upto_region 1 with fail
  generalize w.alloc (.cells #[.slice none 0 0, .slice none 0 0] 60) = X at *
  obtain ⟨b0, b1⟩ := (HX1.out X (Below.refl _ _)).2.1.cells
  have HXL : Hid (w.heap.size < X.heap.size) := (HX1.out X (Below.refl _ _)).2.2.2
  have BZ : Hid (Below X.heap.size X (X.alloc (.cells #[.slice none 0 0, .slice none 0 0] 60))) := (Below.refl _ _).alloc (Nat.le_refl _) _
  have HZT : Hid (Two (X.alloc (.cells #[.slice none 0 0, .slice none 0 0] 60)) X.heap.size (.slice none 0 0) (.slice none 0 0)) := heap_new X _
  go_cut [4, 5] (fun p b V => ∃ q A1 n1 c1 A2 n2 c2, p = .pointer (some ⟨q, 0, none⟩) ∧ b = .bool true ∧ Hid (Two V q (.slice A1 n1 c1) (.slice A2 n2 c2) ∧ X.heap.size ≤ q ∧ PIn (New X.heap.size) V (.agg #[.slice A1 n1 c1, .slice A2 n2 c2]) (T.list.getD k ([], [])).1 (T.list.getD k ([], [])).2 ∧ Below X.heap.size X V))
  case first =>
    go_region_held3 (fun w' => w'.cell? ⟨g, 0, none⟩ = some (.pointer tu) ∧ w'.cell? ⟨g, 1, none⟩ = some (.int .i64 (k : Int)))
      (first | with_reducible exact (HX1.out _ (below_drew2 (Below.refl _ _))).2.1.cells | with_reducible exact (HX1.out _ (below_drew2 BZ.out)).2.1.cells | with_reducible exact (HX1.out _ BZ.out).2.1.cells | with_reducible exact (HX1.out _ B1.out).2.1.cells | with_reducible exact (HX1.out _ (BA.out _)).2.1.cells | with_reducible exact CZ.out.cells)
      (first
        | (go_at_call 68; (with_reducible refine (HAT.out _ (below_drew2 (Below.refl _ _))).mono ?_); rintro e w1 ⟨A1, n1, c1, A2, n2, c2, rfl, H1⟩
           have B1 : Hid (Below X.heap.size X w1) := below_drew1 H1.out.2
           have BA : Hid (∀ o, Below X.heap.size X (w1.alloc o)) := fun o => B1.out.alloc B1.out.size o)
        | (go_at_call 68; (with_reducible refine (HAT.out _ (below_drew2 BZ.out)).mono ?_); rintro e w1 ⟨A1, n1, c1, A2, n2, c2, rfl, H1⟩
           have B1 : Hid (Below X.heap.size X w1) := BZ.out.trans ((below_drew1 H1.out.2).mono BZ.out.size)
           have BA : Hid (∀ o, Below X.heap.size X (w1.alloc o)) := fun o => B1.out.alloc B1.out.size o
           have ZT : Hid (Two w1 X.heap.size (.slice none 0 0) (.slice none 0 0)) := HZT.out.below (below_drew1 H1.out.2) HZT.out.lt
           obtain ⟨q0, q1⟩ := ZT.out.cells
           have r0 := frozen_of_row _ _ 0 _ _ ZT.out
           have r1 := frozen_of_row _ _ 1 _ _ ZT.out
           have hng : X.heap.size ≠ g := by have h1 := HG.out; have h2 := HXL.out; omega
           have CZ : Hid (Cur ((w1.setCell ⟨X.heap.size, 0, none⟩ (.slice A1 n1 c1)).setCell ⟨X.heap.size, 1, none⟩ (.slice A2 n2 c2)) g (.pointer tu) (k : Int)) := ((HX1.out w1 B1.out).2.1.other hng).other hng
           clear hng))
    · have hn : Two (w1.alloc (.cells #[.slice A1 n1 c1, .slice A2 n2 c2] 60)) w1.heap.size (.slice A1 n1 c1) (.slice A2 n2 c2) := heap_new w1 _
      obtain ⟨h1, h2⟩ := H1.out.1.kx
      have hbn : Below w1.heap.size w1 (w1.alloc (.cells #[.slice A1 n1 c1, .slice A2 n2 c2] 60)) := (Below.refl _ _).alloc (Nat.le_refl _) _
      have HM : Hid (Two (w1.alloc (.cells #[.slice A1 n1 c1, .slice A2 n2 c2] 60)) w1.heap.size (.slice A1 n1 c1) (.slice A2 n2 c2) ∧ X.heap.size ≤ w1.heap.size ∧ PIn (New X.heap.size) (w1.alloc (.cells #[.slice A1 n1 c1, .slice A2 n2 c2] 60)) (.agg #[.slice A1 n1 c1, .slice A2 n2 c2]) (T.list.getD k ([], [])).1 (T.list.getD k ([], [])).2 ∧ Below X.heap.size X (w1.alloc (.cells #[.slice A1 n1 c1, .slice A2 n2 c2] 60))) :=
        ⟨hn, B1.out.size, ⟨_, _, rfl, h1.below hbn, h2.below hbn⟩, BA.out _⟩
      clear hn h1 h2 hbn
      go_wp2_with fail
      go_meet
      exact ⟨_, A1, n1, c1, A2, n2, c2, rfl, rfl, HM⟩
    · obtain ⟨h1, h2⟩ := H1.out.1.kx
      have hzl : X.heap.size < (X.alloc (.cells #[.slice none 0 0, .slice none 0 0] 60)).heap.size := by simp
      have HM : Hid (Two ((w1.setCell ⟨X.heap.size, 0, none⟩ (.slice A1 n1 c1)).setCell ⟨X.heap.size, 1, none⟩ (.slice A2 n2 c2)) X.heap.size (.slice A1 n1 c1) (.slice A2 n2 c2) ∧ X.heap.size ≤ X.heap.size ∧ PIn (New X.heap.size) ((w1.setCell ⟨X.heap.size, 0, none⟩ (.slice A1 n1 c1)).setCell ⟨X.heap.size, 1, none⟩ (.slice A2 n2 c2)) (.agg #[.slice A1 n1 c1, .slice A2 n2 c2]) (T.list.getD k ([], [])).1 (T.list.getD k ([], [])).2 ∧ Below X.heap.size X ((w1.setCell ⟨X.heap.size, 0, none⟩ (.slice A1 n1 c1)).setCell ⟨X.heap.size, 1, none⟩ (.slice A2 n2 c2))) :=
        ⟨ZT.out.set _ _, Nat.le_refl _, ⟨_, _, rfl, (BIn.set2 (b := X.heap.size) h1 hzl _ _).imp (fun b _ hb => Nat.le_trans (Nat.le_of_lt hzl) hb), (BIn.set2 (b := X.heap.size) h2 hzl _ _).imp (fun b _ hb => Nat.le_trans (Nat.le_of_lt hzl) hb)⟩, (B1.out.setCell (p := ⟨X.heap.size, 0, none⟩) (Nat.le_refl _) _).setCell (p := ⟨X.heap.size, 1, none⟩) (Nat.le_refl _) _⟩
      clear h1 h2 hzl q0 q1 r0 r1
      go_wp2_with fail
      go_meet
      exact ⟨_, A1, n1, c1, A2, n2, c2, rfl, rfl, HM⟩
  case rest =>
    obtain ⟨q, A1, n1, c1, A2, n2, c2, rfl, rfl, HM⟩ := hcut
    have hV := HX1.out wc HM.out.2.2.2
    have hqx := HM.out.2.1
    have hqg : q ≠ g := by have h1 := HG.out; have h2 := HXL.out; omega
    have hqw : q ≠ w.heap.size := by have h2 := HXL.out; omega
    obtain ⟨d0, d1⟩ := hV.2.1.cells
    have f1 := frozen_of_row _ _ 1 _ _ hV.2.1
    have HY : Hid (Two (wc.setCell ⟨g, 1, none⟩ (.int .i64 (((k : Int) + 1)))) q (.slice A1 n1 c1) (.slice A2 n2 c2) ∧ Two (wc.setCell ⟨g, 1, none⟩ (.int .i64 (((k : Int) + 1)))) w.heap.size (.slice none 0 0) (.slice none 0 0) ∧ Cur (wc.setCell ⟨g, 1, none⟩ (.int .i64 (((k : Int) + 1)))) g (.pointer tu) (((k : Int) + 1)) ∧ Kept (some g) w (wc.setCell ⟨g, 1, none⟩ (.int .i64 (((k : Int) + 1))))) :=
      ⟨HM.out.1.other hqg.symm, hV.1.other (by have := HG.out; omega), hV.2.1.set _, (Kept.of hV.2.2.1).cur _⟩
    have HP : Hid (PIn (New X.heap.size) (wc.setCell ⟨g, 1, none⟩ (.int .i64 (((k : Int) + 1)))) (.agg #[.slice A1 n1 c1, .slice A2 n2 c2]) (T.list.getD k ([], [])).1 (T.list.getD k ([], [])).2) := HM.out.2.2.1.carry (by simp) fun b hb _ => by
      have hne : b ≠ g := by intro e; subst e; have h1 := HG.out; have h2 := HXL.out; exact absurd (show X.heap.size ≤ b from hb) (by omega)
      rw [heap_setCell_other _ _ _ _ (by simpa using hne)]
    clear hV b0 b1 hqg hqw hqx
    go_upto_region 4 with fail
    clear d0 d1 f1
    generalize wc.setCell ⟨g, 1, none⟩ (.int .i64 (((k : Int) + 1))) = Y at *
    obtain ⟨e0, e1⟩ := HY.out.1.cells
    obtain ⟨z0, z1⟩ := HY.out.2.1.cells
    have g0 := frozen_of_row _ _ 0 _ _ HY.out.2.1
    have g1 := frozen_of_row _ _ 1 _ _ HY.out.2.1
    go_wp2_with fail
    try simp only [Exit.inBlock, Exit.then]
    refine bodyPost_ret (results_two rfl _ _ w.heap.size _ _ (by rfl) (Two.set HY.out.2.1 _ _)) rfl ?_
    obtain ⟨k1, k2⟩ := HP.out.kx
    have hne : w.heap.size ≠ g := by have := HG.out; omega
    have kp : Kept (some g) w ((Y.setCell ⟨w.heap.size, 0, none⟩ (.slice A1 n1 c1)).setCell ⟨w.heap.size, 1, none⟩ (.slice A2 n2 c2)) := (HY.out.2.2.2.set2 (Nat.le_refl _) 0 _).set2 (Nat.le_refl _) 1 _
    exact ⟨A1, n1, c1, A2, n2, c2, rfl, Lib.hid ⟨⟨_, _, rfl, (BIn.set2 (b := w.heap.size) k1 HXL.out _ _).imp (fun b _ hb => Nat.le_trans (Nat.le_of_lt HXL.out) hb), (BIn.set2 (b := w.heap.size) k2 HXL.out _ _).imp (fun b _ hb => Nat.le_trans (Nat.le_of_lt HXL.out) hb)⟩, kp, (HY.out.2.2.1.other hne).other hne⟩⟩

set_option maxRecDepth 100000 in
set_option maxHeartbeats 3200000 in
theorem nextN_any (T : PT) (tu : Option Addr) (g k : Nat) (w : World) (hT : TIn (fun b => b < g) w (.pointer tu) T) (hC : Cur w g (.pointer tu) (k : Int)) (hk : k = T.size) (hn : T.size ≤ 100000) :
    Calls Tryz.prog 66 #[.pointer (some ⟨g, 0, none⟩)] w fun e w' => ∃ A n c A' n' c', e = .returned (.tuple #[.agg #[.slice A n c, .slice A' n' c'], .bool false]) ∧
      Hid (PIn (New w.heap.size) w' (.agg #[.slice A n c, .slice A' n' c']) [] [] ∧ Kept (some g) w w' ∧ Cur w' g (.pointer tu) ((k : Int))) := by
  have hB := (Below.refl _ w).alloc (Nat.le_refl _) (.cells #[.slice none 0 0, .slice none 0 0] 60)
  have hgl := hC.lt
  have HX1 : Hid (∀ W, Below (w.alloc (.cells #[.slice none 0 0, .slice none 0 0] 60)).heap.size (w.alloc (.cells #[.slice none 0 0, .slice none 0 0] 60)) W → Two W w.heap.size (.slice none 0 0) (.slice none 0 0) ∧ Cur W g (.pointer tu) (k : Int) ∧ Below w.heap.size w W ∧ w.heap.size < W.heap.size) := fun W hW => by
    have h2 := hB.trans (hW.mono hB.size)
    have h0 : Two (w.alloc (.cells #[.slice none 0 0, .slice none 0 0] 60)) w.heap.size (.slice none 0 0) (.slice none 0 0) := heap_new w _
    exact ⟨h0.below hW h0.lt, hC.below h2 hgl, h2, Nat.lt_of_lt_of_le h0.lt hW.size⟩
  have HLL := Lib.hid T.size_list
  have HAT : Hid (∀ W, Below (w.alloc (.cells #[.slice none 0 0, .slice none 0 0] 60)).heap.size (w.alloc (.cells #[.slice none 0 0, .slice none 0 0] 60)) W → Calls Tryz.prog 68 #[.pointer tu, .int .i64 (k : Int)] W fun e w' => ∃ A n c A' n' c', e = .returned (.tuple #[.agg #[.slice A n c, .slice A' n' c'], .bool false]) ∧ Hid (PIn (New W.heap.size) w' (.agg #[.slice A n c, .slice A' n' c']) [] [] ∧ Below W.heap.size W w')) := fun W hW => by
    refine (at_any T (.pointer tu) (k : Int) W (hT.below (HX1.out W hW).2.2.1) (by omega) (WalkArith.wf_i64 (by omega))).mono ?_
    rintro e w' ⟨A1, n1, c1, A2, n2, c2, rfl, hp, hb⟩
    have hll := HLL.out
    have hno : ¬ (0 ≤ (k : Int) ∧ (k : Int) < (T.list.length : Int)) := by omega
    rw [if_neg hno] at hp
    rw [decide_eq_false hno]
    exact ⟨A1, n1, c1, A2, n2, c2, rfl, hp, hb⟩
  have HG := Lib.hid hgl
  have hk1 : k ≤ 100000 := by omega
  have HK := Lib.hid hk
  clear hT hC hB hgl hk
  go_enter Tryz.func66, Tryz.ntmps66
  go_upto_region 1 with fail
  generalize w.alloc (.cells #[.slice none 0 0, .slice none 0 0] 60) = X at *
  obtain ⟨b0, b1⟩ := (HX1.out X (Below.refl _ _)).2.1.cells
  have HXL : Hid (w.heap.size < X.heap.size) := (HX1.out X (Below.refl _ _)).2.2.2
  have BZ : Hid (Below X.heap.size X (X.alloc (.cells #[.slice none 0 0, .slice none 0 0] 60))) := (Below.refl _ _).alloc (Nat.le_refl _) _
  have HZT : Hid (Two (X.alloc (.cells #[.slice none 0 0, .slice none 0 0] 60)) X.heap.size (.slice none 0 0) (.slice none 0 0)) := heap_new X _
  go_cut [4, 5] (fun p b V => ∃ q A1 n1 c1 A2 n2 c2, p = .pointer (some ⟨q, 0, none⟩) ∧ b = .bool false ∧ Hid (Two V q (.slice A1 n1 c1) (.slice A2 n2 c2) ∧ X.heap.size ≤ q ∧ PIn (New X.heap.size) V (.agg #[.slice A1 n1 c1, .slice A2 n2 c2]) [] [] ∧ Below X.heap.size X V))
  case first =>
    go_region_held3 (fun w' => w'.cell? ⟨g, 0, none⟩ = some (.pointer tu) ∧ w'.cell? ⟨g, 1, none⟩ = some (.int .i64 (k : Int)))
      (first | with_reducible exact (HX1.out _ (below_drew2 (Below.refl _ _))).2.1.cells | with_reducible exact (HX1.out _ (below_drew2 BZ.out)).2.1.cells | with_reducible exact (HX1.out _ BZ.out).2.1.cells | with_reducible exact (HX1.out _ B1.out).2.1.cells | with_reducible exact (HX1.out _ (BA.out _)).2.1.cells | with_reducible exact CZ.out.cells)
      (first
        | (go_at_call 68; (with_reducible refine (HAT.out _ (below_drew2 (Below.refl _ _))).mono ?_); rintro e w1 ⟨A1, n1, c1, A2, n2, c2, rfl, H1⟩
           have B1 : Hid (Below X.heap.size X w1) := below_drew1 H1.out.2
           have BA : Hid (∀ o, Below X.heap.size X (w1.alloc o)) := fun o => B1.out.alloc B1.out.size o)
        | (go_at_call 68; (with_reducible refine (HAT.out _ (below_drew2 BZ.out)).mono ?_); rintro e w1 ⟨A1, n1, c1, A2, n2, c2, rfl, H1⟩
           have B1 : Hid (Below X.heap.size X w1) := BZ.out.trans ((below_drew1 H1.out.2).mono BZ.out.size)
           have BA : Hid (∀ o, Below X.heap.size X (w1.alloc o)) := fun o => B1.out.alloc B1.out.size o
           have ZT : Hid (Two w1 X.heap.size (.slice none 0 0) (.slice none 0 0)) := HZT.out.below (below_drew1 H1.out.2) HZT.out.lt
           obtain ⟨q0, q1⟩ := ZT.out.cells
           have r0 := frozen_of_row _ _ 0 _ _ ZT.out
           have r1 := frozen_of_row _ _ 1 _ _ ZT.out
           have hng : X.heap.size ≠ g := by have h1 := HG.out; have h2 := HXL.out; omega
           have CZ : Hid (Cur ((w1.setCell ⟨X.heap.size, 0, none⟩ (.slice A1 n1 c1)).setCell ⟨X.heap.size, 1, none⟩ (.slice A2 n2 c2)) g (.pointer tu) (k : Int)) := ((HX1.out w1 B1.out).2.1.other hng).other hng
           clear hng))
    · have hn : Two (w1.alloc (.cells #[.slice A1 n1 c1, .slice A2 n2 c2] 60)) w1.heap.size (.slice A1 n1 c1) (.slice A2 n2 c2) := heap_new w1 _
      obtain ⟨h1, h2⟩ := H1.out.1.kx
      have hbn : Below w1.heap.size w1 (w1.alloc (.cells #[.slice A1 n1 c1, .slice A2 n2 c2] 60)) := (Below.refl _ _).alloc (Nat.le_refl _) _
      have HM : Hid (Two (w1.alloc (.cells #[.slice A1 n1 c1, .slice A2 n2 c2] 60)) w1.heap.size (.slice A1 n1 c1) (.slice A2 n2 c2) ∧ X.heap.size ≤ w1.heap.size ∧ PIn (New X.heap.size) (w1.alloc (.cells #[.slice A1 n1 c1, .slice A2 n2 c2] 60)) (.agg #[.slice A1 n1 c1, .slice A2 n2 c2]) [] [] ∧ Below X.heap.size X (w1.alloc (.cells #[.slice A1 n1 c1, .slice A2 n2 c2] 60))) :=
        ⟨hn, B1.out.size, ⟨_, _, rfl, h1.below hbn, h2.below hbn⟩, BA.out _⟩
      clear hn h1 h2 hbn
      go_wp2_with fail
      go_meet
      exact ⟨_, A1, n1, c1, A2, n2, c2, rfl, rfl, HM⟩
    · obtain ⟨h1, h2⟩ := H1.out.1.kx
      have hzl : X.heap.size < (X.alloc (.cells #[.slice none 0 0, .slice none 0 0] 60)).heap.size := by simp
      have HM : Hid (Two ((w1.setCell ⟨X.heap.size, 0, none⟩ (.slice A1 n1 c1)).setCell ⟨X.heap.size, 1, none⟩ (.slice A2 n2 c2)) X.heap.size (.slice A1 n1 c1) (.slice A2 n2 c2) ∧ X.heap.size ≤ X.heap.size ∧ PIn (New X.heap.size) ((w1.setCell ⟨X.heap.size, 0, none⟩ (.slice A1 n1 c1)).setCell ⟨X.heap.size, 1, none⟩ (.slice A2 n2 c2)) (.agg #[.slice A1 n1 c1, .slice A2 n2 c2]) [] [] ∧ Below X.heap.size X ((w1.setCell ⟨X.heap.size, 0, none⟩ (.slice A1 n1 c1)).setCell ⟨X.heap.size, 1, none⟩ (.slice A2 n2 c2))) :=
        ⟨ZT.out.set _ _, Nat.le_refl _, ⟨_, _, rfl, (BIn.set2 (b := X.heap.size) h1 hzl _ _).imp (fun b _ hb => Nat.le_trans (Nat.le_of_lt hzl) hb), (BIn.set2 (b := X.heap.size) h2 hzl _ _).imp (fun b _ hb => Nat.le_trans (Nat.le_of_lt hzl) hb)⟩, (B1.out.setCell (p := ⟨X.heap.size, 0, none⟩) (Nat.le_refl _) _).setCell (p := ⟨X.heap.size, 1, none⟩) (Nat.le_refl _) _⟩
      clear h1 h2 hzl q0 q1 r0 r1
      go_wp2_with fail
      go_meet
      exact ⟨_, A1, n1, c1, A2, n2, c2, rfl, rfl, HM⟩
  case rest =>
    obtain ⟨q, A1, n1, c1, A2, n2, c2, rfl, rfl, HM⟩ := hcut
    have hV := HX1.out wc HM.out.2.2.2
    have hqx := HM.out.2.1
    have hqg : q ≠ g := by have h1 := HG.out; have h2 := HXL.out; omega
    have hqw : q ≠ w.heap.size := by have h2 := HXL.out; omega
    obtain ⟨d0, d1⟩ := hV.2.1.cells
    have f1 := frozen_of_row _ _ 1 _ _ hV.2.1
    have HY : Hid (Two wc q (.slice A1 n1 c1) (.slice A2 n2 c2) ∧ Two wc w.heap.size (.slice none 0 0) (.slice none 0 0) ∧ Cur wc g (.pointer tu) ((k : Int)) ∧ Kept (some g) w wc) :=
      ⟨HM.out.1, hV.1, hV.2.1, Kept.of hV.2.2.1⟩
    have HP := Lib.hid HM.out.2.2.1
    clear hV b0 b1 hqg hqw hqx
    go_upto_region 4 with fail
    clear d0 d1 f1
    obtain ⟨e0, e1⟩ := HY.out.1.cells
    obtain ⟨z0, z1⟩ := HY.out.2.1.cells
    have g0 := frozen_of_row _ _ 0 _ _ HY.out.2.1
    have g1 := frozen_of_row _ _ 1 _ _ HY.out.2.1
    go_wp2_with fail
    try simp only [Exit.inBlock, Exit.then]
    refine bodyPost_ret (results_two rfl _ _ w.heap.size _ _ (by rfl) (Two.set HY.out.2.1 _ _)) rfl ?_
    obtain ⟨k1, k2⟩ := HP.out.kx
    have hne : w.heap.size ≠ g := by have := HG.out; omega
    have kp : Kept (some g) w ((wc.setCell ⟨w.heap.size, 0, none⟩ (.slice A1 n1 c1)).setCell ⟨w.heap.size, 1, none⟩ (.slice A2 n2 c2)) := (HY.out.2.2.2.set2 (Nat.le_refl _) 0 _).set2 (Nat.le_refl _) 1 _
    exact ⟨A1, n1, c1, A2, n2, c2, rfl, Lib.hid ⟨⟨_, _, rfl, (BIn.set2 (b := w.heap.size) k1 HXL.out _ _).imp (fun b _ hb => Nat.le_trans (Nat.le_of_lt HXL.out) hb), (BIn.set2 (b := w.heap.size) k2 HXL.out _ _).imp (fun b _ hb => Nat.le_trans (Nat.le_of_lt HXL.out) hb)⟩, kp, (HY.out.2.2.1.other hne).other hne⟩⟩

set_option maxRecDepth 100000 in
set_option maxHeartbeats 3200000 in
theorem backY_any (T : PT) (tu : Option Addr) (g k : Nat) (w : World) (hT : TIn (fun b => b < g) w (.pointer tu) T) (hC : Cur w g (.pointer tu) (k : Int)) (hk : 0 < k ∧ k ≤ T.size) (hn : T.size ≤ 100000) :
    Calls Tryz.prog 73 #[.pointer (some ⟨g, 0, none⟩)] w fun e w' => ∃ A n c A' n' c', e = .returned (.tuple #[.agg #[.slice A n c, .slice A' n' c'], .bool true]) ∧
      Hid (PIn (New w.heap.size) w' (.agg #[.slice A n c, .slice A' n' c']) (T.list.getD (k - 1) ([], [])).1 (T.list.getD (k - 1) ([], [])).2 ∧ Kept (some g) w w' ∧ Cur w' g (.pointer tu) (((k : Int) - 1))) := by
  have hB := (Below.refl _ w).alloc (Nat.le_refl _) (.cells #[.slice none 0 0, .slice none 0 0] 60)
  have hgl := hC.lt
  have HX1 : Hid (∀ W, Below (w.alloc (.cells #[.slice none 0 0, .slice none 0 0] 60)).heap.size (w.alloc (.cells #[.slice none 0 0, .slice none 0 0] 60)) W → Two W w.heap.size (.slice none 0 0) (.slice none 0 0) ∧ Cur W g (.pointer tu) (k : Int) ∧ Below w.heap.size w W ∧ w.heap.size < W.heap.size) := fun W hW => by
    have h2 := hB.trans (hW.mono hB.size)
    have h0 : Two (w.alloc (.cells #[.slice none 0 0, .slice none 0 0] 60)) w.heap.size (.slice none 0 0) (.slice none 0 0) := heap_new w _
    exact ⟨h0.below hW h0.lt, hC.below h2 hgl, h2, Nat.lt_of_lt_of_le h0.lt hW.size⟩
  have HLL := Lib.hid T.size_list
  have hw : IntKind.i64.wrap ((k : Int) - 1) = ((k : Int) - 1) := wsm _ (by omega)
  have HAT : Hid (∀ W, Below (w.alloc (.cells #[.slice none 0 0, .slice none 0 0] 60)).heap.size (w.alloc (.cells #[.slice none 0 0, .slice none 0 0] 60)) W → Calls Tryz.prog 68 #[.pointer tu, .int .i64 ((k : Int) - 1)] W fun e w' => ∃ A n c A' n' c', e = .returned (.tuple #[.agg #[.slice A n c, .slice A' n' c'], .bool true]) ∧ Hid (PIn (New W.heap.size) w' (.agg #[.slice A n c, .slice A' n' c']) (T.list.getD (k - 1) ([], [])).1 (T.list.getD (k - 1) ([], [])).2 ∧ Below W.heap.size W w')) := fun W hW => by
    refine (at_any T (.pointer tu) ((k : Int) - 1) W (hT.below (HX1.out W hW).2.2.1) (by omega) (WalkArith.wf_i64 (by omega))).mono ?_
    rintro e w' ⟨A1, n1, c1, A2, n2, c2, rfl, hp, hb⟩
    have hll := HLL.out
    rw [if_pos (by constructor <;> omega)] at hp
    rw [show (((k : Int) - 1)).toNat = (k - 1) by omega] at hp
    rw [decide_eq_true (by constructor <;> omega : 0 ≤ ((k : Int) - 1) ∧ ((k : Int) - 1) < (T.list.length : Int))]
    exact ⟨A1, n1, c1, A2, n2, c2, rfl, hp, hb⟩
  have HG := Lib.hid hgl
  have hk1 : k ≤ 100000 := by omega
  have HK := Lib.hid hk
  clear hT hC hB hgl hk
  go_enter Tryz.func73, Tryz.ntmps73
  go_upto_region 1 with fail
  generalize w.alloc (.cells #[.slice none 0 0, .slice none 0 0] 60) = X at *
  obtain ⟨b0, b1⟩ := (HX1.out X (Below.refl _ _)).2.1.cells
  have HXL : Hid (w.heap.size < X.heap.size) := (HX1.out X (Below.refl _ _)).2.2.2
  have BZ : Hid (Below X.heap.size X (X.alloc (.cells #[.slice none 0 0, .slice none 0 0] 60))) := (Below.refl _ _).alloc (Nat.le_refl _) _
  have HZT : Hid (Two (X.alloc (.cells #[.slice none 0 0, .slice none 0 0] 60)) X.heap.size (.slice none 0 0) (.slice none 0 0)) := heap_new X _
  go_cut [4, 5] (fun p b V => ∃ q A1 n1 c1 A2 n2 c2, p = .pointer (some ⟨q, 0, none⟩) ∧ b = .bool true ∧ Hid (Two V q (.slice A1 n1 c1) (.slice A2 n2 c2) ∧ X.heap.size ≤ q ∧ PIn (New X.heap.size) V (.agg #[.slice A1 n1 c1, .slice A2 n2 c2]) (T.list.getD (k - 1) ([], [])).1 (T.list.getD (k - 1) ([], [])).2 ∧ Below X.heap.size X V))
  case first =>
    go_region_held3 (fun w' => w'.cell? ⟨g, 0, none⟩ = some (.pointer tu) ∧ w'.cell? ⟨g, 1, none⟩ = some (.int .i64 (k : Int)))
      (first | with_reducible exact (HX1.out _ (below_drew2 (Below.refl _ _))).2.1.cells | with_reducible exact (HX1.out _ (below_drew2 BZ.out)).2.1.cells | with_reducible exact (HX1.out _ BZ.out).2.1.cells | with_reducible exact (HX1.out _ B1.out).2.1.cells | with_reducible exact (HX1.out _ (BA.out _)).2.1.cells | with_reducible exact CZ.out.cells)
      (first
        | (go_at_call 68; (with_reducible refine (HAT.out _ (below_drew2 (Below.refl _ _))).mono ?_); rintro e w1 ⟨A1, n1, c1, A2, n2, c2, rfl, H1⟩
           have B1 : Hid (Below X.heap.size X w1) := below_drew1 H1.out.2
           have BA : Hid (∀ o, Below X.heap.size X (w1.alloc o)) := fun o => B1.out.alloc B1.out.size o)
        | (go_at_call 68; (with_reducible refine (HAT.out _ (below_drew2 BZ.out)).mono ?_); rintro e w1 ⟨A1, n1, c1, A2, n2, c2, rfl, H1⟩
           have B1 : Hid (Below X.heap.size X w1) := BZ.out.trans ((below_drew1 H1.out.2).mono BZ.out.size)
           have BA : Hid (∀ o, Below X.heap.size X (w1.alloc o)) := fun o => B1.out.alloc B1.out.size o
           have ZT : Hid (Two w1 X.heap.size (.slice none 0 0) (.slice none 0 0)) := HZT.out.below (below_drew1 H1.out.2) HZT.out.lt
           obtain ⟨q0, q1⟩ := ZT.out.cells
           have r0 := frozen_of_row _ _ 0 _ _ ZT.out
           have r1 := frozen_of_row _ _ 1 _ _ ZT.out
           have hng : X.heap.size ≠ g := by have h1 := HG.out; have h2 := HXL.out; omega
           have CZ : Hid (Cur ((w1.setCell ⟨X.heap.size, 0, none⟩ (.slice A1 n1 c1)).setCell ⟨X.heap.size, 1, none⟩ (.slice A2 n2 c2)) g (.pointer tu) (k : Int)) := ((HX1.out w1 B1.out).2.1.other hng).other hng
           clear hng))
    · have hn : Two (w1.alloc (.cells #[.slice A1 n1 c1, .slice A2 n2 c2] 60)) w1.heap.size (.slice A1 n1 c1) (.slice A2 n2 c2) := heap_new w1 _
      obtain ⟨h1, h2⟩ := H1.out.1.kx
      have hbn : Below w1.heap.size w1 (w1.alloc (.cells #[.slice A1 n1 c1, .slice A2 n2 c2] 60)) := (Below.refl _ _).alloc (Nat.le_refl _) _
      have HM : Hid (Two (w1.alloc (.cells #[.slice A1 n1 c1, .slice A2 n2 c2] 60)) w1.heap.size (.slice A1 n1 c1) (.slice A2 n2 c2) ∧ X.heap.size ≤ w1.heap.size ∧ PIn (New X.heap.size) (w1.alloc (.cells #[.slice A1 n1 c1, .slice A2 n2 c2] 60)) (.agg #[.slice A1 n1 c1, .slice A2 n2 c2]) (T.list.getD (k - 1) ([], [])).1 (T.list.getD (k - 1) ([], [])).2 ∧ Below X.heap.size X (w1.alloc (.cells #[.slice A1 n1 c1, .slice A2 n2 c2] 60))) :=
        ⟨hn, B1.out.size, ⟨_, _, rfl, h1.below hbn, h2.below hbn⟩, BA.out _⟩
      clear hn h1 h2 hbn
      go_wp2_with fail
      go_meet
      exact ⟨_, A1, n1, c1, A2, n2, c2, rfl, rfl, HM⟩
    · obtain ⟨h1, h2⟩ := H1.out.1.kx
      have hzl : X.heap.size < (X.alloc (.cells #[.slice none 0 0, .slice none 0 0] 60)).heap.size := by simp
      have HM : Hid (Two ((w1.setCell ⟨X.heap.size, 0, none⟩ (.slice A1 n1 c1)).setCell ⟨X.heap.size, 1, none⟩ (.slice A2 n2 c2)) X.heap.size (.slice A1 n1 c1) (.slice A2 n2 c2) ∧ X.heap.size ≤ X.heap.size ∧ PIn (New X.heap.size) ((w1.setCell ⟨X.heap.size, 0, none⟩ (.slice A1 n1 c1)).setCell ⟨X.heap.size, 1, none⟩ (.slice A2 n2 c2)) (.agg #[.slice A1 n1 c1, .slice A2 n2 c2]) (T.list.getD (k - 1) ([], [])).1 (T.list.getD (k - 1) ([], [])).2 ∧ Below X.heap.size X ((w1.setCell ⟨X.heap.size, 0, none⟩ (.slice A1 n1 c1)).setCell ⟨X.heap.size, 1, none⟩ (.slice A2 n2 c2))) :=
        ⟨ZT.out.set _ _, Nat.le_refl _, ⟨_, _, rfl, (BIn.set2 (b := X.heap.size) h1 hzl _ _).imp (fun b _ hb => Nat.le_trans (Nat.le_of_lt hzl) hb), (BIn.set2 (b := X.heap.size) h2 hzl _ _).imp (fun b _ hb => Nat.le_trans (Nat.le_of_lt hzl) hb)⟩, (B1.out.setCell (p := ⟨X.heap.size, 0, none⟩) (Nat.le_refl _) _).setCell (p := ⟨X.heap.size, 1, none⟩) (Nat.le_refl _) _⟩
      clear h1 h2 hzl q0 q1 r0 r1
      go_wp2_with fail
      go_meet
      exact ⟨_, A1, n1, c1, A2, n2, c2, rfl, rfl, HM⟩
  case rest =>
    obtain ⟨q, A1, n1, c1, A2, n2, c2, rfl, rfl, HM⟩ := hcut
    have hV := HX1.out wc HM.out.2.2.2
    have hqx := HM.out.2.1
    have hqg : q ≠ g := by have h1 := HG.out; have h2 := HXL.out; omega
    have hqw : q ≠ w.heap.size := by have h2 := HXL.out; omega
    obtain ⟨d0, d1⟩ := hV.2.1.cells
    have f1 := frozen_of_row _ _ 1 _ _ hV.2.1
    have HY : Hid (Two (wc.setCell ⟨g, 1, none⟩ (.int .i64 (((k : Int) - 1)))) q (.slice A1 n1 c1) (.slice A2 n2 c2) ∧ Two (wc.setCell ⟨g, 1, none⟩ (.int .i64 (((k : Int) - 1)))) w.heap.size (.slice none 0 0) (.slice none 0 0) ∧ Cur (wc.setCell ⟨g, 1, none⟩ (.int .i64 (((k : Int) - 1)))) g (.pointer tu) (((k : Int) - 1)) ∧ Kept (some g) w (wc.setCell ⟨g, 1, none⟩ (.int .i64 (((k : Int) - 1))))) :=
      ⟨HM.out.1.other hqg.symm, hV.1.other (by have := HG.out; omega), hV.2.1.set _, (Kept.of hV.2.2.1).cur _⟩
    have HP : Hid (PIn (New X.heap.size) (wc.setCell ⟨g, 1, none⟩ (.int .i64 (((k : Int) - 1)))) (.agg #[.slice A1 n1 c1, .slice A2 n2 c2]) (T.list.getD (k - 1) ([], [])).1 (T.list.getD (k - 1) ([], [])).2) := HM.out.2.2.1.carry (by simp) fun b hb _ => by
      have hne : b ≠ g := by intro e; subst e; have h1 := HG.out; have h2 := HXL.out; exact absurd (show X.heap.size ≤ b from hb) (by omega)
      rw [heap_setCell_other _ _ _ _ (by simpa using hne)]
    clear hV b0 b1 hqg hqw hqx
    go_upto_region 4 with fail
    clear d0 d1 f1
    generalize wc.setCell ⟨g, 1, none⟩ (.int .i64 (((k : Int) - 1))) = Y at *
    obtain ⟨e0, e1⟩ := HY.out.1.cells
    obtain ⟨z0, z1⟩ := HY.out.2.1.cells
    have g0 := frozen_of_row _ _ 0 _ _ HY.out.2.1
    have g1 := frozen_of_row _ _ 1 _ _ HY.out.2.1
    go_wp2_with fail
    try simp only [Exit.inBlock, Exit.then]
    refine bodyPost_ret (results_two rfl _ _ w.heap.size _ _ (by rfl) (Two.set HY.out.2.1 _ _)) rfl ?_
    obtain ⟨k1, k2⟩ := HP.out.kx
    have hne : w.heap.size ≠ g := by have := HG.out; omega
    have kp : Kept (some g) w ((Y.setCell ⟨w.heap.size, 0, none⟩ (.slice A1 n1 c1)).setCell ⟨w.heap.size, 1, none⟩ (.slice A2 n2 c2)) := (HY.out.2.2.2.set2 (Nat.le_refl _) 0 _).set2 (Nat.le_refl _) 1 _
    exact ⟨A1, n1, c1, A2, n2, c2, rfl, Lib.hid ⟨⟨_, _, rfl, (BIn.set2 (b := w.heap.size) k1 HXL.out _ _).imp (fun b _ hb => Nat.le_trans (Nat.le_of_lt HXL.out) hb), (BIn.set2 (b := w.heap.size) k2 HXL.out _ _).imp (fun b _ hb => Nat.le_trans (Nat.le_of_lt HXL.out) hb)⟩, kp, (HY.out.2.2.1.other hne).other hne⟩⟩

set_option maxRecDepth 100000 in
set_option maxHeartbeats 3200000 in
theorem backN_any (T : PT) (tu : Option Addr) (g k : Nat) (w : World) (hT : TIn (fun b => b < g) w (.pointer tu) T) (hC : Cur w g (.pointer tu) (k : Int)) (hk : k = 0) (hn : T.size ≤ 100000) :
    Calls Tryz.prog 73 #[.pointer (some ⟨g, 0, none⟩)] w fun e w' => ∃ A n c A' n' c', e = .returned (.tuple #[.agg #[.slice A n c, .slice A' n' c'], .bool false]) ∧
      Hid (PIn (New w.heap.size) w' (.agg #[.slice A n c, .slice A' n' c']) [] [] ∧ Kept (some g) w w' ∧ Cur w' g (.pointer tu) ((k : Int))) := by
  have hB := (Below.refl _ w).alloc (Nat.le_refl _) (.cells #[.slice none 0 0, .slice none 0 0] 60)
  have hgl := hC.lt
  have HX1 : Hid (∀ W, Below (w.alloc (.cells #[.slice none 0 0, .slice none 0 0] 60)).heap.size (w.alloc (.cells #[.slice none 0 0, .slice none 0 0] 60)) W → Two W w.heap.size (.slice none 0 0) (.slice none 0 0) ∧ Cur W g (.pointer tu) (k : Int) ∧ Below w.heap.size w W ∧ w.heap.size < W.heap.size) := fun W hW => by
    have h2 := hB.trans (hW.mono hB.size)
    have h0 : Two (w.alloc (.cells #[.slice none 0 0, .slice none 0 0] 60)) w.heap.size (.slice none 0 0) (.slice none 0 0) := heap_new w _
    exact ⟨h0.below hW h0.lt, hC.below h2 hgl, h2, Nat.lt_of_lt_of_le h0.lt hW.size⟩
  have HLL := Lib.hid T.size_list
  have hw : IntKind.i64.wrap ((k : Int) - 1) = ((k : Int) - 1) := wsm _ (by omega)
  have HAT : Hid (∀ W, Below (w.alloc (.cells #[.slice none 0 0, .slice none 0 0] 60)).heap.size (w.alloc (.cells #[.slice none 0 0, .slice none 0 0] 60)) W → Calls Tryz.prog 68 #[.pointer tu, .int .i64 ((k : Int) - 1)] W fun e w' => ∃ A n c A' n' c', e = .returned (.tuple #[.agg #[.slice A n c, .slice A' n' c'], .bool false]) ∧ Hid (PIn (New W.heap.size) w' (.agg #[.slice A n c, .slice A' n' c']) [] [] ∧ Below W.heap.size W w')) := fun W hW => by
    refine (at_any T (.pointer tu) ((k : Int) - 1) W (hT.below (HX1.out W hW).2.2.1) (by omega) (WalkArith.wf_i64 (by omega))).mono ?_
    rintro e w' ⟨A1, n1, c1, A2, n2, c2, rfl, hp, hb⟩
    have hll := HLL.out
    have hno : ¬ (0 ≤ ((k : Int) - 1) ∧ ((k : Int) - 1) < (T.list.length : Int)) := by omega
    rw [if_neg hno] at hp
    rw [decide_eq_false hno]
    exact ⟨A1, n1, c1, A2, n2, c2, rfl, hp, hb⟩
  have HG := Lib.hid hgl
  have hk1 : k ≤ 100000 := by omega
  have HK := Lib.hid hk
  clear hT hC hB hgl hk
  go_enter Tryz.func73, Tryz.ntmps73
  go_upto_region 1 with fail
  generalize w.alloc (.cells #[.slice none 0 0, .slice none 0 0] 60) = X at *
  obtain ⟨b0, b1⟩ := (HX1.out X (Below.refl _ _)).2.1.cells
  have HXL : Hid (w.heap.size < X.heap.size) := (HX1.out X (Below.refl _ _)).2.2.2
  have BZ : Hid (Below X.heap.size X (X.alloc (.cells #[.slice none 0 0, .slice none 0 0] 60))) := (Below.refl _ _).alloc (Nat.le_refl _) _
  have HZT : Hid (Two (X.alloc (.cells #[.slice none 0 0, .slice none 0 0] 60)) X.heap.size (.slice none 0 0) (.slice none 0 0)) := heap_new X _
  go_cut [4, 5] (fun p b V => ∃ q A1 n1 c1 A2 n2 c2, p = .pointer (some ⟨q, 0, none⟩) ∧ b = .bool false ∧ Hid (Two V q (.slice A1 n1 c1) (.slice A2 n2 c2) ∧ X.heap.size ≤ q ∧ PIn (New X.heap.size) V (.agg #[.slice A1 n1 c1, .slice A2 n2 c2]) [] [] ∧ Below X.heap.size X V))
  case first =>
    go_region_held3 (fun w' => w'.cell? ⟨g, 0, none⟩ = some (.pointer tu) ∧ w'.cell? ⟨g, 1, none⟩ = some (.int .i64 (k : Int)))
      (first | with_reducible exact (HX1.out _ (below_drew2 (Below.refl _ _))).2.1.cells | with_reducible exact (HX1.out _ (below_drew2 BZ.out)).2.1.cells | with_reducible exact (HX1.out _ BZ.out).2.1.cells | with_reducible exact (HX1.out _ B1.out).2.1.cells | with_reducible exact (HX1.out _ (BA.out _)).2.1.cells | with_reducible exact CZ.out.cells)
      (first
        | (go_at_call 68; (with_reducible refine (HAT.out _ (below_drew2 (Below.refl _ _))).mono ?_); rintro e w1 ⟨A1, n1, c1, A2, n2, c2, rfl, H1⟩
           have B1 : Hid (Below X.heap.size X w1) := below_drew1 H1.out.2
           have BA : Hid (∀ o, Below X.heap.size X (w1.alloc o)) := fun o => B1.out.alloc B1.out.size o)
        | (go_at_call 68; (with_reducible refine (HAT.out _ (below_drew2 BZ.out)).mono ?_); rintro e w1 ⟨A1, n1, c1, A2, n2, c2, rfl, H1⟩
           have B1 : Hid (Below X.heap.size X w1) := BZ.out.trans ((below_drew1 H1.out.2).mono BZ.out.size)
           have BA : Hid (∀ o, Below X.heap.size X (w1.alloc o)) := fun o => B1.out.alloc B1.out.size o
           have ZT : Hid (Two w1 X.heap.size (.slice none 0 0) (.slice none 0 0)) := HZT.out.below (below_drew1 H1.out.2) HZT.out.lt
           obtain ⟨q0, q1⟩ := ZT.out.cells
           have r0 := frozen_of_row _ _ 0 _ _ ZT.out
           have r1 := frozen_of_row _ _ 1 _ _ ZT.out
           have hng : X.heap.size ≠ g := by have h1 := HG.out; have h2 := HXL.out; omega
           have CZ : Hid (Cur ((w1.setCell ⟨X.heap.size, 0, none⟩ (.slice A1 n1 c1)).setCell ⟨X.heap.size, 1, none⟩ (.slice A2 n2 c2)) g (.pointer tu) (k : Int)) := ((HX1.out w1 B1.out).2.1.other hng).other hng
           clear hng))
    · have hn : Two (w1.alloc (.cells #[.slice A1 n1 c1, .slice A2 n2 c2] 60)) w1.heap.size (.slice A1 n1 c1) (.slice A2 n2 c2) := heap_new w1 _
      obtain ⟨h1, h2⟩ := H1.out.1.kx
      have hbn : Below w1.heap.size w1 (w1.alloc (.cells #[.slice A1 n1 c1, .slice A2 n2 c2] 60)) := (Below.refl _ _).alloc (Nat.le_refl _) _
      have HM : Hid (Two (w1.alloc (.cells #[.slice A1 n1 c1, .slice A2 n2 c2] 60)) w1.heap.size (.slice A1 n1 c1) (.slice A2 n2 c2) ∧ X.heap.size ≤ w1.heap.size ∧ PIn (New X.heap.size) (w1.alloc (.cells #[.slice A1 n1 c1, .slice A2 n2 c2] 60)) (.agg #[.slice A1 n1 c1, .slice A2 n2 c2]) [] [] ∧ Below X.heap.size X (w1.alloc (.cells #[.slice A1 n1 c1, .slice A2 n2 c2] 60))) :=
        ⟨hn, B1.out.size, ⟨_, _, rfl, h1.below hbn, h2.below hbn⟩, BA.out _⟩
      clear hn h1 h2 hbn
      go_wp2_with fail
      go_meet
      exact ⟨_, A1, n1, c1, A2, n2, c2, rfl, rfl, HM⟩
    · obtain ⟨h1, h2⟩ := H1.out.1.kx
      have hzl : X.heap.size < (X.alloc (.cells #[.slice none 0 0, .slice none 0 0] 60)).heap.size := by simp
      have HM : Hid (Two ((w1.setCell ⟨X.heap.size, 0, none⟩ (.slice A1 n1 c1)).setCell ⟨X.heap.size, 1, none⟩ (.slice A2 n2 c2)) X.heap.size (.slice A1 n1 c1) (.slice A2 n2 c2) ∧ X.heap.size ≤ X.heap.size ∧ PIn (New X.heap.size) ((w1.setCell ⟨X.heap.size, 0, none⟩ (.slice A1 n1 c1)).setCell ⟨X.heap.size, 1, none⟩ (.slice A2 n2 c2)) (.agg #[.slice A1 n1 c1, .slice A2 n2 c2]) [] [] ∧ Below X.heap.size X ((w1.setCell ⟨X.heap.size, 0, none⟩ (.slice A1 n1 c1)).setCell ⟨X.heap.size, 1, none⟩ (.slice A2 n2 c2))) :=
        ⟨ZT.out.set _ _, Nat.le_refl _, ⟨_, _, rfl, (BIn.set2 (b := X.heap.size) h1 hzl _ _).imp (fun b _ hb => Nat.le_trans (Nat.le_of_lt hzl) hb), (BIn.set2 (b := X.heap.size) h2 hzl _ _).imp (fun b _ hb => Nat.le_trans (Nat.le_of_lt hzl) hb)⟩, (B1.out.setCell (p := ⟨X.heap.size, 0, none⟩) (Nat.le_refl _) _).setCell (p := ⟨X.heap.size, 1, none⟩) (Nat.le_refl _) _⟩
      clear h1 h2 hzl q0 q1 r0 r1
      go_wp2_with fail
      go_meet
      exact ⟨_, A1, n1, c1, A2, n2, c2, rfl, rfl, HM⟩
  case rest =>
    obtain ⟨q, A1, n1, c1, A2, n2, c2, rfl, rfl, HM⟩ := hcut
    have hV := HX1.out wc HM.out.2.2.2
    have hqx := HM.out.2.1
    have hqg : q ≠ g := by have h1 := HG.out; have h2 := HXL.out; omega
    have hqw : q ≠ w.heap.size := by have h2 := HXL.out; omega
    obtain ⟨d0, d1⟩ := hV.2.1.cells
    have f1 := frozen_of_row _ _ 1 _ _ hV.2.1
    have HY : Hid (Two wc q (.slice A1 n1 c1) (.slice A2 n2 c2) ∧ Two wc w.heap.size (.slice none 0 0) (.slice none 0 0) ∧ Cur wc g (.pointer tu) ((k : Int)) ∧ Kept (some g) w wc) :=
      ⟨HM.out.1, hV.1, hV.2.1, Kept.of hV.2.2.1⟩
    have HP := Lib.hid HM.out.2.2.1
    clear hV b0 b1 hqg hqw hqx
    go_upto_region 4 with fail
    clear d0 d1 f1
    obtain ⟨e0, e1⟩ := HY.out.1.cells
    obtain ⟨z0, z1⟩ := HY.out.2.1.cells
    have g0 := frozen_of_row _ _ 0 _ _ HY.out.2.1
    have g1 := frozen_of_row _ _ 1 _ _ HY.out.2.1
    go_wp2_with fail
    try simp only [Exit.inBlock, Exit.then]
    refine bodyPost_ret (results_two rfl _ _ w.heap.size _ _ (by rfl) (Two.set HY.out.2.1 _ _)) rfl ?_
    obtain ⟨k1, k2⟩ := HP.out.kx
    have hne : w.heap.size ≠ g := by have := HG.out; omega
    have kp : Kept (some g) w ((wc.setCell ⟨w.heap.size, 0, none⟩ (.slice A1 n1 c1)).setCell ⟨w.heap.size, 1, none⟩ (.slice A2 n2 c2)) := (HY.out.2.2.2.set2 (Nat.le_refl _) 0 _).set2 (Nat.le_refl _) 1 _
    exact ⟨A1, n1, c1, A2, n2, c2, rfl, Lib.hid ⟨⟨_, _, rfl, (BIn.set2 (b := w.heap.size) k1 HXL.out _ _).imp (fun b _ hb => Nat.le_trans (Nat.le_of_lt HXL.out) hb), (BIn.set2 (b := w.heap.size) k2 HXL.out _ _).imp (fun b _ hb => Nat.le_trans (Nat.le_of_lt HXL.out) hb)⟩, kp, (HY.out.2.2.1.other hne).other hne⟩⟩

theorem place_any (w : World) (g : Nat) (tv : Value) (k : Int) (h : Cur w g tv k) : Calls Tryz.prog 65 #[.pointer (some ⟨g, 0, none⟩)] w fun e w' => e = .returned (.int .i64 k) ∧ w = w' := by
  obtain ⟨c0, c1⟩ := h.cells
  clear h
  go_enter Tryz.func65, Tryz.ntmps65
  go_wp2_with fail
  go_ret
  exact ⟨rfl, rfl⟩

end Go.Proofs.YtphjaebkcimklaaGreatDoor

/- A cursor's calls, put together; what the law asks of a pair; awake. -/
set_option linter.unusedVariables false
set_option linter.unusedSimpArgs false
namespace Go.Proofs.YtphjaebkcimklaaGreatDoor
open Go.RowKit
attribute [local go_sem] max2_num min2_num maxOf_two minOf_two

/-- A cursor, its tree, and all that was there when it was made. -/
structure CI (X W : World) (g : Nat) (tu : Option Addr) (T : PT) (k : Nat) : Prop where
  tin : TIn (fun b => b < g) W (.pointer tu) T
  cur : Cur W g (.pointer tu) (k : Int)
  kept : Kept (some g) X W
  le : k ≤ T.list.length
  sz : T.size ≤ 100000
theorem CI.below {X W W' : World} {g k : Nat} {tu : Option Addr} {T : PT} (h : CI X W g tu T k) (hb : Below W.heap.size W W') : CI X W' g tu T k :=
  ⟨h.tin.below hb, h.cur.below hb h.cur.lt, h.kept.trans (Kept.of hb), h.le, h.sz⟩
theorem CI.move {X W W' : World} {g k k' : Nat} {tu : Option Addr} {T : PT} (h : CI X W g tu T k) (hk : Kept (some g) W W') (hc : Cur W' g (.pointer tu) (k' : Int)) (hl : k' ≤ T.list.length) : CI X W' g tu T k' :=
  ⟨h.tin.kept hk (fun b hb e => by injection e with e; subst e; exact Nat.lt_irrefl _ hb), hc, h.kept.trans hk, hl, h.sz⟩
/-- What Next and Back tell. -/
def MoveR (X w w' : World) (e : Ending) (g : Nat) (tu : Option Addr) (T : PT) (k' : Nat) (i : Int) : Prop :=
  ∃ A n c A' n' c', e = .returned (.tuple #[.agg #[.slice A n c, .slice A' n' c'], .bool (decide (0 ≤ i ∧ i < (T.list.length : Int)))]) ∧
    Hid (PIn (New w.heap.size) w' (.agg #[.slice A n c, .slice A' n' c']) (if 0 ≤ i ∧ i < (T.list.length : Int) then T.list.getD i.toNat ([], []) else ([], [])).1 (if 0 ≤ i ∧ i < (T.list.length : Int) then T.list.getD i.toNat ([], []) else ([], [])).2 ∧ Kept (some g) w w' ∧ CI X w' g tu T k')

theorem next_ci {X w : World} {g k : Nat} {tu : Option Addr} {T : PT} (h : CI X w g tu T k) : Calls Tryz.prog 66 #[.pointer (some ⟨g, 0, none⟩)] w fun e w' => MoveR X w w' e g tu T (if k < T.list.length then k + 1 else k) (k : Int) := by
  have hs := T.size_list
  by_cases hk : k < T.list.length
  · refine (nextY_any T tu g k w h.tin h.cur (by omega) h.sz).mono ?_
    rintro e w' ⟨A, n, c, A', n', c', rfl, hp⟩
    have hd : (0 : Int) ≤ (k : Int) ∧ (k : Int) < (T.list.length : Int) := by omega
    refine ⟨A, n, c, A', n', c', by rw [decide_eq_true hd], Lib.hid ⟨?_, hp.out.2.1, ?_⟩⟩
    · rw [if_pos hd, Int.toNat_natCast]; exact hp.out.1
    · rw [if_pos hk]; exact h.move hp.out.2.1 (by have := hp.out.2.2; rw [show ((k + 1 : Nat) : Int) = (k : Int) + 1 by simp]; exact this) (by omega)
  · refine (nextN_any T tu g k w h.tin h.cur (by have := h.le; omega) h.sz).mono ?_
    rintro e w' ⟨A, n, c, A', n', c', rfl, hp⟩
    have hd : ¬ ((0 : Int) ≤ (k : Int) ∧ (k : Int) < (T.list.length : Int)) := by omega
    refine ⟨A, n, c, A', n', c', by rw [decide_eq_false hd], Lib.hid ⟨?_, hp.out.2.1, ?_⟩⟩
    · rw [if_neg hd]; exact hp.out.1
    · rw [if_neg hk]; exact h.move hp.out.2.1 hp.out.2.2 h.le
theorem back_ci {X w : World} {g k : Nat} {tu : Option Addr} {T : PT} (h : CI X w g tu T k) : Calls Tryz.prog 73 #[.pointer (some ⟨g, 0, none⟩)] w fun e w' => MoveR X w w' e g tu T (k - 1) ((k : Int) - 1) := by
  have hs := T.size_list
  have hle := h.le
  by_cases hk : 0 < k
  · refine (backY_any T tu g k w h.tin h.cur (by omega) h.sz).mono ?_
    rintro e w' ⟨A, n, c, A', n', c', rfl, hp⟩
    have hd : (0 : Int) ≤ (k : Int) - 1 ∧ (k : Int) - 1 < (T.list.length : Int) := by omega
    refine ⟨A, n, c, A', n', c', by rw [decide_eq_true hd], Lib.hid ⟨?_, hp.out.2.1, ?_⟩⟩
    · rw [if_pos hd, show ((k : Int) - 1).toNat = k - 1 by omega]; exact hp.out.1
    · exact h.move hp.out.2.1 (by have := hp.out.2.2; rw [show ((k - 1 : Nat) : Int) = (k : Int) - 1 by omega]; exact this) (by omega)
  · obtain rfl : k = 0 := by omega
    refine (backN_any T tu g 0 w h.tin h.cur rfl h.sz).mono ?_
    rintro e w' ⟨A, n, c, A', n', c', rfl, hp⟩
    have hd : ¬ ((0 : Int) ≤ ((0 : Nat) : Int) - 1 ∧ ((0 : Nat) : Int) - 1 < (T.list.length : Int)) := by omega
    refine ⟨A, n, c, A', n', c', by rw [decide_eq_false hd], Lib.hid ⟨?_, hp.out.2.1, ?_⟩⟩
    · rw [if_neg hd]; exact hp.out.1
    · exact h.move hp.out.2.1 hp.out.2.2 h.le

theorem empty_bin {S : Nat → Prop} {w : World} {A : Option Addr} {n c : Nat} (h : BIn S w (.slice A n c) []) : n = 0 := by
  obtain ⟨A', n', c', e, _, hR, _⟩ := h
  cases e
  exact hR.len.symm

end Go.Proofs.YtphjaebkcimklaaGreatDoor

/- law15: awake. -/
set_option linter.unusedVariables false
set_option linter.unusedSimpArgs false
namespace Go.Proofs.YtphjaebkcimklaaGreatDoor
open Go.RowKit

/-- A move that tells a pair, and one that tells none. -/
def MoveY (X w w' : World) (e : Ending) (g : Nat) (tu : Option Addr) (T : PT) (k' : Nat) (k x : Bytes) : Prop :=
  ∃ A n c A' n' c', e = .returned (.tuple #[.agg #[.slice A n c, .slice A' n' c'], .bool true]) ∧ Hid (PIn (New w.heap.size) w' (.agg #[.slice A n c, .slice A' n' c']) k x ∧ Kept (some g) w w' ∧ CI X w' g tu T k')
def MoveN (X w w' : World) (e : Ending) (g : Nat) (tu : Option Addr) (T : PT) (k' : Nat) : Prop :=
  ∃ A n c A' n' c', e = .returned (.tuple #[.agg #[.slice A n c, .slice A' n' c'], .bool false]) ∧ Hid (PIn (New w.heap.size) w' (.agg #[.slice A n c, .slice A' n' c']) [] [] ∧ Kept (some g) w w' ∧ CI X w' g tu T k')
theorem next_yes {X w : World} {g k : Nat} {tu : Option Addr} {T : PT} (h : CI X w g tu T k) (hk : k < T.list.length) : Calls Tryz.prog 66 #[.pointer (some ⟨g, 0, none⟩)] w fun e w' => MoveY X w w' e g tu T (k + 1) (T.list.getD k ([], [])).1 (T.list.getD k ([], [])).2 :=
  (next_ci h).mono fun e w' ⟨A, n, c, A', n', c', he, hp⟩ => by
    have hd : (0 : Int) ≤ (k : Int) ∧ (k : Int) < (T.list.length : Int) := by omega
    have hp := hp.out
    rw [if_pos hd, if_pos hk, Int.toNat_natCast] at hp
    exact ⟨A, n, c, A', n', c', by rw [he, decide_eq_true hd], hp⟩
theorem next_no {X w : World} {g k : Nat} {tu : Option Addr} {T : PT} (h : CI X w g tu T k) (hk : ¬ k < T.list.length) : Calls Tryz.prog 66 #[.pointer (some ⟨g, 0, none⟩)] w fun e w' => MoveN X w w' e g tu T k :=
  (next_ci h).mono fun e w' ⟨A, n, c, A', n', c', he, hp⟩ => by
    have hd : ¬ ((0 : Int) ≤ (k : Int) ∧ (k : Int) < (T.list.length : Int)) := by omega
    have hp := hp.out
    rw [if_neg hd, if_neg hk] at hp
    exact ⟨A, n, c, A', n', c', by rw [he, decide_eq_false hd], hp⟩
theorem back_yes {X w : World} {g k : Nat} {tu : Option Addr} {T : PT} (h : CI X w g tu T k) (hk : 0 < k) : Calls Tryz.prog 73 #[.pointer (some ⟨g, 0, none⟩)] w fun e w' => MoveY X w w' e g tu T (k - 1) (T.list.getD (k - 1) ([], [])).1 (T.list.getD (k - 1) ([], [])).2 :=
  (back_ci h).mono fun e w' ⟨A, n, c, A', n', c', he, hp⟩ => by
    have hle := h.le
    have hd : (0 : Int) ≤ (k : Int) - 1 ∧ (k : Int) - 1 < (T.list.length : Int) := by omega
    have hp := hp.out
    rw [if_pos hd, show ((k : Int) - 1).toNat = k - 1 by omega] at hp
    exact ⟨A, n, c, A', n', c', by rw [he, decide_eq_true hd], hp⟩
theorem back_no {X w : World} {g k : Nat} {tu : Option Addr} {T : PT} (h : CI X w g tu T k) (hk : ¬ 0 < k) : Calls Tryz.prog 73 #[.pointer (some ⟨g, 0, none⟩)] w fun e w' => MoveN X w w' e g tu T k :=
  (back_ci h).mono fun e w' ⟨A, n, c, A', n', c', he, hp⟩ => by
    have hd : ¬ ((0 : Int) ≤ (k : Int) - 1 ∧ (k : Int) - 1 < (T.list.length : Int)) := by omega
    have hp := hp.out
    rw [if_neg hd] at hp
    rw [show k - 1 = k by omega] at hp
    exact ⟨A, n, c, A', n', c', by rw [he, decide_eq_false hd], hp⟩

/-- A pair in a box, whatever a cursor does since. -/
theorem boxed_pair {g n : Nat} {w : World} {A A' : Option Addr} {m c m' c' : Nat} {k x : Bytes} (hp : PIn (New n) w (.agg #[.slice A m c, .slice A' m' c']) k x) (hg : g < n) (hn : n ≤ w.heap.size) :
    ∀ W, Kept (some g) (w.alloc (.cells #[.slice A m c, .slice A' m' c'] 60)) W → Two W w.heap.size (.slice A m c) (.slice A' m' c') ∧ PIn (New n) W (.agg #[.slice A m c, .slice A' m' c']) k x := fun W hW => by
  have hb : Below w.heap.size w (w.alloc (.cells #[.slice A m c, .slice A' m' c'] 60)) := (Below.refl _ _).alloc (Nat.le_refl _) _
  have hnew : Two (w.alloc (.cells #[.slice A m c, .slice A' m' c'] 60)) w.heap.size (.slice A m c) (.slice A' m' c') := heap_new w _
  refine ⟨(hW.block w.heap.size (by simp) (by intro e; injection e with e; omega)).trans hnew, (PIn.below hp hb).kept hW fun b hb e => ?_⟩
  injection e with e; subst e
  exact absurd (show n ≤ g from hb) (by omega)

theorem at_cur {X W : World} {g : Nat} {u : Option Addr} {T : PT} (h : Cur W g (.pointer u) (0 : Nat)) (hX : Below X.heap.size X W) (hg : g = X.heap.size) (hT : TIn (fun _ => True) X (.pointer u) T) (hsz : T.size ≤ 100000) : CI W W g u T 0 :=
  ⟨(hT.imp (fun b hb _ => by rw [hg]; exact hb)).below hX, h, Kept.refl _ _, Nat.zero_le _, hsz⟩

end Go.Proofs.YtphjaebkcimklaaGreatDoor
