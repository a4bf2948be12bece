/- The set's iterator (All): its contract: all its numbers come, rising, as long as a round goes on. -/
import Derived.Test.YtbmiaagkognlpaaDoorBLaws
import Derived.Lib.TrailingZeros
import Derived.RangeFuncNested
import Derived.RangeFuncBound
import Derived.RangeFuncCalls
import Derived.RangeFuncLeaves
import Derived.Shelf.Abstract
import Derived.Shelf.RegionOpen
import Derived.WalkKit
import Derived.OwnWalkIn
import Derived.TacticsInMore
import Derived.LoopNIn
import Derived.LoopIn
set_option linter.unusedVariables false
set_option linter.unusedSimpArgs false
namespace Go.Proofs.YtbmiaagkognlpaaDoor
open Go.RowKit Go.Shelf

/-- The library's table lies where the program holds it. -/
def TabOK (w : World) : Prop := 1 < w.heap.size ∧ ∀ i, i < 32 → w.cell? ⟨1, i, none⟩ = some (.int .u8 (Lib.deBruijn32tab.getD i 0 : Nat))
theorem TabOK.below {w w1 : World} {n : Nat} (h : TabOK w) (hn : 1 < n) (hs : n ≤ w.heap.size) (hb : Below n w w1) : TabOK w1 :=
  ⟨Nat.lt_of_lt_of_le h.1 hb.size, fun i hi => (hb.cell (p := ⟨1, i, none⟩) hn).trans (h.2 i hi)⟩

theorem u32_wrap (x : Int) : IntKind.u32.wrap x = x % 4294967296 := rfl

theorem tz_key (x a : Nat) (hx : x < 4294967296) (hx0 : x ≠ 0) (hlow : x &&& (4294967296 - x) = a) :
    bits BinOp.and IntKind.u32 (x : Int) (-(x : Int) % 4294967296) * 125613361 % 4294967296 / 134217728 = ((a * 125613361 % 4294967296 / 134217728 : Nat) : Int) := by
  have e1 : -(x : Int) % 4294967296 = ((4294967296 - x : Nat) : Int) := by omega
  rw [e1, u32_and_nat x _ hx (by omega), hlow]
  omega

theorem tz_core (x k idx : Nat) (w : World) (hx0 : ((x : Int) == 0) = false)
    (key : bits BinOp.and IntKind.u32 (x : Int) (-(x : Int) % 4294967296) * 125613361 % 4294967296 / 134217728 = (idx : Int))
    (hi : idx < 32) (hk : k < 32) (hcell : w.cell? ⟨1, idx, none⟩ = some (.int .u8 k)) :
    Calls Tryd.prog 24 #[.int .u32 x] w fun e w' => e = .returned (.int .i64 k) ∧ w = w' := by
  go_enter Tryd.func24, Tryd.ntmps24
  go_wp2_with (simp only [key])
  go_ret
  exact ⟨rfl, rfl⟩

theorem tz_any (x : Nat) (hx : x < 4294967296) (hx0 : x ≠ 0) (w : World) (hT : TabOK w) :
    Calls Tryd.prog 24 #[.int .u32 (x : Int)] w fun e w' => e = .returned (.int .i64 (Lib.ctz 32 x : Nat)) ∧ w = w' := by
  obtain ⟨hlow, hk⟩ := Lib.lowest_bit 32 x hx0 hx
  obtain ⟨hi, htab⟩ := Lib.deBruijn32_at _ hk
  have hcell := hT.2 _ hi
  rw [htab] at hcell
  exact tz_core x _ _ w (by simp; omega) (tz_key x _ hx hx0 hlow) hi hk hcell

/-! ### What is left of a set when its lowest number is taken -/
theorem left_next (y : Nat) (h0 : y ≠ 0) (h : y < 4294967296) :
    (∀ k, (y &&& (y - 1)).testBit k = (y.testBit k && decide (k ≠ Lib.ctz 32 y))) ∧ y.testBit (Lib.ctz 32 y) = true ∧ (∀ k, k < Lib.ctz 32 y → y.testBit k = false) ∧ Lib.ctz 32 y < 32 ∧ (y &&& (y - 1)) < y := by
  have hk := (Lib.lowest_bit 32 y h0 h).2
  obtain ⟨m, hm, _⟩ := Lib.ctzFrom_spec 32 y (by omega) h
  have e : Lib.ctz 32 y = Lib.ctzFrom 32 y := by unfold Lib.ctz; rw [if_neg h0]
  rw [e] at hk ⊢
  generalize Lib.ctzFrom 32 y = t at *
  have hp : 0 < 2 ^ t := Nat.pow_pos (by omega)
  have e1 : y = 2 ^ (t + 1) * m + 2 ^ t := by rw [hm, Nat.pow_succ, Nat.mul_add, Nat.mul_one, ← Nat.mul_assoc]
  have e2 : y - 1 = 2 ^ (t + 1) * m + (2 ^ t - 1) := by omega
  have hl1 : 2 ^ t < 2 ^ (t + 1) := by rw [Nat.pow_succ]; omega
  have hl2 : 2 ^ t - 1 < 2 ^ (t + 1) := by omega
  have ht : ∀ k, y.testBit k = if k < t + 1 then decide (k = t) else m.testBit (k - (t + 1)) := by
    intro k
    rw [e1, Nat.testBit_two_pow_mul_add _ hl1, Nat.testBit_two_pow]
    simp only [eq_comm]
  have ht1 : ∀ k, (y - 1).testBit k = if k < t + 1 then decide (k < t) else m.testBit (k - (t + 1)) := by
    intro k
    rw [e2, Nat.testBit_two_pow_mul_add _ hl2, Nat.testBit_two_pow_sub_one]
  refine ⟨fun k => ?_, ?_, fun k hk2 => ?_, hk, ?_⟩
  · rw [Nat.testBit_and, ht, ht1]
    by_cases h1 : k < t + 1
    · simp only [h1, if_true]
      by_cases h2 : k = t
      · subst h2; simp
      · simp [h2]
    · simp only [h1, if_false]
      have : k ≠ t := by omega
      simp [this]
  · rw [ht]; simp
  · rw [ht, if_pos (by omega)]; simp; omega
  · have h2 : y &&& (y - 1) ≤ y - 1 := Nat.and_le_right
    omega

theorem listN_next (y : Nat) (h0 : y ≠ 0) (h : y < 4294967296) : listN y 32 = (Lib.ctz 32 y : Int) :: listN (y &&& (y - 1)) 32 := by
  obtain ⟨h1, h2, h3, h4, _⟩ := left_next y h0 h
  generalize Lib.ctz 32 y = t at *
  generalize (y &&& (y - 1)) = z at *
  have key : ∀ j, (j ≤ t → listN y j = []) ∧ (j ≤ t + 1 → listN z j = []) ∧ (t < j → listN y j = (t : Int) :: listN z j) := by
    intro j
    induction j with
    | zero => exact ⟨fun _ => rfl, fun _ => rfl, fun h => by omega⟩
    | succ j ih =>
      obtain ⟨i1, i2, i3⟩ := ih
      refine ⟨fun hj => ?_, fun hj => ?_, fun hj => ?_⟩
      · rw [listN_succ, h3 j (by omega), i1 (by omega)]; rfl
      · rw [listN_succ, h1 j, i2 (by omega)]
        by_cases e : j = t
        · simp [e]
        · rw [h3 j (by omega)]; rfl
      · rw [listN_succ, listN_succ, h1 j]
        by_cases e : j = t
        · subst e
          rw [h2, i1 (Nat.le_refl _), i2 (by omega)]; simp
        · rw [i3 (by omega)]
          simp only [e, ne_eq, not_false_eq_true, decide_true, Bool.and_true]
          split <;> rfl
  exact (key 32).2.2 h4

theorem listN_zero (j : Nat) : listN 0 j = [] := by
  induction j with
  | zero => rfl
  | succ j ih => rw [listN_succ, ih]; simp

/-! ### The iterator -/
attribute [local go_sem] Oper.semAt_some
/-- The temporary's number. -/
def u32Of (v : Value) : Nat := (intOf v).toNat

set_option maxRecDepth 100000 in
set_option maxHeartbeats 3200000 in
theorem all1_in (l Bn n₀ m : Nat) (hm : m < 4294967296) (hn₀ : 1 < n₀) (J Jx : List Int → World → Prop)
    (hY : ∀ pre x W, J pre W → pre.length < 32 → YieldAt Fence.wide 4 Tryd.prog l #[.int .i64 x] W fun e W' =>
      (e = .returned (.bool true) ∧ J (pre ++ [x]) W' ∧ Below n₀ W W') ∨ (e = .returned (.bool false) ∧ Jx (pre ++ [x]) W'))
    (W : World) (hBn : W.cell? ⟨Bn, 0, none⟩ = some (.int .u32 (m : Int))) (hs : n₀ ≤ W.heap.size) (hT : TabOK W) (h0 : J [] W) :
    CallsIn Fence.wide 5 Tryd.prog 23 #[.func (.yield l) #[] #[], .pointer (some ⟨Bn, 0, none⟩)] W fun e W' => (∃ v, e = .returned v) ∧
      ((∃ ys, ys = listN m 32 ∧ J ys W') ∨ (∃ pre, (pre <+: listN m 32) ∧ Jx pre W')) := by
  have h1 : 1 ≤ 5 := by omega
  refine callsIn_of_wp Tryd.func23 rfl trivial ?_ rfl
  simp only [Tryd.ntmps23, List.size_toArray, List.length_cons, List.length_nil, Nat.reduceAdd, Nat.reduceSub, Array.replicate_succ, Array.replicate_zero, List.push_toArray, List.append_toArray, List.nil_append, List.cons_append]
  gi_wp2
  gi_loopw [3] (fun p wr => ∃ (pre : List Int) (y : Nat), p = .int .u32 (y : Int) ∧ y < 4294967296 ∧ listN m 32 = pre ++ listN y 32 ∧ n₀ ≤ wr.heap.size ∧ TabOK wr ∧ J pre wr)
    (fun p wr => u32Of p)
  case atStart => exact ⟨[], m, rfl, hm, rfl, hs, hT, h0⟩
  case round =>
    obtain ⟨pre, y, rfl, hy, hx, hsz, hTr, hJs⟩ := hrel
    by_cases hy0 : y = 0
    · subst hy0
      gi_wp2
      go_end0
      exact ⟨⟨_, rfl⟩, .inl ⟨pre, by rw [hx, listN_zero, List.append_nil], hJs⟩⟩
    · have hne : ((y : Int) != 0) = true := by rw [bne_iff_ne]; omega
      have hnx := listN_next y hy0 hy
      obtain ⟨_, _, _, ht32, hlt⟩ := left_next y hy0 hy
      have hlen : pre.length < 32 := by
        have := congrArg List.length hx
        rw [hnx, listN_len, List.length_append, List.length_cons] at this
        have := cnt_le m.testBit 32
        omega
      have hand : bits .and .u32 (y : Int) ((y : Int) - 1) = ((y &&& (y - 1) : Nat) : Int) := by
        rw [show ((y : Int) - 1) = ((y - 1 : Nat) : Int) by omega]
        exact u32_and_nat y (y - 1) hy (by omega)
      have htz := callsIn_wide (n := 4).2 (tz_any y hy hy0 wr hTr)
      have HX := Lib.hid hx
      have HNX := Lib.hid hnx
      have HTR := Lib.hid hTr
      obtain ⟨fn, tmps, assign, body, hyy, hR⟩ := hY pre (Lib.ctz 32 y : Int) wr hJs hlen
      generalize Lib.ctz 32 y = t at *
      clear hx hnx
      have HL := Lib.hid (hlt : (y &&& (y - 1)) < y)
      generalize (y &&& (y - 1)) = z at *
      gi_wp2_with (refine ⟨trivial, ?_⟩; gi_at_call 24; refine htz.mono ?_; rintro e w' ⟨rfl, rfl⟩)
      refine hR.mono ?_
      rintro e W3 (⟨rfl, hJ3, hk3⟩ | ⟨rfl, hJx3⟩)
      · have HT3 := Lib.hid (HTR.out.below hn₀ hsz hk3)
        have hs3 : n₀ ≤ W3.heap.size := Nat.le_trans hsz hk3.size
        gi_wp2
        go_roundw
        case rel => exact ⟨pre ++ [(t : Int)], z, by first | rfl | (rw [hand]), by have := HL.out; omega, by rw [HX.out, HNX.out]; simp, hs3, HT3.out, hJ3⟩
        case measure => have := HL.out; simp [u32Of, intOf, hand]; try omega
      · gi_wp2
        refine bodyPost_ret (results_none rfl _ _ _) rfl ?_
        exact ⟨⟨_, rfl⟩, .inr ⟨pre ++ [(t : Int)], ⟨listN z 32, by rw [HX.out, HNX.out]; simp⟩, hJx3⟩⟩

/-- The iterator's contract: all the numbers come, rising; it stops where a round says so. -/
theorem all_stops (Bn n₀ m : Nat) (hm : m < 4294967296) (hn₀ : 1 < n₀) (w : World) (hB : n₀ ≤ Bn) (hBl : Bn < w.heap.size) (hBn : w.cell? ⟨Bn, 0, none⟩ = some (.int .u32 (m : Int))) (hT : TabOK w) :
    SeqStopsK Fence.wide 5 Tryd.prog 23 #[.pointer (some ⟨Bn, 0, none⟩)] (fun x : Int => #[.int .i64 x]) (Below n₀) (fun xs => xs = listN m 32) (fun pre => pre <+: listN m 32) 32 w := fun l J Jx W hW hJ hJx hY h0 =>
  all1_in l Bn n₀ m hm hn₀ J Jx hY W ((hW.cell (p := ⟨Bn, 0, none⟩) hBl).trans hBn) (by have := hW.size; omega) (hT.below (by omega) (Nat.le_refl _) hW) h0

theorem allf_any (m : Nat) (w : World) :
    Calls Tryd.prog 17 #[.int .u32 (m : Int)] w fun e w' => e = .returned (.func (.func 23) #[] #[.pointer (some ⟨w.heap.size, 0, none⟩)]) ∧ w' = w.alloc (.cells #[.int .u32 (m : Int)] 39) := by
  go_enter Tryd.func17, Tryd.ntmps17
  go_wp2
  go_ret
  exact ⟨rfl, rfl⟩

end Go.Proofs.YtbmiaagkognlpaaDoor
