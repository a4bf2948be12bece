/- Contracts of the weights' functions, and the walk of the law WeighTurns: it returns true, for every four sizes. -/
import Derived.Test.YtfffacgihgkobaaRows
import Derived.WalkKit
import Derived.WalkSpells
import Derived.WalkLawsBesides
import Derived.IntWalk
import Derived.KernelRfl
import Derived.Lib.Hide
import Derived.Deep.QuietTactic
import Derived.BigQuiet
set_option linter.unusedVariables false
set_option linter.unusedSimpArgs false
namespace Go.Proofs.Ytfffacgihgkobaa.WT
open Go.RowKit

theorem max2_num (k k' : IntKind) (x y : Int) : Builtin.max2 (.int k x) (.int k' y) = pure (.int k (if x < y then y else x)) := by simp only [Builtin.max2, gt_iff_lt]
theorem min2_num (k k' : IntKind) (x y : Int) : Builtin.min2 (.int k x) (.int k' y) = pure (.int k (if y < x then y else x)) := by simp only [Builtin.min2]
theorem maxOf_two (ats : Array TypeId) (ty : TypeId) (a b : Value) : Builtin.max_ ats ty #[a, b] = (Builtin.max2 a b >>= fun s => pure s) := by simp only [Builtin.max_, List.foldlM_cons, List.foldlM_nil]
theorem minOf_two (ats : Array TypeId) (ty : TypeId) (a b : Value) : Builtin.min_ ats ty #[a, b] = (Builtin.min2 a b >>= fun s => pure s) := by simp only [Builtin.min_, List.foldlM_cons, List.foldlM_nil]
attribute [local go_sem] max2_num min2_num maxOf_two minOf_two

theorem size_any (n : Int) (w : World) (h0 : 0 ≤ n) (h1 : n ≤ 1048576) :
    Calls Try.prog 33 #[.int .i64 n] w fun e w' => e = .returned (.int .i64 n) ∧ w = w' := by
  have hn1 : (if n < 0 then 0 else n) = n := by rw [if_neg (by omega)]
  have hn2 : (if 1048576 < n then 1048576 else n) = n := by rw [if_neg (by omega)]
  go_enter Try.func33, Try.ntmps33
  go_wp2
  go_ret
  exact ⟨rfl, rfl⟩

/-- Are two sizes even? -/
def ev (a b : Int) : Bool := decide (a + 1 ≤ 3 * (b + 1)) && decide (b + 1 ≤ 3 * (a + 1))

theorem even_any (a b : Int) (w : World) (ha : 0 ≤ a) (ha1 : a ≤ 4194304) (hb : 0 ≤ b) (hb1 : b ≤ 4194304) :
    Calls Try.prog 34 #[.int .i64 a, .int .i64 b] w fun e w' => e = .returned (.bool (ev a b)) ∧ w = w' := by
  by_cases h1 : a + 1 ≤ 3 * (b + 1)
  · by_cases h2 : b + 1 ≤ 3 * (a + 1)
    · have e : ev a b = true := by unfold ev; simp [h1, h2]
      rw [e]
      clear e
      go_enter Try.func34, Try.ntmps34
      go_wp2
      go_ret
      exact ⟨rfl, rfl⟩
    · have e : ev a b = false := by unfold ev; simp [h1, h2]
      rw [e]
      clear e
      go_enter Try.func34, Try.ntmps34
      go_wp2
      go_ret
      exact ⟨rfl, rfl⟩
  · have e : ev a b = false := by unfold ev; simp [h1]
    rw [e]
    clear e
    go_enter Try.func34, Try.ntmps34
    go_wp2
    go_ret
    exact ⟨rfl, rfl⟩

theorem Even_any (a b : Int) (w : World) (ha : 0 ≤ a) (ha1 : a ≤ 1048576) (hb : 0 ≤ b) (hb1 : b ≤ 1048576) :
    Calls Try.prog 17 #[.int .i64 a, .int .i64 b] w fun e w' => e = .returned (.bool (ev a b)) ∧ w = w' := by
  go_enter Try.func17, Try.ntmps17
  go_wp2_with fail
  refine (size_any _ _ ha ha1).mono ?_
  rintro e w1 ⟨rfl, rfl⟩
  go_wp2_with fail
  refine (size_any _ _ hb hb1).mono ?_
  rintro e w1 ⟨rfl, rfl⟩
  go_wp2_with fail
  refine (even_any _ _ _ ha (by omega) hb (by omega)).mono ?_
  rintro e w1 ⟨rfl, rfl⟩
  go_wp2
  go_ret
  exact ⟨rfl, rfl⟩

theorem Single_any (a b c : Int) (w : World) (ha : 0 ≤ a) (ha1 : a ≤ 1048576) (hb : 0 ≤ b) (hb1 : b ≤ 1048576) (hc : 0 ≤ c) (hc1 : c ≤ 1048576) :
    Calls Try.prog 18 #[.int .i64 a, .int .i64 b, .int .i64 c] w fun e w' => e = .returned (.bool (ev a b && ev (a + b + 1) c)) ∧ w = w' := by
  cases h : ev a b
  · have H := Lib.hid h
    clear h
    go_enter Try.func18, Try.ntmps18
    go_wp2_with fail
    refine (size_any _ _ ha ha1).mono ?_
    rintro e w1 ⟨rfl, rfl⟩
    go_wp2_with fail
    refine (size_any _ _ hb hb1).mono ?_
    rintro e w1 ⟨rfl, rfl⟩
    go_wp2_with fail
    refine (size_any _ _ hc hc1).mono ?_
    rintro e w1 ⟨rfl, rfl⟩
    go_wp2_with fail
    refine (even_any _ _ _ ha (by omega) hb (by omega)).mono ?_
    rintro e w1 ⟨rfl, rfl⟩
    rw [H.out]
    go_wp2
    go_ret
    exact ⟨rfl, rfl⟩
  · have H := Lib.hid h
    clear h
    go_enter Try.func18, Try.ntmps18
    go_wp2_with fail
    refine (size_any _ _ ha ha1).mono ?_
    rintro e w1 ⟨rfl, rfl⟩
    go_wp2_with fail
    refine (size_any _ _ hb hb1).mono ?_
    rintro e w1 ⟨rfl, rfl⟩
    go_wp2_with fail
    refine (size_any _ _ hc hc1).mono ?_
    rintro e w1 ⟨rfl, rfl⟩
    go_wp2_with fail
    refine (even_any _ _ _ ha (by omega) hb (by omega)).mono ?_
    rintro e w1 ⟨rfl, rfl⟩
    rw [H.out]
    go_wp2_with fail
    refine (even_any _ _ _ (by omega) (by omega) hc (by omega)).mono ?_
    rintro e w1 ⟨rfl, rfl⟩
    go_wp2
    go_ret
    exact ⟨by simp, rfl⟩

theorem Beside_three (w : World) : Calls Try.prog 14 #[.int .i64 3] w fun e w' => e = .returned (.int .i64 1) ∧ w = w' := by
  go_enter Try.func14, Try.ntmps14
  go_wp2_with fail
  refine (size_any _ _ (by omega) (by omega)).mono ?_
  rintro e w1 ⟨rfl, rfl⟩
  go_wp2
  go_ret
  exact ⟨rfl, rfl⟩

theorem awake_any (w : World) : Calls Try.prog 16 #[] w fun e w' => e = .returned (.bool true) ∧ w = w' := by
  go_enter Try.func16, Try.ntmps16
  go_wp2_with fail
  refine (Even_any _ _ _ (by omega) (by omega) (by omega) (by omega)).mono ?_
  rintro e w1 ⟨rfl, rfl⟩
  rw [show ev 2 0 = true from by decide]
  go_wp2_with fail
  refine (Even_any _ _ _ (by omega) (by omega) (by omega) (by omega)).mono ?_
  rintro e w1 ⟨rfl, rfl⟩
  rw [show ev 3 0 = false from by decide]
  go_wp2_with fail
  refine (Beside_three _).mono ?_
  rintro e w1 ⟨rfl, rfl⟩
  go_wp2
  go_ret
  exact ⟨rfl, rfl⟩

theorem index_any (l a b c : Int) : (∀ w, (Instr.index 29 (.agg #[.int .i64 l, .int .i64 a, .int .i64 b, .int .i64 c]) (.int .i64 0)).run Try.prog w = .ok (.int .i64 l) w) ∧
    (∀ w, (Instr.index 29 (.agg #[.int .i64 l, .int .i64 a, .int .i64 b, .int .i64 c]) (.int .i64 1)).run Try.prog w = .ok (.int .i64 a) w) ∧
    (∀ w, (Instr.index 29 (.agg #[.int .i64 l, .int .i64 a, .int .i64 b, .int .i64 c]) (.int .i64 2)).run Try.prog w = .ok (.int .i64 b) w) ∧
    (∀ w, (Instr.index 29 (.agg #[.int .i64 l, .int .i64 a, .int .i64 b, .int .i64 c]) (.int .i64 3)).run Try.prog w = .ok (.int .i64 c) w) :=
  ⟨fun _ => by kernel_rfl, fun _ => by kernel_rfl, fun _ => by kernel_rfl, fun _ => by kernel_rfl⟩

/-- Where two sides are just too uneven, one turn, or two, make it even. -/
theorem uneven (l a b c : Int) (hl : 0 ≤ l) (ha : 0 ≤ a) (hb : 0 ≤ b) (hc : 0 ≤ c)
    (h1 : ev l (a + b + 1 + c + 1) = false) (h2 : ¬ a + b + 1 + c + 1 < l) (h3 : ev (a + b + 1) c = true) (h4 : ev a b = true)
    (h5 : ev (l + 1) (a + b + 1 + c + 1) = true ∨ ev l (a + b + 1 + c) = true) (h6 : (ev l (a + b + 1) && ev (l + (a + b + 1) + 1) c) = false) :
    ev l a = true ∧ ev b c = true ∧ ev (l + a + 1) (b + c + 1) = true := by
  simp only [ev, Bool.and_eq_true, Bool.and_eq_false_iff, decide_eq_true_eq, decide_eq_false_iff_not] at *
  omega

theorem below_drewN {B : Nat} {w W : World} (h : Below B w W) (n : Nat) : Below B w (W.drewN n) := ⟨h.os, h.tape, h.output, h.size, h.block⟩

set_option maxHeartbeats 4000000 in
theorem turns_any (l a b c : Int) (w : World) :
    Calls Try.prog 5 #[.agg #[.int .i64 l, .int .i64 a, .int .i64 b, .int .i64 c]] w fun e w' => e = .returned (.bool true) ∧ Below w.heap.size w w' := by
  obtain ⟨i0, i1, i2, i3⟩ := index_any l a b c
  have hu := Lib.hid (uneven l a b c)
  go_enter Try.func5, Try.ntmps5
  go_wp2_with fail
  go_quiet (fail)
  have hB : Below w.heap.size w ((w.alloc (.cells #[.int .i64 l, .int .i64 a, .int .i64 b, .int .i64 c] 28)).drewN nq) := below_drewN ((Below.refl _ _).alloc (Nat.le_refl _) _) nq
  have HB := Lib.hid hB
  clear hB
  generalize (w.alloc (.cells #[.int .i64 l, .int .i64 a, .int .i64 b, .int .i64 c] 28)).drewN nq = W at *
  go_wp2_with fail
  go_loop [24] (fun v => ∃ j : Nat, j ≤ 4 ∧ v = .int .i64 j ∧ (0 < j → 0 ≤ l ∧ l ≤ 262144) ∧ (1 < j → 0 ≤ a ∧ a ≤ 262144) ∧ (2 < j → 0 ≤ b ∧ b ≤ 262144) ∧ (3 < j → 0 ≤ c ∧ c ≤ 262144)) (fun v => (4 - intOf v).toNat)
  case atStart => exact ⟨0, by omega, rfl, by omega, by omega, by omega, by omega⟩
  case round =>
    obtain ⟨j, hj, rfl, q0, q1, q2, q3⟩ := hrel
    have Q := Lib.hid (And.intro q0 (And.intro q1 (And.intro q2 q3)))
    clear q0 q1 q2 q3
    have hcase : j = 0 ∨ j = 1 ∨ j = 2 ∨ j = 3 ∨ j = 4 := by omega
    rcases hcase with rfl | rfl | rfl | rfl | rfl
    · by_cases hlo : l < 0
      · go_wp2_with fail
        refine (awake_any _).mono ?_
        rintro e w1 ⟨rfl, rfl⟩
        go_wp2
        go_ret
        exact ⟨rfl, HB.out⟩
      · by_cases hhi : 262144 < l
        · go_wp2_with fail
          refine (awake_any _).mono ?_
          rintro e w1 ⟨rfl, rfl⟩
          go_wp2
          go_ret
          exact ⟨rfl, HB.out⟩
        · go_wp2_with fail
          go_round
          case rel => obtain ⟨q0, q1, q2, q3⟩ := Q.out; exact ⟨1, by omega, by go_num, by omega, by omega, by omega, by omega⟩
          case measure => simp [intOf]
    · by_cases hlo : a < 0
      · go_wp2_with fail
        refine (awake_any _).mono ?_
        rintro e w1 ⟨rfl, rfl⟩
        go_wp2
        go_ret
        exact ⟨rfl, HB.out⟩
      · by_cases hhi : 262144 < a
        · go_wp2_with fail
          refine (awake_any _).mono ?_
          rintro e w1 ⟨rfl, rfl⟩
          go_wp2
          go_ret
          exact ⟨rfl, HB.out⟩
        · go_wp2_with fail
          go_round
          case rel => obtain ⟨q0, q1, q2, q3⟩ := Q.out; exact ⟨2, by omega, by go_num, by omega, by omega, by omega, by omega⟩
          case measure => simp [intOf]
    · by_cases hlo : b < 0
      · go_wp2_with fail
        refine (awake_any _).mono ?_
        rintro e w1 ⟨rfl, rfl⟩
        go_wp2
        go_ret
        exact ⟨rfl, HB.out⟩
      · by_cases hhi : 262144 < b
        · go_wp2_with fail
          refine (awake_any _).mono ?_
          rintro e w1 ⟨rfl, rfl⟩
          go_wp2
          go_ret
          exact ⟨rfl, HB.out⟩
        · go_wp2_with fail
          go_round
          case rel => obtain ⟨q0, q1, q2, q3⟩ := Q.out; exact ⟨3, by omega, by go_num, by omega, by omega, by omega, by omega⟩
          case measure => simp [intOf]
    · by_cases hlo : c < 0
      · go_wp2_with fail
        refine (awake_any _).mono ?_
        rintro e w1 ⟨rfl, rfl⟩
        go_wp2
        go_ret
        exact ⟨rfl, HB.out⟩
      · by_cases hhi : 262144 < c
        · go_wp2_with fail
          refine (awake_any _).mono ?_
          rintro e w1 ⟨rfl, rfl⟩
          go_wp2
          go_ret
          exact ⟨rfl, HB.out⟩
        · go_wp2_with fail
          go_round
          case rel => obtain ⟨q0, q1, q2, q3⟩ := Q.out; exact ⟨4, by omega, by go_num, by omega, by omega, by omega, by omega⟩
          case measure => simp [intOf]
    · obtain ⟨q0, q1, q2, q3⟩ := Q.out
      have r0 := q0 (by omega)
      have r1 := q1 (by omega)
      have r2 := q2 (by omega)
      have r3 := q3 (by omega)
      obtain ⟨l0, l1⟩ := r0
      obtain ⟨a0, a1⟩ := r1
      obtain ⟨b0, b1⟩ := r2
      obtain ⟨c0, c1⟩ := r3
      clear Q q0 q1 q2 q3 hj
      rcases Bool.eq_false_or_eq_true (ev l (a + b + 1 + c + 1)) with h1 | h1
      · have H1 := Lib.hid h1
        clear h1
        go_wp2_with fail
        refine (Even_any _ _ _ (by omega) (by omega) (by omega) (by omega)).mono ?_
        rintro e w1 ⟨rfl, rfl⟩
        rw [H1.out]
        go_wp2_with fail
        refine (awake_any _).mono ?_
        rintro e w1 ⟨rfl, rfl⟩
        go_wp2
        go_ret
        exact ⟨rfl, HB.out⟩
      · have H1 := Lib.hid h1
        clear h1
        by_cases h2 : a + b + 1 + c + 1 < l
        · have _ := h2
          go_wp2_with fail
          refine (Even_any _ _ _ (by omega) (by omega) (by omega) (by omega)).mono ?_
          rintro e w1 ⟨rfl, rfl⟩
          rw [H1.out]
          go_wp2_with fail
          refine (awake_any _).mono ?_
          rintro e w1 ⟨rfl, rfl⟩
          go_wp2
          go_ret
          exact ⟨rfl, HB.out⟩
        · rcases Bool.eq_false_or_eq_true (ev (a + b + 1) c) with h3 | h3
          · have H3 := Lib.hid h3
            clear h3
            rcases Bool.eq_false_or_eq_true (ev a b) with h4 | h4
            · have H4 := Lib.hid h4
              clear h4
              have hz : ((a + b + 1 + c + 1) == 0) = false := by rw [beq_eq_false_iff_ne]; omega
              rcases Bool.eq_false_or_eq_true (ev (l + 1) (a + b + 1 + c + 1)) with h5 | h5
              · have HX := Lib.hid (Or.inl h5 : ev (l + 1) (a + b + 1 + c + 1) = true ∨ ev l (a + b + 1 + c) = true)
                have H5 := Lib.hid h5
                clear h5
                rcases Bool.eq_false_or_eq_true (ev l (a + b + 1) && ev (l + (a + b + 1) + 1) c) with hs | hs
                · have HS := Lib.hid hs
                  clear hs
                  go_wp2_with fail
                  refine (Even_any _ _ _ (by omega) (by omega) (by omega) (by omega)).mono ?_
                  rintro e w1 ⟨rfl, rfl⟩
                  rw [H1.out]
                  go_wp2_with fail
                  refine (Even_any _ _ _ (by omega) (by omega) (by omega) (by omega)).mono ?_
                  rintro e w1 ⟨rfl, rfl⟩
                  rw [H3.out]
                  go_wp2_with fail
                  refine (Even_any _ _ _ (by omega) (by omega) (by omega) (by omega)).mono ?_
                  rintro e w1 ⟨rfl, rfl⟩
                  rw [H4.out]
                  go_wp2_with fail
                  refine (Even_any _ _ _ (by omega) (by omega) (by omega) (by omega)).mono ?_
                  rintro e w1 ⟨rfl, rfl⟩
                  rw [H5.out]
                  go_wp2_with fail
                  refine (Single_any _ _ _ _ (by omega) (by omega) (by omega) (by omega) (by omega) (by omega)).mono ?_
                  rintro e w1 ⟨rfl, rfl⟩
                  rw [HS.out]
                  go_wp2_with fail
                  refine (awake_any _).mono ?_
                  rintro e w1 ⟨rfl, rfl⟩
                  go_wp2
                  go_ret
                  exact ⟨rfl, HB.out⟩
                · obtain ⟨e7, e8, e9⟩ := hu.out l0 a0 b0 c0 H1.out (by omega) H3.out H4.out HX.out hs
                  have HS := Lib.hid hs
                  have H7 := Lib.hid e7
                  have H8 := Lib.hid e8
                  have H9 := Lib.hid e9
                  clear hs e7 e8 e9
                  go_wp2_with fail
                  refine (Even_any _ _ _ (by omega) (by omega) (by omega) (by omega)).mono ?_
                  rintro e w1 ⟨rfl, rfl⟩
                  rw [H1.out]
                  go_wp2_with fail
                  refine (Even_any _ _ _ (by omega) (by omega) (by omega) (by omega)).mono ?_
                  rintro e w1 ⟨rfl, rfl⟩
                  rw [H3.out]
                  go_wp2_with fail
                  refine (Even_any _ _ _ (by omega) (by omega) (by omega) (by omega)).mono ?_
                  rintro e w1 ⟨rfl, rfl⟩
                  rw [H4.out]
                  go_wp2_with fail
                  refine (Even_any _ _ _ (by omega) (by omega) (by omega) (by omega)).mono ?_
                  rintro e w1 ⟨rfl, rfl⟩
                  rw [H5.out]
                  go_wp2_with fail
                  refine (Single_any _ _ _ _ (by omega) (by omega) (by omega) (by omega) (by omega) (by omega)).mono ?_
                  rintro e w1 ⟨rfl, rfl⟩
                  rw [HS.out]
                  go_wp2_with fail
                  refine (Even_any _ _ _ (by omega) (by omega) (by omega) (by omega)).mono ?_
                  rintro e w1 ⟨rfl, rfl⟩
                  rw [H7.out]
                  go_wp2_with fail
                  refine (Even_any _ _ _ (by omega) (by omega) (by omega) (by omega)).mono ?_
                  rintro e w1 ⟨rfl, rfl⟩
                  rw [H8.out]
                  go_wp2_with fail
                  refine (Even_any _ _ _ (by omega) (by omega) (by omega) (by omega)).mono ?_
                  rintro e w1 ⟨rfl, rfl⟩
                  rw [H9.out]
                  go_wp2_with fail
                  refine (awake_any _).mono ?_
                  rintro e w1 ⟨rfl, rfl⟩
                  go_wp2
                  go_ret
                  exact ⟨rfl, HB.out⟩
              · have H5 := Lib.hid h5
                clear h5
                rcases Bool.eq_false_or_eq_true (ev l (a + b + 1 + c)) with h6 | h6
                · have HX := Lib.hid (Or.inr h6 : ev (l + 1) (a + b + 1 + c + 1) = true ∨ ev l (a + b + 1 + c) = true)
                  have H6 := Lib.hid h6
                  clear h6
                  rcases Bool.eq_false_or_eq_true (ev l (a + b + 1) && ev (l + (a + b + 1) + 1) c) with hs | hs
                  · have HS := Lib.hid hs
                    clear hs
                    go_wp2_with fail
                    refine (Even_any _ _ _ (by omega) (by omega) (by omega) (by omega)).mono ?_
                    rintro e w1 ⟨rfl, rfl⟩
                    rw [H1.out]
                    go_wp2_with fail
                    refine (Even_any _ _ _ (by omega) (by omega) (by omega) (by omega)).mono ?_
                    rintro e w1 ⟨rfl, rfl⟩
                    rw [H3.out]
                    go_wp2_with fail
                    refine (Even_any _ _ _ (by omega) (by omega) (by omega) (by omega)).mono ?_
                    rintro e w1 ⟨rfl, rfl⟩
                    rw [H4.out]
                    go_wp2_with fail
                    refine (Even_any _ _ _ (by omega) (by omega) (by omega) (by omega)).mono ?_
                    rintro e w1 ⟨rfl, rfl⟩
                    rw [H5.out]
                    go_wp2_with fail
                    refine (Even_any _ _ _ (by omega) (by omega) (by omega) (by omega)).mono ?_
                    rintro e w1 ⟨rfl, rfl⟩
                    rw [H6.out]
                    go_wp2_with fail
                    refine (Single_any _ _ _ _ (by omega) (by omega) (by omega) (by omega) (by omega) (by omega)).mono ?_
                    rintro e w1 ⟨rfl, rfl⟩
                    rw [HS.out]
                    go_wp2_with fail
                    refine (awake_any _).mono ?_
                    rintro e w1 ⟨rfl, rfl⟩
                    go_wp2
                    go_ret
                    exact ⟨rfl, HB.out⟩
                  · obtain ⟨e7, e8, e9⟩ := hu.out l0 a0 b0 c0 H1.out (by omega) H3.out H4.out HX.out hs
                    have HS := Lib.hid hs
                    have H7 := Lib.hid e7
                    have H8 := Lib.hid e8
                    have H9 := Lib.hid e9
                    clear hs e7 e8 e9
                    go_wp2_with fail
                    refine (Even_any _ _ _ (by omega) (by omega) (by omega) (by omega)).mono ?_
                    rintro e w1 ⟨rfl, rfl⟩
                    rw [H1.out]
                    go_wp2_with fail
                    refine (Even_any _ _ _ (by omega) (by omega) (by omega) (by omega)).mono ?_
                    rintro e w1 ⟨rfl, rfl⟩
                    rw [H3.out]
                    go_wp2_with fail
                    refine (Even_any _ _ _ (by omega) (by omega) (by omega) (by omega)).mono ?_
                    rintro e w1 ⟨rfl, rfl⟩
                    rw [H4.out]
                    go_wp2_with fail
                    refine (Even_any _ _ _ (by omega) (by omega) (by omega) (by omega)).mono ?_
                    rintro e w1 ⟨rfl, rfl⟩
                    rw [H5.out]
                    go_wp2_with fail
                    refine (Even_any _ _ _ (by omega) (by omega) (by omega) (by omega)).mono ?_
                    rintro e w1 ⟨rfl, rfl⟩
                    rw [H6.out]
                    go_wp2_with fail
                    refine (Single_any _ _ _ _ (by omega) (by omega) (by omega) (by omega) (by omega) (by omega)).mono ?_
                    rintro e w1 ⟨rfl, rfl⟩
                    rw [HS.out]
                    go_wp2_with fail
                    refine (Even_any _ _ _ (by omega) (by omega) (by omega) (by omega)).mono ?_
                    rintro e w1 ⟨rfl, rfl⟩
                    rw [H7.out]
                    go_wp2_with fail
                    refine (Even_any _ _ _ (by omega) (by omega) (by omega) (by omega)).mono ?_
                    rintro e w1 ⟨rfl, rfl⟩
                    rw [H8.out]
                    go_wp2_with fail
                    refine (Even_any _ _ _ (by omega) (by omega) (by omega) (by omega)).mono ?_
                    rintro e w1 ⟨rfl, rfl⟩
                    rw [H9.out]
                    go_wp2_with fail
                    refine (awake_any _).mono ?_
                    rintro e w1 ⟨rfl, rfl⟩
                    go_wp2
                    go_ret
                    exact ⟨rfl, HB.out⟩
                · have H6 := Lib.hid h6
                  clear h6
                  go_wp2_with fail
                  refine (Even_any _ _ _ (by omega) (by omega) (by omega) (by omega)).mono ?_
                  rintro e w1 ⟨rfl, rfl⟩
                  rw [H1.out]
                  go_wp2_with fail
                  refine (Even_any _ _ _ (by omega) (by omega) (by omega) (by omega)).mono ?_
                  rintro e w1 ⟨rfl, rfl⟩
                  rw [H3.out]
                  go_wp2_with fail
                  refine (Even_any _ _ _ (by omega) (by omega) (by omega) (by omega)).mono ?_
                  rintro e w1 ⟨rfl, rfl⟩
                  rw [H4.out]
                  go_wp2_with fail
                  refine (Even_any _ _ _ (by omega) (by omega) (by omega) (by omega)).mono ?_
                  rintro e w1 ⟨rfl, rfl⟩
                  rw [H5.out]
                  go_wp2_with fail
                  refine (Even_any _ _ _ (by omega) (by omega) (by omega) (by omega)).mono ?_
                  rintro e w1 ⟨rfl, rfl⟩
                  rw [H6.out]
                  go_wp2_with fail
                  refine (awake_any _).mono ?_
                  rintro e w1 ⟨rfl, rfl⟩
                  go_wp2
                  go_ret
                  exact ⟨rfl, HB.out⟩
            · have H4 := Lib.hid h4
              clear h4
              go_wp2_with fail
              refine (Even_any _ _ _ (by omega) (by omega) (by omega) (by omega)).mono ?_
              rintro e w1 ⟨rfl, rfl⟩
              rw [H1.out]
              go_wp2_with fail
              refine (Even_any _ _ _ (by omega) (by omega) (by omega) (by omega)).mono ?_
              rintro e w1 ⟨rfl, rfl⟩
              rw [H3.out]
              go_wp2_with fail
              refine (Even_any _ _ _ (by omega) (by omega) (by omega) (by omega)).mono ?_
              rintro e w1 ⟨rfl, rfl⟩
              rw [H4.out]
              go_wp2_with fail
              refine (awake_any _).mono ?_
              rintro e w1 ⟨rfl, rfl⟩
              go_wp2
              go_ret
              exact ⟨rfl, HB.out⟩
          · have H3 := Lib.hid h3
            clear h3
            go_wp2_with fail
            refine (Even_any _ _ _ (by omega) (by omega) (by omega) (by omega)).mono ?_
            rintro e w1 ⟨rfl, rfl⟩
            rw [H1.out]
            go_wp2_with fail
            refine (Even_any _ _ _ (by omega) (by omega) (by omega) (by omega)).mono ?_
            rintro e w1 ⟨rfl, rfl⟩
            rw [H3.out]
            go_wp2_with fail
            refine (awake_any _).mono ?_
            rintro e w1 ⟨rfl, rfl⟩
            go_wp2
            go_ret
            exact ⟨rfl, HB.out⟩

end Go.Proofs.Ytfffacgihgkobaa.WT
