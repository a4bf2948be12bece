/- Walks of the laws WordParts, WordCuts and WordTurns: each returns true; no conditions but that the numbers are of their kinds. -/
import Derived.Test.YtfffacgihgkobaaAwake
set_option linter.unusedVariables false
set_option linter.unusedSimpArgs false
namespace Go.Proofs.Ytfffacgihgkobaa
open Go.RowKit
attribute [local go_sem] max2_num min2_num maxOf_two minOf_two

theorem c64_cast (n : Int) : (if 64 < (if n < 0 then 0 else n) then 64 else (if n < 0 then 0 else n)) = (c64 n : Int) := by
  unfold c64 cut3; (repeat' split) <;> omega
theorem c64_held (n : Int) : cut3 n 0 64 = (c64 n : Int) := by
  unfold c64 cut3; (repeat' split) <;> omega

/-- What is put together again. -/
theorem parts_eq (x : Int) (k : Nat) (hx : 0 ≤ x) (hx2 : x < 18446744073709551616) (hk : k ≤ 64) :
    bits .or .u64 (IntKind.u64.wrap (cutv x (k : Int) 64 * 2 ^ k)) (cutv x 0 (k : Int)) = x := by
  have ek : c64 (k : Int) = k := by unfold c64 cut3; (repeat' split) <;> omega
  have e64 : c64 64 = 64 := by decide
  have e0 : c64 0 = 0 := by decide
  unfold cutv
  rw [ek, e64, e0]
  obtain ⟨X, rfl⟩ := Int.eq_ofNat_of_zero_le hx
  have hX : X < 2 ^ 64 := by have : (2 : Nat) ^ 64 = 18446744073709551616 := by decide
                             omega
  have e1 : (X : Int) / 2 ^ k % 2 ^ 64 = ((X / 2 ^ k : Nat) : Int) := by
    have : X / 2 ^ k < 2 ^ 64 := Nat.lt_of_le_of_lt (Nat.div_le_self _ _) hX
    rw [show (X : Int) / 2 ^ k = ((X / 2 ^ k : Nat) : Int) by simp, Int.emod_eq_of_lt (Int.natCast_nonneg _) (by exact_mod_cast this)]
  have hle : X / 2 ^ k * 2 ^ k ≤ X := Nat.div_mul_le_self _ _
  have hq : X / 2 ^ k * 2 ^ k ||| X % 2 ^ k = X := by
    rw [Nat.mul_comm, ← Nat.two_pow_add_eq_or_of_lt (Nat.mod_lt _ (Nat.two_pow_pos _)), Nat.div_add_mod]
  have e2 : ((X / 2 ^ k : Nat) : Int) * 2 ^ k = ((X / 2 ^ k * 2 ^ k : Nat) : Int) := by simp
  have e3 : (X : Int) / 2 ^ 0 % 2 ^ k = ((X % 2 ^ k : Nat) : Int) := by simp
  rw [e1, e2, e3, u64_wrap]
  have h18 : (2 : Nat) ^ 64 = 18446744073709551616 := by decide
  have hm : X % 2 ^ k ≤ X := Nat.mod_le _ _
  have hnn : (0 : Int) ≤ ((X / 2 ^ k * 2 ^ k : Nat) : Int) := Int.natCast_nonneg _
  generalize X / 2 ^ k * 2 ^ k = q at hle hnn hq
  rw [Int.emod_eq_of_lt (by omega) (by omega), u64_or _ _ (by omega) (by omega) (by omega) (by omega), Int.toNat_natCast, Int.toNat_natCast, hq]

set_option maxHeartbeats 800000 in
theorem parts_any (x p : Int) (w : World) (hx : 0 ≤ x) (hx2 : x < 18446744073709551616) :
    Calls Try.prog 9 #[.int .u64 x, .int .i64 p] w fun e w' => e = .returned (.bool true) ∧ Below w.heap.size w w' := by
  have hk := c64_le p
  obtain ⟨p1, hp1⟩ : ∃ j : Int, (if p < 0 then 0 else p) = j := ⟨_, rfl⟩
  have hp2 := c64_cast p
  rw [hp1] at hp2
  have hfin := parts_eq x (c64 p) hx hx2 hk
  generalize c64 p = k at *
  obtain ⟨lo, hlo⟩ : ∃ j : Int, cutv x 0 (k : Int) = j := ⟨_, rfl⟩
  obtain ⟨hi, hhi⟩ : ∃ j : Int, cutv x (k : Int) 64 = j := ⟨_, rfl⟩
  rw [hlo, hhi] at hfin
  have HLO := Lib.hid hlo
  have HHI := Lib.hid hhi
  have HF := Lib.hid hfin
  clear hlo hhi hfin
  go_enter Try.func9, Try.ntmps9
  go_wp2_with fail
  refine (cutv_any _ _ _ _).mono ?_
  rintro e w1 ⟨rfl, rfl⟩
  rw [HLO.out]
  go_wp2_with fail
  refine (cutv_any _ _ _ _).mono ?_
  rintro e w1 ⟨rfl, rfl⟩
  rw [HHI.out]
  have hf := HF.out
  go_wp2_with fail
  refine (awake_any _).mono ?_
  rintro e w1 ⟨rfl, hb⟩
  have HB := Lib.hid hb
  clear hb
  go_wp2
  go_ret
  exact ⟨rfl, HB.out⟩

/-- A bit of what is cut out. -/
theorem cut_bit (x f n : Int) (i : Nat) (hx : 0 ≤ x) (hx2 : x < 18446744073709551616) (hi : i < 64) : bitv (cutv x f n) (i : Int) = if i < c64 n then bitv x ((c64 f : Int) + i) else 0 := by
  obtain ⟨X, rfl⟩ := Int.eq_ofNat_of_zero_le hx
  have hf := c64_le f
  unfold bitv cutv
  rw [if_neg (by omega), Int.toNat_natCast]
  generalize c64 f = F at *
  generalize c64 n = N at *
  have e : ∀ j, (X : Int) / 2 ^ F % 2 ^ N / 2 ^ j % 2 = (((X >>> F % 2 ^ N).testBit j).toNat : Int) := by
    intro j
    rw [Nat.toNat_testBit, Nat.shiftRight_eq_div_pow]; simp
  rw [e, Nat.testBit_mod_two_pow, Nat.testBit_shiftRight]
  by_cases h : i < N
  · rw [if_pos h]
    by_cases h2 : (F : Int) + i > 63
    · have hX : X < 2 ^ (F + i) := by
        have h1 : (2 : Nat) ^ 64 ≤ 2 ^ (F + i) := Nat.pow_le_pow_right (by omega) (by omega)
        have h3 : (2 : Nat) ^ 64 = 18446744073709551616 := by decide
        omega
      rw [Nat.testBit_lt_two_pow hX, if_pos h2]; simp
    · rw [if_neg h2, show ((F : Int) + (i : Int)).toNat = F + i by omega]
      simp only [h, decide_true, Bool.true_and]
      rw [Nat.toNat_testBit]; simp
  · rw [if_neg h]; simp [h]

set_option maxHeartbeats 1600000 in
theorem cuts_any (x f n : Int) (w : World) (hx : 0 ≤ x) (hx2 : x < 18446744073709551616) :
    Calls Try.prog 8 #[.int .u64 x, .int .i64 f, .int .i64 n] w fun e w' => e = .returned (.bool true) ∧ Below w.heap.size w w' := by
  have hf := c64_le f
  have hn := c64_le n
  have hy0 : 0 ≤ cutv x f n := by unfold cutv; exact Int.emod_nonneg _ (by have : (0 : Int) < 2 ^ c64 n := Int.pow_pos (by omega); omega)
  have hy1 : cutv x f n < 18446744073709551616 := by
    unfold cutv
    have h1 : (0 : Int) < 2 ^ c64 n := Int.pow_pos (by omega)
    have h2 := Int.emod_lt_of_pos (x / 2 ^ c64 f) h1
    have h3 : (2 : Int) ^ c64 n ≤ 2 ^ 64 := by exact_mod_cast Nat.pow_le_pow_right (by omega) hn
    have h4 : (2 : Int) ^ 64 = 18446744073709551616 := by decide
    omega
  have HC := Lib.hid (fun i hi => cut_bit x f n i hx hx2 hi)
  have HF := Lib.hid (c64_held f)
  have HN := Lib.hid (c64_held n)
  obtain ⟨y, hy⟩ : ∃ y, cutv x f n = y := ⟨_, rfl⟩
  rw [hy] at hy0 hy1 HC
  have HY := Lib.hid hy
  clear hy
  generalize c64 f = F at *
  generalize c64 n = N at *
  go_enter Try.func8, Try.ntmps8
  go_wp2_with fail
  refine (cutv_any _ _ _ _).mono ?_
  rintro e w1 ⟨rfl, rfl⟩
  rw [HY.out]
  go_wp2_with fail
  refine (held_any _ _ _ _).mono ?_
  rintro e w1 ⟨rfl, rfl⟩
  rw [HF.out]
  go_wp2_with fail
  refine (held_any _ _ _ _).mono ?_
  rintro e w1 ⟨rfl, rfl⟩
  rw [HN.out]
  go_wp2_with fail
  go_loop [20] (fun v => ∃ j : Nat, j ≤ 64 ∧ v = .int .i64 j) (fun v => (64 - intOf v).toNat)
  case atStart => exact ⟨0, by omega, rfl⟩
  case round =>
    obtain ⟨j, hj, rfl⟩ := hrel
    by_cases hlt : j < 64
    · have hb := HC.out j hlt
      by_cases hjn : j < N
      · rw [if_pos hjn] at hb
        obtain ⟨b, hbb⟩ : ∃ b, bitv x ((F : Int) + j) = b := ⟨_, rfl⟩
        rw [hbb] at hb
        have H1 := Lib.hid hb
        have H2 := Lib.hid hbb
        clear hb hbb
        go_wp2_with fail
        refine (bit_any _ _ _ hx hx2).mono ?_
        rintro e w1 ⟨rfl, rfl⟩
        rw [H2.out]
        go_wp2_with fail
        refine (bit_any _ _ _ hy0 hy1).mono ?_
        rintro e w1 ⟨rfl, rfl⟩
        rw [H1.out]
        go_wp2_with fail
        go_round
        case rel => exact ⟨j + 1, by omega, by go_num⟩
        case measure => simp [intOf]; omega
      · rw [if_neg hjn] at hb
        have H1 := Lib.hid hb
        clear hb
        go_wp2_with fail
        refine (bit_any _ _ _ hy0 hy1).mono ?_
        rintro e w1 ⟨rfl, rfl⟩
        rw [H1.out]
        go_wp2_with fail
        go_round
        case rel => exact ⟨j + 1, by omega, by go_num⟩
        case measure => simp [intOf]; omega
    · go_wp2_with fail
      refine (awake_any _).mono ?_
      rintro e w1 ⟨rfl, hb⟩
      have HB := Lib.hid hb
      clear hb
      go_wp2
      go_ret
      exact ⟨rfl, HB.out⟩

end Go.Proofs.Ytfffacgihgkobaa
