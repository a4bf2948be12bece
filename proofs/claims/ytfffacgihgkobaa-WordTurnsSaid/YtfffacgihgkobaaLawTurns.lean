/- Walk of the law WordTurns: it returns true; no conditions but that the numbers are of their kinds. -/
import Derived.Test.YtfffacgihgkobaaAwake
set_option linter.unusedVariables false
set_option linter.unusedSimpArgs false
namespace Go.Proofs.Ytfffacgihgkobaa
open Go.RowKit

/-- A turned number's bit is the number's. -/
theorem rot_bit (x : Int) (k : Int) (i : Nat) (hx : 0 ≤ x) (hx2 : x < 18446744073709551616) (hi : i < 64) :
    bitv (rotv x k) (((i : Int) + (k % 64)) % 64) = bitv x (i : Int) := by
  obtain ⟨X, rfl⟩ := Int.eq_ofNat_of_zero_le hx
  have hX : X < 2 ^ 64 := by have : (2 : Nat) ^ 64 = 18446744073709551616 := by decide
                             omega
  obtain ⟨s, hs⟩ : ∃ s : Nat, k % 64 = (s : Int) := ⟨(k % 64).toNat, by omega⟩
  have hs64 : s < 64 := by omega
  unfold rotv bitv
  rw [hs, if_neg (by omega), if_neg (by omega), Int.toNat_natCast, Int.toNat_natCast]
  have e1 : ((X : Int) * 2 ^ s % 18446744073709551616).toNat = X <<< s % 2 ^ 64 := by
    have h : (X : Int) * 2 ^ s % 18446744073709551616 = ((X * 2 ^ s % 18446744073709551616 : Nat) : Int) := by simp
    rw [h, Int.toNat_natCast, Nat.shiftLeft_eq]
  have e2 : ((X : Int) / 2 ^ (64 - s)).toNat = X >>> (64 - s) := by
    have h : (X : Int) / 2 ^ (64 - s) = ((X / 2 ^ (64 - s) : Nat) : Int) := by simp
    rw [h, Int.toNat_natCast, Nat.shiftRight_eq_div_pow]
  obtain ⟨t, ht⟩ : ∃ t : Nat, (((i : Int) + (s : Int)) % 64) = (t : Int) := ⟨(((i : Int) + (s : Int)) % 64).toNat, by omega⟩
  rw [ht, Int.toNat_natCast, e1, e2]
  have f : ∀ (Y j : Nat), ((Y : Nat) : Int) / 2 ^ j % 2 = ((Y.testBit j).toNat : Int) := by
    intro Y j
    rw [Nat.toNat_testBit]; simp
  rw [f, f, Nat.testBit_or, Nat.testBit_mod_two_pow, Nat.testBit_shiftLeft, Nat.testBit_shiftRight]
  congr 1
  have ht64 : t < 64 := by omega
  by_cases h : i + s < 64
  · have : t = i + s := by omega
    subst this
    have hz : X.testBit (64 - s + (i + s)) = false := Nat.testBit_lt_two_pow (Nat.lt_of_lt_of_le hX (Nat.pow_le_pow_right (by omega) (by omega)))
    rw [hz]
    simp [ht64]
  · have : t = i + s - 64 := by omega
    subst this
    rw [show 64 - s + (i + s - 64) = i by omega]
    have : ¬ (s ≤ i + s - 64) := by omega
    simp [this]

theorem tmod_emod (k : Int) : (Int.tmod k 64) % 64 = k % 64 := by
  rcases Int.le_total 0 k with h | h
  · rw [Int.tmod_eq_emod_of_nonneg h]; omega
  · have : Int.tmod k 64 = -((-k) % 64) := by
      rw [show k = -(-k) by omega, Int.neg_tmod, Int.tmod_eq_emod_of_nonneg (by omega)]; omega
    rw [this]; omega

theorem rotv_tmod (x k : Int) : rotv x (Int.tmod k 64) = rotv x k := by unfold rotv; rw [tmod_emod]

set_option maxHeartbeats 1600000 in
theorem turns_any (x k : Int) (w : World) (hx : 0 ≤ x) (hx2 : x < 18446744073709551616) :
    Calls Try.prog 10 #[.int .u64 x, .int .i64 k] w fun e w' => e = .returned (.bool true) ∧ Below w.heap.size w w' := by
  have hy0 : 0 ≤ rotv x k := by unfold rotv; omega
  have hy1 : rotv x k < 18446744073709551616 := by
    unfold rotv
    have h18 : (2 : Nat) ^ 64 = 18446744073709551616 := by decide
    have h1 : (x * 2 ^ (k % 64).toNat % 18446744073709551616).toNat < 2 ^ 64 := by omega
    have h2 : (x / 2 ^ (64 - (k % 64).toNat)).toNat < 2 ^ 64 := by
      have := Int.ediv_le_self (2 ^ (64 - (k % 64).toNat)) hx
      omega
    have := Nat.or_lt_two_pow h1 h2
    omega
  obtain ⟨m, hm⟩ : ∃ m, Int.tmod k 64 = m := ⟨_, rfl⟩
  have hmm := tmod_emod k
  have hrt := rotv_tmod x k
  rw [hm] at hmm hrt
  have hmb : -64 < m ∧ m < 64 := by
    have h1 := Int.tmod_lt_of_pos k (b := 64) (by omega)
    have h2 : -64 < Int.tmod k 64 := by
      have h3 := Int.tmod_lt_of_pos (-k) (b := 64) (by omega)
      rw [Int.neg_tmod] at h3
      omega
    exact ⟨by omega, by omega⟩
  obtain ⟨hm1, hm2⟩ := hmb
  have HC := Lib.hid (fun i hi => rot_bit x k i hx hx2 hi)
  rw [← hmm] at HC
  obtain ⟨y, hy⟩ : ∃ y, rotv x k = y := ⟨_, rfl⟩
  rw [hy] at hy0 hy1 HC hrt
  have HR := Lib.hid hrt
  have HM := Lib.hid hm
  clear hy hrt hmm hm
  by_cases hneg : m < 0
  · have e : m % 64 = m + 64 := by omega
    rw [e] at HC
    have hm := HM.out
    clear e
    go_enter Try.func10, Try.ntmps10
    go_wp2_with fail
    refine (turn_any _ _ _ hx hx2).mono ?_
    rintro e w1 ⟨rfl, rfl⟩
    rw [HM.out, HR.out]
    go_wp2_with fail
    go_loop [17] (fun v => ∃ j : Nat, j ≤ 64 ∧ v = .int .i64 j) (fun v => (64 - intOf v).toNat)
    case atStart => exact ⟨0, by omega, rfl⟩
    case round =>
      obtain ⟨j, hj, rfl⟩ := hrel
      by_cases hlt : j < 64
      · have hb := HC.out j hlt
        obtain ⟨b, hbb⟩ : ∃ b, bitv x j = b := ⟨_, rfl⟩
        rw [hbb] at hb
        have H1 := Lib.hid hb
        have H2 := Lib.hid hbb
        clear hb hbb
        go_wp2_with fail
        refine (bit_any _ _ _ hy0 hy1).mono ?_
        rintro e w1 ⟨rfl, rfl⟩
        rw [H1.out]
        go_wp2_with fail
        refine (bit_any _ _ _ hx hx2).mono ?_
        rintro e w1 ⟨rfl, rfl⟩
        rw [H2.out]
        go_wp2_with fail
        go_round
        case rel => exact ⟨j + 1, by omega, by go_num⟩
        case measure => simp [intOf]; omega
      · go_wp2_with fail
        refine (awake_any _).mono ?_
        rintro e w1 ⟨rfl, hb⟩
        have HB := Lib.hid hb
        clear hb
        go_wp2
        go_ret
        exact ⟨rfl, HB.out⟩
  · have e : m % 64 = m := by omega
    rw [e] at HC
    have hm := HM.out
    clear e
    go_enter Try.func10, Try.ntmps10
    go_wp2_with fail
    refine (turn_any _ _ _ hx hx2).mono ?_
    rintro e w1 ⟨rfl, rfl⟩
    rw [HM.out, HR.out]
    go_wp2_with fail
    go_loop [17] (fun v => ∃ j : Nat, j ≤ 64 ∧ v = .int .i64 j) (fun v => (64 - intOf v).toNat)
    case atStart => exact ⟨0, by omega, rfl⟩
    case round =>
      obtain ⟨j, hj, rfl⟩ := hrel
      by_cases hlt : j < 64
      · have hb := HC.out j hlt
        obtain ⟨b, hbb⟩ : ∃ b, bitv x j = b := ⟨_, rfl⟩
        rw [hbb] at hb
        have H1 := Lib.hid hb
        have H2 := Lib.hid hbb
        clear hb hbb
        go_wp2_with fail
        refine (bit_any _ _ _ hy0 hy1).mono ?_
        rintro e w1 ⟨rfl, rfl⟩
        rw [H1.out]
        go_wp2_with fail
        refine (bit_any _ _ _ hx hx2).mono ?_
        rintro e w1 ⟨rfl, rfl⟩
        rw [H2.out]
        go_wp2_with fail
        go_round
        case rel => exact ⟨j + 1, by omega, by go_num⟩
        case measure => simp [intOf]; omega
      · go_wp2_with fail
        refine (awake_any _).mono ?_
        rintro e w1 ⟨rfl, hb⟩
        have HB := Lib.hid hb
        clear hb
        go_wp2
        go_ret
        exact ⟨rfl, HB.out⟩

end Go.Proofs.Ytfffacgihgkobaa
