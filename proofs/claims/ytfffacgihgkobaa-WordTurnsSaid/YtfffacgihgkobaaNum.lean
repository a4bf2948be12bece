/- Contracts of the word functions that only compute: Cut, Held, Bit, Turn; no conditions but that each number is of its kind. -/
import Derived.Test.YtfffacgihgkobaaRows
import Derived.WalkKit
import Derived.WalkSpells
import Derived.WalkLawsBesides
import Derived.IntWalk
import Derived.KernelRfl
import Derived.Lib.Hide
set_option linter.unusedVariables false
set_option linter.unusedSimpArgs false
namespace Go.Proofs.Ytfffacgihgkobaa
open Go.RowKit

theorem max2_num (k k' : IntKind) (x y : Int) : Builtin.max2 (.int k x) (.int k' y) = pure (.int k (if x < y then y else x)) := by simp only [Builtin.max2, gt_iff_lt]
theorem min2_num (k k' : IntKind) (x y : Int) : Builtin.min2 (.int k x) (.int k' y) = pure (.int k (if y < x then y else x)) := by simp only [Builtin.min2]
theorem maxOf_two (ats : Array TypeId) (ty : TypeId) (a b : Value) : Builtin.max_ ats ty #[a, b] = (Builtin.max2 a b >>= fun s => pure s) := by simp only [Builtin.max_, List.foldlM_cons, List.foldlM_nil]
theorem minOf_two (ats : Array TypeId) (ty : TypeId) (a b : Value) : Builtin.min_ ats ty #[a, b] = (Builtin.min2 a b >>= fun s => pure s) := by simp only [Builtin.min_, List.foldlM_cons, List.foldlM_nil]
attribute [local go_sem] max2_num min2_num maxOf_two minOf_two

theorem ret_num {k : IntKind} {a b : Int} (h : a = b) : Ending.returned (.int k a) = .returned (.int k b) := by rw [h]

/-- A number within two bounds. -/
def cut3 (n lo hi : Int) : Int := if n < lo then lo else if n > hi then hi else n

/-- How many bits are meant, from 0 to 64. -/
def c64 (n : Int) : Nat := (cut3 n 0 64).toNat
theorem c64_le (n : Int) : c64 n ≤ 64 := by unfold c64 cut3; (repeat' split) <;> omega

theorem u64_wrap (x : Int) : IntKind.u64.wrap x = x % 18446744073709551616 := rfl

/-- A shift to the left and back leaves the lowest bits. -/
theorem shift_back (y : Int) (b : Nat) (hb : b ≤ 64) : IntKind.u64.wrap (y * 2 ^ (64 - b)) / 2 ^ (64 - b) = y % 2 ^ b := by
  rw [u64_wrap]
  have e : (18446744073709551616 : Int) = 2 ^ b * 2 ^ (64 - b) := by rw [← Int.pow_add, show b + (64 - b) = 64 by omega]; decide
  have hp : (0 : Int) < 2 ^ (64 - b) := Int.pow_pos (by omega)
  rw [e, Int.mul_comm y, Int.mul_comm (2 ^ b), Int.mul_emod_mul_of_pos _ _ hp]
  exact Int.mul_ediv_cancel_left _ (by omega)

/-- What is cut out of a number. -/
def cutv (x f n : Int) : Int := x / 2 ^ c64 f % 2 ^ c64 n

theorem cutv_any (x f n : Int) (w : World) :
    Calls Try.prog 22 #[.int .u64 x, .int .i64 f, .int .i64 n] w fun e w' => e = .returned (.int .u64 (cutv x f n)) ∧ w = w' := by
  have hf := c64_le f
  have hn := c64_le n
  obtain ⟨f1, hf1⟩ : ∃ j : Int, (if f < 0 then 0 else f) = j := ⟨_, rfl⟩
  obtain ⟨n1, hn1⟩ : ∃ j : Int, (if n < 0 then 0 else n) = j := ⟨_, rfl⟩
  have hf2 : (if 64 < f1 then 64 else f1) = (c64 f : Int) := by
    rw [← hf1]; unfold c64 cut3; (repeat' split) <;> omega
  have hn2 : (if 64 < n1 then 64 else n1) = (c64 n : Int) := by
    rw [← hn1]; unfold c64 cut3; (repeat' split) <;> omega
  have key := shift_back (x / 2 ^ c64 f) (c64 n) hn
  have hfin : IntKind.u64.wrap (x / 2 ^ c64 f * 2 ^ (64 - c64 n)) / 2 ^ (64 - c64 n) = cutv x f n := key
  clear key
  generalize c64 f = F at *
  generalize c64 n = N at *
  have HF : Hid (IntKind.u64.wrap (x / 2 ^ F * 2 ^ (64 - N)) / 2 ^ (64 - N) = cutv x f n) := hfin
  clear hfin
  have e3 : (64 - (N : Int)).toNat = 64 - N := by omega
  go_enter Try.func22, Try.ntmps22
  go_wp2
  go_ret
  exact ⟨ret_num HF.out, rfl⟩

theorem held_any (n lo hi : Int) (w : World) :
    Calls Try.prog 23 #[.int .i64 n, .int .i64 lo, .int .i64 hi] w fun e w' => e = .returned (.int .i64 (cut3 n lo hi)) ∧ w = w' := by
  unfold cut3
  go_enter Try.func23, Try.ntmps23
  go_wp2
  all_goals go_ret
  all_goals simp [*]


/-- A bit of a number. -/
def bitv (x at_ : Int) : Int := if at_ > 63 then 0 else x / 2 ^ at_.toNat % 2

theorem half_half (x : Int) (k : Nat) : x / 2 ^ k / 2 = x / 2 ^ (k + 1) := by
  rw [Int.pow_succ, Int.ediv_ediv_of_nonneg (by have : (0 : Int) < 2 ^ k := Int.pow_pos (by omega); omega)]

set_option maxHeartbeats 400000 in
theorem bit_any (x p : Int) (w : World) (hx : 0 ≤ x) (hx2 : x < 18446744073709551616) :
    Calls Try.prog 24 #[.int .u64 x, .int .i64 p] w fun e w' => e = .returned (.int .i64 (bitv x p)) ∧ w = w' := by
  by_cases h63 : p > 63
  · have e : bitv x p = 0 := by unfold bitv; rw [if_pos h63]
    rw [e]
    clear e
    go_enter Try.func24, Try.ntmps24
    go_wp2
    go_ret
    exact ⟨rfl, rfl⟩
  · have e : bitv x p = x / 2 ^ p.toNat % 2 := by unfold bitv; rw [if_neg h63]
    have HE := Lib.hid e
    clear e
    have h63' : p ≤ 63 := by omega
    clear h63
    go_enter Try.func24, Try.ntmps24
    go_wp2
    go_loop [0, 5] (fun a b => ∃ (j : Nat) (y : Int), (j : Int) ≤ max p 0 ∧ y = x / 2 ^ j ∧ a = .int .u64 y ∧ b = .int .i64 j) (fun _ b => (p - intOf b).toNat)
    case atStart => exact ⟨0, x, by omega, by simp, rfl, rfl⟩
    case round =>
      obtain ⟨j, y, hj, hy, rfl, rfl⟩ := hrel
      have hp2 : (0 : Int) < 2 ^ j := Int.pow_pos (by omega)
      have hy0 : 0 ≤ y := by rw [hy]; exact Int.ediv_nonneg hx (by omega)
      have hy1 : y < 18446744073709551616 := by rw [hy]; exact Int.lt_of_le_of_lt (Int.ediv_le_self _ hx) hx2
      have HY := Lib.hid hy
      clear hy hp2
      by_cases hlt : (j : Int) < p
      · go_wp2
        go_round
        case rel => exact ⟨j + 1, y / 2, by omega, by rw [HY.out, half_half], by go_num, by go_num⟩
        case measure => simp [intOf]; omega
      · go_wp2
        go_ret
        exact ⟨ret_num (by rw [HE.out, HY.out, show p.toNat = j by omega]), rfl⟩

/-- A number, turned to the left by so many bits. -/
def rotv (x k : Int) : Int := ((((x * 2 ^ (k % 64).toNat % 18446744073709551616).toNat) ||| (x / 2 ^ (64 - (k % 64).toNat)).toNat : Nat) : Int)

theorem rot_any (x k : Int) (w : World) (hx : 0 ≤ x) (hx2 : x < 18446744073709551616) :
    Calls Try.prog 37 #[.int .u64 x, .int .i64 k] w fun e w' => e = .returned (.int .u64 (rotv x k)) ∧ w = w' := by
  have hm : bits .and .u64 (IntKind.u64.wrap k) 63 = ((k % 64).toNat : Int) := by
    have h := bits_mask .u64 64 (by decide) (fun n h0 h1 => by rw [u64_wrap]; have : (2 : Int) ^ 64 = 18446744073709551616 := by decide
                                                               omega) 6 (by decide) (IntKind.u64.wrap k) (by rw [u64_wrap]; omega) (by rw [u64_wrap]; have : (2 : Int) ^ 64 = 18446744073709551616 := by decide
                                                                                                                                       omega)
    have e6 : (2 : Int) ^ 6 = 64 := by decide
    rw [e6] at h
    have e63 : (64 : Int) - 1 = 63 := by decide
    rw [e63, u64_wrap] at h
    rw [u64_wrap, h]
    omega
  have hs : (k % 64).toNat < 64 := by omega
  have hr : rotv x k = ((((x * 2 ^ (k % 64).toNat % 18446744073709551616).toNat) ||| (x / 2 ^ (64 - (k % 64).toNat)).toNat : Nat) : Int) := rfl
  have ho : ∀ s : Nat, bits .or .u64 (IntKind.u64.wrap (x * 2 ^ s)) (x / 2 ^ (64 - s)) = ((((x * 2 ^ s % 18446744073709551616).toNat) ||| (x / 2 ^ (64 - s)).toNat : Nat) : Int) := by
    intro s
    have h1 : 0 ≤ x / 2 ^ (64 - s) := Int.ediv_nonneg hx (by have : (0 : Int) < 2 ^ (64 - s) := Int.pow_pos (by omega); omega)
    have h2 : x / 2 ^ (64 - s) ≤ x := Int.ediv_le_self _ hx
    rw [u64_wrap]
    exact u64_or _ _ (by omega) (by omega) h1 (by omega)
  generalize (k % 64).toNat = s at *
  have HR := Lib.hid hr
  have HO := Lib.hid (ho s)
  clear hr ho
  go_enter Try.func37, Try.ntmps37
  go_wp2
  go_ret
  exact ⟨ret_num (by rw [HO.out, HR.out]), rfl⟩

theorem turn_any (x k : Int) (w : World) (hx : 0 ≤ x) (hx2 : x < 18446744073709551616) :
    Calls Try.prog 26 #[.int .u64 x, .int .i64 k] w fun e w' => e = .returned (.int .u64 (rotv x (Int.tmod k 64))) ∧ w = w' := by
  go_enter Try.func26, Try.ntmps26
  go_wp2_with (go_at_call 37; refine (rot_any _ _ _ hx hx2).mono ?_; rintro e w' ⟨rfl, rfl⟩)
  go_ret
  exact ⟨rfl, rfl⟩

end Go.Proofs.Ytfffacgihgkobaa
