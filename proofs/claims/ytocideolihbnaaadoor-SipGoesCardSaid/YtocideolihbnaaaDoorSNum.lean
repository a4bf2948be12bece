/- Contracts of the word functions that only compute: Cut, Held, Bit, Turn; no conditions but that each number is of its kind. -/
import Derived.Test.YtocideolihbnaaaDoorRows
import Derived.WalkKit
import Derived.WalkSpells
import Derived.WalkLawsBesides
import Derived.IntWalk
import Derived.KernelRfl
import Derived.Lib.Hide
set_option linter.unusedVariables false
set_option linter.unusedSimpArgs false
namespace Go.Proofs.YtocideolihbnaaaDoor
open Go.RowKit

theorem max2_num (k k' : IntKind) (x y : Int) : Builtin.max2 (.int k x) (.int k' y) = pure (.int k (if x < y then y else x)) := by simp only [Builtin.max2, gt_iff_lt]
theorem min2_num (k k' : IntKind) (x y : Int) : Builtin.min2 (.int k x) (.int k' y) = pure (.int k (if y < x then y else x)) := by simp only [Builtin.min2]
theorem maxOf_two (ats : Array TypeId) (ty : TypeId) (a b : Value) : Builtin.max_ ats ty #[a, b] = (Builtin.max2 a b >>= fun s => pure s) := by simp only [Builtin.max_, List.foldlM_cons, List.foldlM_nil]
theorem minOf_two (ats : Array TypeId) (ty : TypeId) (a b : Value) : Builtin.min_ ats ty #[a, b] = (Builtin.min2 a b >>= fun s => pure s) := by simp only [Builtin.min_, List.foldlM_cons, List.foldlM_nil]
attribute [local go_sem] max2_num min2_num maxOf_two minOf_two

theorem ret_num {k : IntKind} {a b : Int} (h : a = b) : Ending.returned (.int k a) = .returned (.int k b) := by rw [h]

/-- A number within two bounds. -/
def cut3 (n lo hi : Int) : Int := if n < lo then lo else if n > hi then hi else n

/-- How many bits are meant, from 0 to 64. -/
def c64 (n : Int) : Nat := (cut3 n 0 64).toNat
theorem c64_le (n : Int) : c64 n ≤ 64 := by unfold c64 cut3; (repeat' split) <;> omega

theorem u64_wrap (x : Int) : IntKind.u64.wrap x = x % 18446744073709551616 := rfl

/-- A shift to the left and back leaves the lowest bits. -/
theorem shift_back (y : Int) (b : Nat) (hb : b ≤ 64) : IntKind.u64.wrap (y * 2 ^ (64 - b)) / 2 ^ (64 - b) = y % 2 ^ b := by
  rw [u64_wrap]
  have e : (18446744073709551616 : Int) = 2 ^ b * 2 ^ (64 - b) := by rw [← Int.pow_add, show b + (64 - b) = 64 by omega]; decide
  have hp : (0 : Int) < 2 ^ (64 - b) := Int.pow_pos (by omega)
  rw [e, Int.mul_comm y, Int.mul_comm (2 ^ b), Int.mul_emod_mul_of_pos _ _ hp]
  exact Int.mul_ediv_cancel_left _ (by omega)

/-- What is cut out of a number. -/
def cutv (x f n : Int) : Int := x / 2 ^ c64 f % 2 ^ c64 n


/-- A bit of a number. -/
def bitv (x at_ : Int) : Int := if at_ > 63 then 0 else x / 2 ^ at_.toNat % 2

theorem half_half (x : Int) (k : Nat) : x / 2 ^ k / 2 = x / 2 ^ (k + 1) := by
  rw [Int.pow_succ, Int.ediv_ediv_of_nonneg (by have : (0 : Int) < 2 ^ k := Int.pow_pos (by omega); omega)]

/-- A number, turned to the left by so many bits. -/
def rotv (x k : Int) : Int := ((((x * 2 ^ (k % 64).toNat % 18446744073709551616).toNat) ||| (x / 2 ^ (64 - (k % 64).toNat)).toNat : Nat) : Int)

theorem rot_any (x k : Int) (w : World) (hx : 0 ≤ x) (hx2 : x < 18446744073709551616) :
    Calls Tryd.prog 27 #[.int .u64 x, .int .i64 k] w fun e w' => e = .returned (.int .u64 (rotv x k)) ∧ w = w' := by
  have hm : bits .and .u64 (IntKind.u64.wrap k) 63 = ((k % 64).toNat : Int) := by
    have h := bits_mask .u64 64 (by decide) (fun n h0 h1 => by rw [u64_wrap]; have : (2 : Int) ^ 64 = 18446744073709551616 := by decide
                                                               omega) 6 (by decide) (IntKind.u64.wrap k) (by rw [u64_wrap]; omega) (by rw [u64_wrap]; have : (2 : Int) ^ 64 = 18446744073709551616 := by decide
                                                                                                                                       omega)
    have e6 : (2 : Int) ^ 6 = 64 := by decide
    rw [e6] at h
    have e63 : (64 : Int) - 1 = 63 := by decide
    rw [e63, u64_wrap] at h
    rw [u64_wrap, h]
    omega
  have hs : (k % 64).toNat < 64 := by omega
  have hr : rotv x k = ((((x * 2 ^ (k % 64).toNat % 18446744073709551616).toNat) ||| (x / 2 ^ (64 - (k % 64).toNat)).toNat : Nat) : Int) := rfl
  have ho : ∀ s : Nat, bits .or .u64 (IntKind.u64.wrap (x * 2 ^ s)) (x / 2 ^ (64 - s)) = ((((x * 2 ^ s % 18446744073709551616).toNat) ||| (x / 2 ^ (64 - s)).toNat : Nat) : Int) := by
    intro s
    have h1 : 0 ≤ x / 2 ^ (64 - s) := Int.ediv_nonneg hx (by have : (0 : Int) < 2 ^ (64 - s) := Int.pow_pos (by omega); omega)
    have h2 : x / 2 ^ (64 - s) ≤ x := Int.ediv_le_self _ hx
    rw [u64_wrap]
    exact u64_or _ _ (by omega) (by omega) h1 (by omega)
  generalize (k % 64).toNat = s at *
  have HR := Lib.hid hr
  have HO := Lib.hid (ho s)
  clear hr ho
  go_enter Tryd.func27, Tryd.ntmps27
  go_wp2
  go_ret
  exact ⟨ret_num (by rw [HO.out, HR.out]), rfl⟩

theorem turn_any (x k : Int) (w : World) (hx : 0 ≤ x) (hx2 : x < 18446744073709551616) :
    Calls Tryd.prog 22 #[.int .u64 x, .int .i64 k] w fun e w' => e = .returned (.int .u64 (rotv x (Int.tmod k 64))) ∧ w = w' := by
  go_enter Tryd.func22, Tryd.ntmps22
  go_wp2_with (go_at_call 27; refine (rot_any _ _ _ hx hx2).mono ?_; rintro e w' ⟨rfl, rfl⟩)
  go_ret
  exact ⟨rfl, rfl⟩

end Go.Proofs.YtocideolihbnaaaDoor
