/- Contracts of the chunks' functions that only compute: Cut, At, TrailingZeros64; each speaks of numbers of 64 bits. -/
import Derived.Test.YtbmiaagkognlpaaDoorRows
import Derived.WalkKit
import Derived.WalkSpells
import Derived.WalkLawsBesides
import Derived.IntWalk
import Derived.KernelRfl
import Derived.Lib.Hide
import Derived.Lib.TrailingZeros
import Derived.Laws.Bits64b
set_option linter.unusedVariables false
set_option linter.unusedSimpArgs false
namespace Go.Proofs.YtbmiaagkognlpaaDoor
open Go.RowKit

theorem max2_num (k k' : IntKind) (x y : Int) : Builtin.max2 (.int k x) (.int k' y) = pure (.int k (if x < y then y else x)) := by simp only [Builtin.max2, gt_iff_lt]
theorem min2_num (k k' : IntKind) (x y : Int) : Builtin.min2 (.int k x) (.int k' y) = pure (.int k (if y < x then y else x)) := by simp only [Builtin.min2]
theorem maxOf_two (ats : Array TypeId) (ty : TypeId) (a b : Value) : Builtin.max_ ats ty #[a, b] = (Builtin.max2 a b >>= fun s => pure s) := by simp only [Builtin.max_, List.foldlM_cons, List.foldlM_nil]
theorem minOf_two (ats : Array TypeId) (ty : TypeId) (a b : Value) : Builtin.min_ ats ty #[a, b] = (Builtin.min2 a b >>= fun s => pure s) := by simp only [Builtin.min_, List.foldlM_cons, List.foldlM_nil]
attribute [local go_sem] max2_num min2_num maxOf_two minOf_two

theorem ret_num {k : IntKind} {a b : Int} (h : a = b) : Ending.returned (.int k a) = .returned (.int k b) := by rw [h]

/-- A number within two bounds. -/
def cut3 (n lo hi : Int) : Int := if n < lo then lo else if n > hi then hi else n

/-- How many bits are meant, from 0 to 64. -/
def c64 (n : Int) : Nat := (cut3 n 0 64).toNat
theorem c64_le (n : Int) : c64 n ≤ 64 := by unfold c64 cut3; (repeat' split) <;> omega

theorem u64_wrap (x : Int) : IntKind.u64.wrap x = x % 18446744073709551616 := rfl

/-- A shift to the left and back leaves the lowest bits. -/
theorem shift_back (y : Int) (b : Nat) (hb : b ≤ 64) : IntKind.u64.wrap (y * 2 ^ (64 - b)) / 2 ^ (64 - b) = y % 2 ^ b := by
  rw [u64_wrap]
  have e : (18446744073709551616 : Int) = 2 ^ b * 2 ^ (64 - b) := by rw [← Int.pow_add, show b + (64 - b) = 64 by omega]; decide
  have hp : (0 : Int) < 2 ^ (64 - b) := Int.pow_pos (by omega)
  rw [e, Int.mul_comm y, Int.mul_comm (2 ^ b), Int.mul_emod_mul_of_pos _ _ hp]
  exact Int.mul_ediv_cancel_left _ (by omega)

/-- What is cut out of a number. -/
def cutv (x f n : Int) : Int := x / 2 ^ c64 f % 2 ^ c64 n

theorem cutv_any (x f n : Int) (w : World) :
    Calls Tryd.prog 22 #[.int .u64 x, .int .i64 f, .int .i64 n] w fun e w' => e = .returned (.int .u64 (cutv x f n)) ∧ w = w' := by
  have hf := c64_le f
  have hn := c64_le n
  obtain ⟨f1, hf1⟩ : ∃ j : Int, (if f < 0 then 0 else f) = j := ⟨_, rfl⟩
  obtain ⟨n1, hn1⟩ : ∃ j : Int, (if n < 0 then 0 else n) = j := ⟨_, rfl⟩
  have hf2 : (if 64 < f1 then 64 else f1) = (c64 f : Int) := by
    rw [← hf1]; unfold c64 cut3; (repeat' split) <;> omega
  have hn2 : (if 64 < n1 then 64 else n1) = (c64 n : Int) := by
    rw [← hn1]; unfold c64 cut3; (repeat' split) <;> omega
  have key := shift_back (x / 2 ^ c64 f) (c64 n) hn
  have hfin : IntKind.u64.wrap (x / 2 ^ c64 f * 2 ^ (64 - c64 n)) / 2 ^ (64 - c64 n) = cutv x f n := key
  clear key
  generalize c64 f = F at *
  generalize c64 n = N at *
  have HF : Hid (IntKind.u64.wrap (x / 2 ^ F * 2 ^ (64 - N)) / 2 ^ (64 - N) = cutv x f n) := hfin
  clear hfin
  have e3 : (64 - (N : Int)).toNat = 64 - N := by omega
  go_enter Tryd.func22, Tryd.ntmps22
  go_wp2
  go_ret
  exact ⟨ret_num HF.out, rfl⟩

/-- The nearest level that there is. -/
def c12 (n : Int) : Nat := (cut3 n 0 12).toNat
theorem c12_le (n : Int) : c12 n ≤ 12 := by unfold c12 cut3; (repeat' split) <;> omega

/-- A chunk of a hash. -/
def atN (h : Nat) (l : Nat) : Nat := h / 2 ^ (5 * l) % 32
theorem atN_lt (h l : Nat) : atN h l < 32 := Nat.mod_lt _ (by omega)

theorem cut_at (h l : Nat) (hl : l ≤ 12) : cutv (h : Int) (5 * (l : Int)) 5 = (atN h l : Int) := by
  have e1 : c64 (5 * (l : Int)) = 5 * l := by unfold c64 cut3; (repeat' split) <;> omega
  have e2 : c64 5 = 5 := by decide
  unfold cutv atN
  rw [e1, e2]
  simp

set_option maxHeartbeats 800000 in
theorem at_any (h : Nat) (n : Int) (w : World) :
    Calls Tryd.prog 14 #[.int .u64 (h : Int), .int .i64 n] w fun e w' => e = .returned (.int .i64 (atN h (c12 n) : Nat)) ∧ w = w' := by
  obtain ⟨n1, hn1⟩ : ∃ j : Int, (if n < 0 then 0 else n) = j := ⟨_, rfl⟩
  have hn2 : (if 12 < n1 then 12 else n1) = (c12 n : Int) := by
    rw [← hn1]; unfold c12 cut3; (repeat' split) <;> omega
  have hl := c12_le n
  have hc := cut_at h (c12 n) hl
  have hlt := atN_lt h (c12 n)
  generalize c12 n = l at *
  generalize atN h l = q at *
  have HC := Lib.hid hc
  clear hc
  go_enter Tryd.func14, Tryd.ntmps14
  go_wp2_with fail
  refine (cutv_any _ _ _ _).mono ?_
  rintro e w1 ⟨rfl, rfl⟩
  rw [HC.out]
  go_wp2
  go_ret
  exact ⟨rfl, rfl⟩

/-! ### The lowest bit -/
theorem gTab : Tryd.prog.globalNamed "math/bits.deBruijn64tab" = some 0 := by kernel_rfl

/-- The library's table lies where the program holds it. -/
def TabOK (w : World) : Prop := 0 < w.heap.size ∧ ∀ i, i < 64 → w.cell? ⟨0, i, none⟩ = some (.int .u8 (Lib.deBruijn64tab.getD i 0 : Nat))
theorem TabOK.below {w w1 : World} (h : TabOK w) (hb : Below w.heap.size w w1) : TabOK w1 :=
  ⟨Nat.lt_of_lt_of_le h.1 hb.size, fun i hi => (hb.cell h.1).trans (h.2 i hi)⟩

theorem tz_key (x a : Nat) (hx : x < 18446744073709551616) (hx0 : x ≠ 0) (hlow : x &&& (18446744073709551616 - x) = a) :
    IntKind.u64.wrap (bits BinOp.and IntKind.u64 (x : Int) (IntKind.u64.wrap (-(x : Int))) * 285870213051353865) / 288230376151711744 = ((a * 285870213051353865 % 18446744073709551616 / 288230376151711744 : Nat) : Int) := by
  have e1 : IntKind.u64.wrap (-(x : Int)) = ((18446744073709551616 - x : Nat) : Int) := by rw [u64_wrap]; omega
  rw [e1, bits_and_u64_nat x _ hx (by omega), hlow, u64_wrap]
  omega

theorem tz_core (x k idx : Nat) (w : World) (hx0 : ((x : Int) == 0) = false)
    (key : IntKind.u64.wrap (bits BinOp.and IntKind.u64 (x : Int) (IntKind.u64.wrap (-(x : Int))) * 285870213051353865) / 288230376151711744 = (idx : Int))
    (hi : idx < 64) (hk : k < 64) (hcell : w.cell? ⟨0, idx, none⟩ = some (.int .u8 k)) :
    Calls Tryd.prog 21 #[.int .u64 x] w fun e w' => e = .returned (.int .i64 k) ∧ w = w' := by
  go_enter Tryd.func21, Tryd.ntmps21
  go_wp2_with (simp only [key])
  go_ret
  exact ⟨rfl, rfl⟩

theorem tz_any (x : Nat) (hx : x < 18446744073709551616) (hx0 : x ≠ 0) (w : World) (hT : TabOK w) :
    Calls Tryd.prog 21 #[.int .u64 (x : Int)] w fun e w' => e = .returned (.int .i64 (Lib.ctz 64 x : Nat)) ∧ w = w' := by
  obtain ⟨hlow, hk⟩ := Lib.lowest_bit 64 x hx0 hx
  obtain ⟨hi, htab⟩ := Lib.deBruijn64_at _ hk
  have hcell := hT.2 _ hi
  rw [htab] at hcell
  exact tz_core x _ _ w (by simp; omega) (tz_key x _ hx hx0 hlow) hi hk hcell

end Go.Proofs.YtbmiaagkognlpaaDoor
