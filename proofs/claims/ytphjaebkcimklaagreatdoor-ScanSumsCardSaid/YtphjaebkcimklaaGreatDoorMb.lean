/- Texts put together: BPop BBit BSet BList BIter BNth CNum. -/
import Derived.Below
import Derived.Test.YtphjaebkcimklaaGreatDoorRows
import Derived.WalkKit
import Derived.WalkSpells
import Derived.WalkLawsBesides
import Derived.IntWalk
import Derived.KernelRfl
import Derived.Lib.Hide
import Derived.Laws.Bits128
import Derived.Deep.QuietTactic
import Derived.BigQuiet
import Derived.Maps.AppendAt
import Derived.Lib.TrailingZeros
import Derived.RangeFuncNested
import Derived.RangeFuncBound
import Derived.RangeFuncCalls
import Derived.RangeFuncLeaves
import Derived.Shelf.Abstract
import Derived.Shelf.RegionOpen
import Derived.OwnWalkIn
import Derived.TacticsInMore
import Derived.LoopNIn
import Derived.LoopIn
import Derived.Laws.Bits64b
/- How many bits a number has, as two ways of counting tell it: plain numbers alone. -/
set_option linter.unusedVariables false
namespace Go.Proofs.YtphjaebkcimklaaGreatDoor.B

/-- How many of the first places answer yes. -/
def cnt (f : Nat → Bool) : Nat → Nat
  | 0 => 0
  | n + 1 => cnt f n + (f n).toNat

theorem cnt_congr {f g : Nat → Bool} : ∀ n, (∀ k, k < n → f k = g k) → cnt f n = cnt g n
  | 0, _ => rfl
  | n + 1, h => by rw [cnt, cnt, cnt_congr n (fun k hk => h k (by omega)), h n (by omega)]

theorem cnt_add (f : Nat → Bool) (n : Nat) : ∀ m, cnt f (n + m) = cnt f n + cnt (fun k => f (n + k)) m
  | 0 => by simp [cnt]
  | m + 1 => by rw [← Nat.add_assoc, cnt, cnt_add f n m, cnt]; omega

theorem cnt_le (f : Nat → Bool) : ∀ n, cnt f n ≤ n
  | 0 => Nat.le_refl _
  | n + 1 => by rw [cnt]; have := cnt_le f n; cases f n <;> simp <;> omega

theorem cnt_filter (f : Nat → Bool) : ∀ n, ((List.range n).filter f).length = cnt f n
  | 0 => rfl
  | n + 1 => by
    rw [List.range_succ, List.filter_append, List.length_append, cnt_filter f n, cnt]
    cases h : f n <;> simp [h]

/-- The bytes of a number of four. -/
theorem four_bytes (y : Nat) (h : y < 4294967296) : ∃ a b c d, a < 256 ∧ b < 256 ∧ c < 256 ∧ d < 256 ∧ y = a + 256 * (b + 256 * (c + 256 * d)) :=
  ⟨y % 256, y / 256 % 256, y / 65536 % 256, y / 16777216, by omega, by omega, by omega, by omega, by omega⟩

theorem testBit_byte (a z k : Nat) (ha : a < 256) : (a + 256 * z).testBit k = if k < 8 then a.testBit k else z.testBit (k - 8) := by
  have := Nat.testBit_two_pow_mul_add z (i := 8) (b := a) (by omega) k
  rw [show 2 ^ 8 = 256 by decide] at this
  rw [Nat.add_comm, this]

theorem cnt_byte (a z : Nat) (ha : a < 256) (n : Nat) : cnt (a + 256 * z).testBit (8 + n) = cnt a.testBit 8 + cnt z.testBit n := by
  rw [cnt_add]
  rw [cnt_congr (f := (a + 256 * z).testBit) (g := a.testBit) 8 (fun k hk => by rw [testBit_byte a z k ha, if_pos hk])]
  rw [cnt_congr (g := z.testBit) n (fun k hk => by rw [testBit_byte a z _ ha, if_neg (by omega)]; congr 1; omega)]

theorem cnt_four (a b c d : Nat) (ha : a < 256) (hb : b < 256) (hc : c < 256) (hd : d < 256) :
    cnt (a + 256 * (b + 256 * (c + 256 * d))).testBit 32 = cnt a.testBit 8 + cnt b.testBit 8 + cnt c.testBit 8 + cnt d.testBit 8 := by
  rw [show 32 = 8 + 24 from rfl, cnt_byte _ _ ha, show 24 = 8 + 16 from rfl, cnt_byte _ _ hb, show 16 = 8 + 8 from rfl, cnt_byte _ _ hc]
  omega

theorem land_byte (a z c M : Nat) (ha : a < 256) (hc : c < 256) : (a + 256 * z) &&& (c + 256 * M) = (a &&& c) + 256 * (z &&& M) := by
  apply Nat.eq_of_testBit_eq
  intro k
  have hac : a &&& c < 256 := Nat.lt_of_le_of_lt Nat.and_le_left ha
  rw [Nat.testBit_and, testBit_byte a z k ha, testBit_byte c M k hc, testBit_byte _ _ k hac]
  split <;> simp

/-! The steps of the count by halves, byte by byte. -/
def f1 (b : Nat) : Nat := (b / 2 &&& 85) + (b &&& 85)
def f2 (b : Nat) : Nat := (b / 4 &&& 51) + (b &&& 51)
def f3 (b : Nat) : Nat := (b / 16 + b) &&& 15

theorem t1 : ∀ b, b < 256 → (f1 b < 256 ∧ ((b / 2 + 128) &&& 85) = (b / 2 &&& 85)) := by decide +kernel
theorem t2 : ∀ b, b < 256 → (f2 b < 256 ∧ ((b / 4 + 64) &&& 51) = (b / 4 &&& 51) ∧ ((b / 4 + 128) &&& 51) = (b / 4 &&& 51) ∧ ((b / 4 + 192) &&& 51) = (b / 4 &&& 51)) := by decide +kernel
theorem t3 : ∀ b, b < 256 → (f2 (f1 b) ≤ 68 ∧ f3 (f2 (f1 b)) = cnt b.testBit 8 ∧ f2 (f1 b) % 16 ≤ 4) := by decide +kernel

theorem s1 (b z M : Nat) (hb : b < 256) : ((b + 256 * z) / 2 &&& (85 + 256 * M)) + ((b + 256 * z) &&& (85 + 256 * M)) = f1 b + 256 * ((z / 2 &&& M) + (z &&& M)) := by
  have h := t1 b hb
  have e : (b + 256 * z) / 2 = (b / 2 + 128 * (z % 2)) + 256 * (z / 2) := by omega
  rw [e, land_byte _ _ _ _ (by omega) (by omega), land_byte _ _ _ _ hb (by omega)]
  have h2 : ((b / 2 + 128 * (z % 2)) &&& 85) = (b / 2 &&& 85) := by
    rcases Nat.mod_two_eq_zero_or_one z with h0 | h0
    · rw [h0]; simp
    · rw [h0]; exact h.2
  rw [h2]; unfold f1; omega

theorem s2 (b z M : Nat) (hb : b < 256) : ((b + 256 * z) / 4 &&& (51 + 256 * M)) + ((b + 256 * z) &&& (51 + 256 * M)) = f2 b + 256 * ((z / 4 &&& M) + (z &&& M)) := by
  have h := t2 b hb
  have e : (b + 256 * z) / 4 = (b / 4 + 64 * (z % 4)) + 256 * (z / 4) := by omega
  rw [e, land_byte _ _ _ _ (by omega) (by omega), land_byte _ _ _ _ hb (by omega)]
  have h2 : ((b / 4 + 64 * (z % 4)) &&& 51) = (b / 4 &&& 51) := by
    have : z % 4 = 0 ∨ z % 4 = 1 ∨ z % 4 = 2 ∨ z % 4 = 3 := by omega
    rcases this with h0 | h0 | h0 | h0
    · rw [h0]; simp
    · rw [h0]; exact h.2.1
    · rw [h0]; exact h.2.2.1
    · rw [h0]; exact h.2.2.2
  rw [h2]; unfold f2; omega

theorem and15 (x : Nat) : x &&& 15 = x % 16 := Nat.and_two_pow_sub_one_eq_mod x 4

theorem s3 (b z M : Nat) (hb : b ≤ 68) (hz : z % 16 ≤ 4) : ((b + 256 * z) / 16 + (b + 256 * z)) &&& (15 + 256 * M) = f3 b + 256 * ((z / 16 + z) &&& M) := by
  have e : (b + 256 * z) / 16 + (b + 256 * z) = (b / 16 + b + 16 * (z % 16)) + 256 * (z / 16 + z) := by omega
  rw [e, land_byte _ _ _ _ (by omega) (by omega), and15]
  unfold f3
  rw [and15]; omega

/-- Four steps of the count. -/
theorem swar1 (y : Nat) (h : y < 4294967296) : ∃ a b c d, a < 256 ∧ b < 256 ∧ c < 256 ∧ d < 256 ∧ y = a + 256 * (b + 256 * (c + 256 * d)) ∧
    (y / 2 &&& 6148914691236517205) + (y &&& 6148914691236517205) = f1 a + 256 * (f1 b + 256 * (f1 c + 256 * f1 d)) := by
  obtain ⟨a, b, c, d, ha, hb, hc, hd, hy⟩ := four_bytes y h
  refine ⟨a, b, c, d, ha, hb, hc, hd, hy, ?_⟩
  have e : (6148914691236517205 : Nat) = 85 + 256 * (85 + 256 * (85 + 256 * (85 + 256 * 1431655765))) := by decide
  have hd0 : d = d + 256 * 0 := by omega
  rw [e, hy, s1 _ _ _ ha, s1 _ _ _ hb, s1 _ _ _ hc]
  conv => lhs; rw [hd0, s1 _ _ _ hd]
  simp

theorem swar2 (a b c d : Nat) (ha : a < 256) (hb : b < 256) (hc : c < 256) (hd : d < 256) :
    ((a + 256 * (b + 256 * (c + 256 * d))) / 4 &&& 3689348814741910323) + ((a + 256 * (b + 256 * (c + 256 * d))) &&& 3689348814741910323) = f2 a + 256 * (f2 b + 256 * (f2 c + 256 * f2 d)) := by
  have e : (3689348814741910323 : Nat) = 51 + 256 * (51 + 256 * (51 + 256 * (51 + 256 * 858993459))) := by decide
  have hd0 : d = d + 256 * 0 := by omega
  rw [e, s2 _ _ _ ha, s2 _ _ _ hb, s2 _ _ _ hc]
  conv => lhs; rw [hd0, s2 _ _ _ hd]
  simp

theorem swar3 (a b c d : Nat) (ha : a ≤ 68) (hb : b ≤ 68) (hc : c ≤ 68) (hd : d ≤ 68) (hb4 : b % 16 ≤ 4) (hc4 : c % 16 ≤ 4) (hd4 : d % 16 ≤ 4) :
    ((a + 256 * (b + 256 * (c + 256 * d))) / 16 + (a + 256 * (b + 256 * (c + 256 * d)))) &&& 1085102592571150095 = f3 a + 256 * (f3 b + 256 * (f3 c + 256 * f3 d)) := by
  have e : (1085102592571150095 : Nat) = 15 + 256 * (15 + 256 * (15 + 256 * (15 + 256 * 252645135))) := by decide
  have hd0 : d = d + 256 * 0 := by omega
  rw [e, s3 _ _ _ ha (by omega), s3 _ _ _ hb (by omega), s3 _ _ _ hc (by omega)]
  conv => lhs; rw [hd0, s3 _ _ _ hd (by omega)]
  simp

theorem fold4 (p q r s : Nat) (hp : p ≤ 8) (hq : q ≤ 8) (hr : r ≤ 8) (hs : s ≤ 8) (X : Nat) (hX : X = p + 256 * (q + 256 * (r + 256 * s))) :
    (X + X / 256 + (X + X / 256) / 65536) % 128 = p + q + r + s := by
  have e1 : X / 256 = q + 256 * (r + 256 * s) := by omega
  have e2 : X + X / 256 = (p + q + 256 * (q + r)) + 65536 * (r + s + 256 * s) := by omega
  have e3 : (X + X / 256) / 65536 = r + s + 256 * s := by omega
  rw [e3, e2]; omega

/-- The count of a number of four bytes, step by step. -/
theorem swar (y : Nat) (h : y < 4294967296) : ∃ x1 x2 x3 : Nat,
    (y / 2 &&& 6148914691236517205) + (y &&& 6148914691236517205) = x1 ∧ (x1 / 4 &&& 3689348814741910323) + (x1 &&& 3689348814741910323) = x2 ∧
    (x2 / 16 + x2) &&& 1085102592571150095 = x3 ∧ x1 < 8589934592 ∧ x2 < 8589934592 ∧ x3 < 134744073 ∧
    (x3 + x3 / 256 + (x3 + x3 / 256) / 65536) % 128 = cnt y.testBit 32 := by
  obtain ⟨a, b, c, d, ha, hb, hc, hd, hy, h1⟩ := swar1 y h
  have u1 := (t1 a ha).1
  have u2 := (t1 b hb).1
  have u3 := (t1 c hc).1
  have u4 := (t1 d hd).1
  have v1 := t3 a ha
  have v2 := t3 b hb
  have v3 := t3 c hc
  have v4 := t3 d hd
  refine ⟨_, _, _, h1, swar2 _ _ _ _ u1 u2 u3 u4, swar3 _ _ _ _ v1.1 v2.1 v3.1 v4.1 v2.2.2 v3.2.2 v4.2.2, ?_, ?_, ?_, ?_⟩
  · omega
  · omega
  · rw [v1.2.1, v2.2.1, v3.2.1, v4.2.1]
    have := cnt_le a.testBit 8
    have := cnt_le b.testBit 8
    have := cnt_le c.testBit 8
    have := cnt_le d.testBit 8
    omega
  · rw [hy, cnt_four a b c d ha hb hc hd]
    exact fold4 _ _ _ _ (cnt_le _ _) (cnt_le _ _) (cnt_le _ _) (cnt_le _ _) _ (by rw [v1.2.1, v2.2.1, v3.2.1, v4.2.1])

end Go.Proofs.YtphjaebkcimklaaGreatDoor.B

/- Contracts of the sets' functions that only compute; each speaks of numbers of 32 bits. -/
set_option linter.unusedVariables false
set_option linter.unusedSimpArgs false
namespace Go.Proofs.YtphjaebkcimklaaGreatDoor.B
open Go.RowKit

theorem u64_wrap (x : Int) : IntKind.u64.wrap x = x % 18446744073709551616 := rfl
theorem u64_small {x : Int} (h0 : 0 ≤ x) (h1 : x < 17179869184) : IntKind.u64.wrap x = x := by rw [u64_wrap]; omega
theorem and64 (a b : Nat) (ha : a < 17179869184) (hb : b < 18446744073709551616) : bits .and .u64 (a : Int) (b : Int) = ((a &&& b : Nat) : Int) := u64_and_nat a b (by omega) hb
theorem ret_num {k : IntKind} {a b : Int} (h : a = b) : Ending.returned (.int k a) = .returned (.int k b) := by rw [h]

set_option maxHeartbeats 800000 in
theorem ones64_any (y : Nat) (w : World) (hy : y < 4294967296) :
    Calls Tryz.prog 144 #[.int .u64 (y : Int)] w fun e w' => e = .returned (.int .i64 (cnt y.testBit 32 : Nat)) ∧ w = w' := by
  obtain ⟨x1, x2, x3, h1, h2, h3, b1, b2, b3, h4⟩ := swar y hy
  have m1 : bits .and .u64 ((y : Int) / 2) 6148914691236517205 = ((y / 2 &&& 6148914691236517205 : Nat) : Int) := by
    rw [show ((y : Int) / 2) = ((y / 2 : Nat) : Int) by simp]; exact and64 (y / 2) 6148914691236517205 (by omega) (by decide)
  have m2 : bits .and .u64 (y : Int) 6148914691236517205 = ((y &&& 6148914691236517205 : Nat) : Int) := and64 y 6148914691236517205 (by omega) (by decide)
  have e1 : IntKind.u64.wrap (bits .and .u64 ((y : Int) / 2) 6148914691236517205 + bits .and .u64 (y : Int) 6148914691236517205) = (x1 : Int) := by
    rw [m1, m2, ← h1]; exact u64_small (by omega) (by omega)
  have m3 : bits .and .u64 ((x1 : Int) / 4) 3689348814741910323 = ((x1 / 4 &&& 3689348814741910323 : Nat) : Int) := by
    rw [show ((x1 : Int) / 4) = ((x1 / 4 : Nat) : Int) by simp]; exact and64 (x1 / 4) 3689348814741910323 (by omega) (by decide)
  have m4 : bits .and .u64 (x1 : Int) 3689348814741910323 = ((x1 &&& 3689348814741910323 : Nat) : Int) := and64 x1 3689348814741910323 (by omega) (by decide)
  have e2 : IntKind.u64.wrap (bits .and .u64 ((x1 : Int) / 4) 3689348814741910323 + bits .and .u64 (x1 : Int) 3689348814741910323) = (x2 : Int) := by
    rw [m3, m4, ← h2]; exact u64_small (by omega) (by omega)
  have e3 : bits .and .u64 ((x2 : Int) / 16 + (x2 : Int)) 1085102592571150095 = (x3 : Int) := by
    rw [← h3, show ((x2 : Int) / 16 + (x2 : Int)) = ((x2 / 16 + x2 : Nat) : Int) by simp]
    exact and64 (x2 / 16 + x2) 1085102592571150095 (by omega) (by decide)
  have H4 := Lib.hid h4
  clear m1 m2 m3 m4 h1 h2 h3 h4
  go_enter Tryz.func144, Tryz.ntmps144
  go_wp2_with fail
  go_ret
  refine ⟨ret_num ?_, rfl⟩
  rw [i64_and127]
  have h := H4.out
  have hT : ((x3 + x3 / 256 + (x3 + x3 / 256) / 65536 : Nat) : Int) = (x3 : Int) + (x3 : Int) / 256 + ((x3 : Int) + (x3 : Int) / 256) / 65536 := by simp
  rw [← hT]
  have hb : x3 + x3 / 256 + (x3 + x3 / 256) / 65536 < 4294967296 := by omega
  generalize x3 + x3 / 256 + (x3 + x3 / 256) / 65536 = T at *
  omega

theorem below_drewN {B : Nat} {w W : World} (h : Below B w W) (n : Nat) : Below B w (W.drewN n) := ⟨h.os, h.tape, h.output, h.size, h.block⟩

/-- The library's table of the counts of the bytes, as the program holds it. -/
def tabS : ByteArray := { data := (((0 :: 1 :: 1 :: 2 :: 1 :: 2 :: 2 :: 3 :: 1 :: 2 :: 2 :: 3 :: 2 :: 3 :: 3 :: 4 :: 1 :: 2 :: 2 :: 3 :: 2 :: 3 :: 3 :: 4 :: 2 :: 3 :: 3 :: 4 :: 3 :: 4 :: 4 :: 5 :: 1 :: 2 :: 2 :: 3 :: 2 :: 3 :: 3 :: 4 :: 2 :: 3 :: 3 :: 4 :: 3 :: 4 :: 4 :: 5 :: 2 :: 3 :: 3 :: 4 :: 3 :: 4 :: 4 :: 5 :: 3 :: 4 :: 4 :: 5 :: 4 :: 5 :: 5 :: 6 :: [] : List UInt8).append (1 :: 2 :: 2 :: 3 :: 2 :: 3 :: 3 :: 4 :: 2 :: 3 :: 3 :: 4 :: 3 :: 4 :: 4 :: 5 :: 2 :: 3 :: 3 :: 4 :: 3 :: 4 :: 4 :: 5 :: 3 :: 4 :: 4 :: 5 :: 4 :: 5 :: 5 :: 6 :: 2 :: 3 :: 3 :: 4 :: 3 :: 4 :: 4 :: 5 :: 3 :: 4 :: 4 :: 5 :: 4 :: 5 :: 5 :: 6 :: 3 :: 4 :: 4 :: 5 :: 4 :: 5 :: 5 :: 6 :: 4 :: 5 :: 5 :: 6 :: 5 :: 6 :: 6 :: 7 :: [] : List UInt8)).append ((1 :: 2 :: 2 :: 3 :: 2 :: 3 :: 3 :: 4 :: 2 :: 3 :: 3 :: 4 :: 3 :: 4 :: 4 :: 5 :: 2 :: 3 :: 3 :: 4 :: 3 :: 4 :: 4 :: 5 :: 3 :: 4 :: 4 :: 5 :: 4 :: 5 :: 5 :: 6 :: 2 :: 3 :: 3 :: 4 :: 3 :: 4 :: 4 :: 5 :: 3 :: 4 :: 4 :: 5 :: 4 :: 5 :: 5 :: 6 :: 3 :: 4 :: 4 :: 5 :: 4 :: 5 :: 5 :: 6 :: 4 :: 5 :: 5 :: 6 :: 5 :: 6 :: 6 :: 7 :: [] : List UInt8).append (2 :: 3 :: 3 :: 4 :: 3 :: 4 :: 4 :: 5 :: 3 :: 4 :: 4 :: 5 :: 4 :: 5 :: 5 :: 6 :: 3 :: 4 :: 4 :: 5 :: 4 :: 5 :: 5 :: 6 :: 4 :: 5 :: 5 :: 6 :: 5 :: 6 :: 6 :: 7 :: 3 :: 4 :: 4 :: 5 :: 4 :: 5 :: 5 :: 6 :: 4 :: 5 :: 5 :: 6 :: 5 :: 6 :: 6 :: 7 :: 4 :: 5 :: 5 :: 6 :: 5 :: 6 :: 6 :: 7 :: 5 :: 6 :: 6 :: 7 :: 6 :: 7 :: 7 :: 8 :: [] : List UInt8))).toArray }
theorem tab_eq : ({ data := (((0 :: 1 :: 1 :: 2 :: 1 :: 2 :: 2 :: 3 :: 1 :: 2 :: 2 :: 3 :: 2 :: 3 :: 3 :: 4 :: 1 :: 2 :: 2 :: 3 :: 2 :: 3 :: 3 :: 4 :: 2 :: 3 :: 3 :: 4 :: 3 :: 4 :: 4 :: 5 :: 1 :: 2 :: 2 :: 3 :: 2 :: 3 :: 3 :: 4 :: 2 :: 3 :: 3 :: 4 :: 3 :: 4 :: 4 :: 5 :: 2 :: 3 :: 3 :: 4 :: 3 :: 4 :: 4 :: 5 :: 3 :: 4 :: 4 :: 5 :: 4 :: 5 :: 5 :: 6 :: [] : List UInt8).append (1 :: 2 :: 2 :: 3 :: 2 :: 3 :: 3 :: 4 :: 2 :: 3 :: 3 :: 4 :: 3 :: 4 :: 4 :: 5 :: 2 :: 3 :: 3 :: 4 :: 3 :: 4 :: 4 :: 5 :: 3 :: 4 :: 4 :: 5 :: 4 :: 5 :: 5 :: 6 :: 2 :: 3 :: 3 :: 4 :: 3 :: 4 :: 4 :: 5 :: 3 :: 4 :: 4 :: 5 :: 4 :: 5 :: 5 :: 6 :: 3 :: 4 :: 4 :: 5 :: 4 :: 5 :: 5 :: 6 :: 4 :: 5 :: 5 :: 6 :: 5 :: 6 :: 6 :: 7 :: [] : List UInt8)).append ((1 :: 2 :: 2 :: 3 :: 2 :: 3 :: 3 :: 4 :: 2 :: 3 :: 3 :: 4 :: 3 :: 4 :: 4 :: 5 :: 2 :: 3 :: 3 :: 4 :: 3 :: 4 :: 4 :: 5 :: 3 :: 4 :: 4 :: 5 :: 4 :: 5 :: 5 :: 6 :: 2 :: 3 :: 3 :: 4 :: 3 :: 4 :: 4 :: 5 :: 3 :: 4 :: 4 :: 5 :: 4 :: 5 :: 5 :: 6 :: 3 :: 4 :: 4 :: 5 :: 4 :: 5 :: 5 :: 6 :: 4 :: 5 :: 5 :: 6 :: 5 :: 6 :: 6 :: 7 :: [] : List UInt8).append (2 :: 3 :: 3 :: 4 :: 3 :: 4 :: 4 :: 5 :: 3 :: 4 :: 4 :: 5 :: 4 :: 5 :: 5 :: 6 :: 3 :: 4 :: 4 :: 5 :: 4 :: 5 :: 5 :: 6 :: 4 :: 5 :: 5 :: 6 :: 5 :: 6 :: 6 :: 7 :: 3 :: 4 :: 4 :: 5 :: 4 :: 5 :: 5 :: 6 :: 4 :: 5 :: 5 :: 6 :: 5 :: 6 :: 6 :: 7 :: 4 :: 5 :: 5 :: 6 :: 5 :: 6 :: 6 :: 7 :: 5 :: 6 :: 6 :: 7 :: 6 :: 7 :: 7 :: 8 :: [] : List UInt8))).toArray } : ByteArray) = tabS := rfl
theorem tab_size : tabS.size = 256 := by decide +kernel
theorem tab_cnt : ∀ k : Fin 256, (tabS[k.1]'(by rw [tab_size]; exact k.2)).toNat = cnt k.1.testBit 8 := by decide +kernel
theorem tab_index (k : Nat) (hk : k < 256) (w : World) : (Instr.index 9 (.string tabS) (.int .u32 (k : Int))).run Tryz.prog w = .ok (.int .u8 (cnt k.testBit 8 : Nat)) w := by
  rw [run_index_string (P := Tryz.prog) (w := w) 9 _ .u32 (k : Int) Tryz.underlying9, dif_pos ⟨by omega, by rw [tab_size]; omega⟩]
  have h := tab_cnt ⟨k, hk⟩
  simp only [Int.toNat_natCast]
  rw [← h]

set_option maxHeartbeats 800000 in
set_option maxRecDepth 100000 in
theorem ones32_any (y : Nat) (w : World) (hy : y < 4294967296) :
    Calls Tryz.prog 147 #[.int .u32 (y : Int)] w fun e w' => e = .returned (.int .i64 (cnt y.testBit 32 : Nat)) ∧ Below w.heap.size w w' := by
  obtain ⟨a, b, c, d, ha, hb, hc, hd, hyy⟩ := four_bytes y hy
  have hcnt : cnt y.testBit 32 = cnt a.testBit 8 + cnt b.testBit 8 + cnt c.testBit 8 + cnt d.testBit 8 := by rw [hyy]; exact cnt_four a b c d ha hb hc hd
  have m : ∀ z : Nat, z < 4294967296 → bits .and .u32 (z : Int) 255 = ((z % 256 : Nat) : Int) := by
    intro z hz
    have h := u32_and_nat z 255 hz (by decide)
    rw [Nat.and_two_pow_sub_one_eq_mod z 8] at h
    exact h
  have e0 : (y : Int) / 16777216 = (d : Int) := by omega
  have e1 : bits .and .u32 ((y : Int) / 65536) 255 = (c : Int) := by
    rw [show ((y : Int) / 65536) = ((y / 65536 : Nat) : Int) by simp, m _ (by omega)]; omega
  have e2 : bits .and .u32 ((y : Int) / 256) 255 = (b : Int) := by
    rw [show ((y : Int) / 256) = ((y / 256 : Nat) : Int) by simp, m _ (by omega)]; omega
  have e3 : bits .and .u32 (y : Int) 255 = (a : Int) := by
    rw [m _ hy]; omega
  have q0 := tab_index a ha
  have q1 := tab_index b hb
  have q2 := tab_index c hc
  have q3 := tab_index d hd
  have r0 := cnt_le a.testBit 8
  have r1 := cnt_le b.testBit 8
  have r2 := cnt_le c.testBit 8
  have r3 := cnt_le d.testBit 8
  have HC := Lib.hid hcnt
  clear hcnt hyy m
  generalize cnt a.testBit 8 = pa at *
  generalize cnt b.testBit 8 = pb at *
  generalize cnt c.testBit 8 = pc at *
  generalize cnt d.testBit 8 = pd at *
  go_enter Tryz.func147, Tryz.ntmps147
  go_wp2_with fail
  rw [tab_eq]
  go_quiet (fail)
  go_wp2
  go_ret
  refine ⟨ret_num ?_, ?_⟩
  · rw [HC.out]; omega
  · exact below_drewN (Below.refl _ _) nq
end Go.Proofs.YtphjaebkcimklaaGreatDoor.B

/- Contracts of the sets' functions and of the reference's, which read slices of ints; each speaks of sets of 32 bits. -/
set_option linter.unusedVariables false
set_option linter.unusedSimpArgs false
namespace Go.Proofs.YtphjaebkcimklaaGreatDoor.B
open Go.RowKit

theorem max2_num (k k' : IntKind) (x y : Int) : Builtin.max2 (.int k x) (.int k' y) = pure (.int k (if x < y then y else x)) := by simp only [Builtin.max2, gt_iff_lt]
theorem min2_num (k k' : IntKind) (x y : Int) : Builtin.min2 (.int k x) (.int k' y) = pure (.int k (if y < x then y else x)) := by simp only [Builtin.min2]
theorem maxOf_two (ats : Array TypeId) (ty : TypeId) (a b : Value) : Builtin.max_ ats ty #[a, b] = (Builtin.max2 a b >>= fun s => pure s) := by simp only [Builtin.max_, List.foldlM_cons, List.foldlM_nil]
theorem minOf_two (ats : Array TypeId) (ty : TypeId) (a b : Value) : Builtin.min_ ats ty #[a, b] = (Builtin.min2 a b >>= fun s => pure s) := by simp only [Builtin.min_, List.foldlM_cons, List.foldlM_nil]
attribute [local go_sem] max2_num min2_num maxOf_two minOf_two

theorem ret_bool {a b : Bool} (h : a = b) : Ending.returned (.bool a) = .returned (.bool b) := by rw [h]

/-- The set of one number, or of none. -/
def bitN (i : Int) : Nat := if i < 0 ∨ 32 ≤ i then 0 else 2 ^ i.toNat
theorem bitN_lt (i : Int) : bitN i < 4294967296 := by
  unfold bitN
  split
  · omega
  · have : 2 ^ i.toNat ≤ 2 ^ 31 := Nat.pow_le_pow_right (by omega) (by omega)
    omega

theorem bit_any (i : Int) (w : World) : Calls Tryz.prog 143 #[.int .i64 i] w fun e w' => e = .returned (.int .u32 (bitN i : Nat)) ∧ w = w' := by
  by_cases h0 : i < 0
  · have e : bitN i = 0 := by unfold bitN; rw [if_pos (Or.inl h0)]
    rw [e]
    clear e
    go_enter Tryz.func143, Tryz.ntmps143
    go_wp2_with fail
    go_ret
    exact ⟨rfl, rfl⟩
  · by_cases h1 : 32 ≤ i
    · have e : bitN i = 0 := by unfold bitN; rw [if_pos (Or.inr h1)]
      rw [e]
      clear e
      go_enter Tryz.func143, Tryz.ntmps143
      go_wp2_with fail
      go_ret
      exact ⟨rfl, rfl⟩
    · have e : bitN i = 2 ^ i.toNat := by unfold bitN; rw [if_neg (by omega)]
      have hl := bitN_lt i
      rw [e] at hl
      obtain ⟨j, rfl⟩ : ∃ j : Nat, i = j := ⟨i.toNat, by omega⟩
      rw [Int.toNat_natCast] at e hl
      have hw : (2 : Int) ^ j % 4294967296 = ((2 ^ j : Nat) : Int) := by
        have : ((2 ^ j : Nat) : Int) = 2 ^ j := by simp
        omega
      have HE := Lib.hid e
      have HW := Lib.hid hw
      clear e hw hl
      go_enter Tryz.func143, Tryz.ntmps143
      go_wp2_with fail
      go_ret
      exact ⟨ret_num (by rw [HE.out, HW.out]), rfl⟩

theorem with_any (m : Nat) (i : Int) (w : World) (hm : m < 4294967296) :
    Calls Tryz.prog 136 #[.int .u32 (m : Int), .int .i64 i] w fun e w' => e = .returned (.int .u32 ((m ||| bitN i : Nat) : Int)) ∧ w = w' := by
  have ho : bits .or .u32 (m : Int) (bitN i : Nat) = ((m ||| bitN i : Nat) : Int) := by
    have := u32_or (m : Int) (bitN i : Nat) (by omega) (by omega) (by omega) (by have := bitN_lt i; omega)
    simpa using this
  have HO := Lib.hid ho
  clear ho
  go_enter Tryz.func136, Tryz.ntmps136
  go_wp2_with fail
  refine (bit_any _ _).mono ?_
  rintro e w1 ⟨rfl, rfl⟩
  go_wp2
  go_ret
  exact ⟨ret_num HO.out, rfl⟩

theorem count_any (m : Nat) (w : World) (hm : m < 4294967296) :
    Calls Tryz.prog 138 #[.int .u32 (m : Int)] w fun e w' => e = .returned (.int .i64 (cnt m.testBit 32 : Nat)) ∧ Below w.heap.size w w' := by
  go_enter Tryz.func138, Tryz.ntmps138
  go_wp2_with fail
  refine (ones32_any _ _ hm).mono ?_
  rintro e w1 ⟨rfl, hb⟩
  have HB := Lib.hid hb
  clear hb
  go_wp2
  go_ret
  exact ⟨rfl, HB.out⟩

/-- Where a number stands among the 32. -/
def c32 (i : Int) : Nat := (if i < 0 then 0 else if 32 < i then 32 else i).toNat

set_option maxHeartbeats 800000 in
theorem place_any (m : Nat) (i : Int) (w : World) (hm : m < 4294967296) :
    Calls Tryz.prog 135 #[.int .u32 (m : Int), .int .i64 i] w fun e w' => e = .returned (.int .i64 (cnt (m % 2 ^ c32 i).testBit 32 : Nat)) ∧ w = w' := by
  obtain ⟨i1, hi1⟩ : ∃ j : Int, (if i < 0 then 0 else i) = j := ⟨_, rfl⟩
  have hi2 : (if 32 < i1 then 32 else i1) = (c32 i : Int) := by
    rw [← hi1]; unfold c32; (repeat' split) <;> omega
  have hc : c32 i ≤ 32 := by unfold c32; (repeat' split) <;> omega
  generalize c32 i = c at *
  have hp : 0 < 2 ^ c := Nat.two_pow_pos c
  have hp2 : 2 ^ c ≤ 2 ^ 32 := Nat.pow_le_pow_right (by omega) hc
  have hw : IntKind.u64.wrap (2 ^ c) = ((2 ^ c : Nat) : Int) := by
    have : ((2 ^ c : Nat) : Int) = 2 ^ c := by simp
    rw [← this]; exact u64_small (by omega) (by omega)
  have ha : bits .and .u64 (m : Int) (((2 ^ c : Nat) : Int) - 1) = ((m % 2 ^ c : Nat) : Int) := by
    rw [show ((2 ^ c : Nat) : Int) - 1 = ((2 ^ c - 1 : Nat) : Int) by omega, and64 m (2 ^ c - 1) (by omega) (by omega), Nat.and_two_pow_sub_one_eq_mod]
  have hlt : m % 2 ^ c < 4294967296 := Nat.lt_of_le_of_lt (Nat.mod_le _ _) hm
  generalize 2 ^ c = P at hw ha hlt hp hp2
  go_enter Tryz.func135, Tryz.ntmps135
  go_wp2_with fail
  refine (ones64_any _ _ hlt).mono ?_
  rintro e w1 ⟨rfl, rfl⟩
  go_wp2
  go_ret
  exact ⟨rfl, rfl⟩

/-! ### Slices of ints that are read -/
/-- A slice of ints, as it reads: nil, empty and other ones alike. -/
structure RdI (w : World) (A : Option Addr) (n : Nat) (l : List Int) : Prop where
  len : l.length = n
  le : n ≤ 9223372036854775807
  cell : 0 < n → ∃ b o, A = some ⟨b, o, none⟩ ∧ b < w.heap.size ∧ ∀ j, j < n → w.cell? ⟨b, o + j, none⟩ = some (.int .i64 (l.getD j 0))

theorem RdI.below {w w1 : World} {A : Option Addr} {n : Nat} {l : List Int} (h : RdI w A n l) (hb : Below w.heap.size w w1) : RdI w1 A n l :=
  ⟨h.len, h.le, fun hn => by
    obtain ⟨b, o, e, hlt, hc⟩ := h.cell hn
    exact ⟨b, o, e, Nat.lt_of_lt_of_le hlt hb.size, fun j hj => (hb.cell hlt).trans (hc j hj)⟩⟩

/-- What the call owns reads as a slice. -/
theorem RdI.owned {w : World} {base : Nat} {v : Value} {l : List Int} {e : TypeId} (h : w.ownsRow base e 1 v l.length (l.map (Value.int .i64))) :
    ∃ A c, v = .slice A l.length c ∧ RdI w A l.length l ∧ l.length ≤ c ∧ (A = none → c = 0) := by
  rcases h.2 with ⟨rfl, hn⟩ | ⟨g, cap, cur, rfl, hb, hg, hc, hm, hs, ht⟩
  · rw [hn]; exact ⟨none, 0, rfl, ⟨hn, by omega, fun h => by omega⟩, by omega, fun _ => rfl⟩
  · refine ⟨_, cap, rfl, ⟨rfl, by unfold maxLen at hm; omega, fun hn => ⟨g, 0, rfl, (Array.getElem?_eq_some_iff.1 hg).1, fun j hj => ?_⟩⟩, hc, fun h => by cases h⟩
    rw [Nat.zero_add, h.cellAt j (by omega), List.getElem?_map, List.getElem?_eq_getElem hj, List.getD_eq_getElem?_getD, List.getElem?_eq_getElem hj]
    rfl

theorem take_snoc (l : List Int) (j : Nat) (h : j < l.length) : l.take (j + 1) = l.take j ++ [l.getD j 0] := by
  rw [List.take_succ_eq_append_getElem h]; simp [List.getD_eq_getElem?_getD, List.getElem?_eq_getElem h]

/-- The set of some numbers. -/
def ofN (l : List Int) : Nat := l.foldl (fun m i => m ||| bitN i) 0
theorem ofN_snoc (l : List Int) (i : Int) : ofN (l ++ [i]) = ofN l ||| bitN i := by simp [ofN]
theorem ofN_lt (l : List Int) : ofN l < 4294967296 := by
  have gen : ∀ (l : List Int) (m : Nat), m < 2 ^ 32 → l.foldl (fun m i => m ||| bitN i) m < 2 ^ 32 := by
    intro l
    induction l with
    | nil => intro m hm; exact hm
    | cons i r ih => intro m hm; exact ih _ (Nat.or_lt_two_pow hm (bitN_lt i))
  exact gen l 0 (by omega)

set_option maxHeartbeats 800000 in
theorem of_any (A : Option Addr) (n c : Nat) (l : List Int) (w : World) (h : RdI w A n l) :
    Calls Tryz.prog 123 #[.slice A n c] w fun e w' => e = .returned (.int .u32 (ofN l : Nat)) ∧ w = w' := by
  have hle := h.le
  have HC := Lib.hid h.cell
  have HL := Lib.hid h.len
  clear h
  go_enter Tryz.func123, Tryz.ntmps123
  go_wp2
  go_loop [3, 8] (fun a v => ∃ j : Nat, j ≤ n ∧ a = .int .u32 (ofN (l.take j) : Nat) ∧ v = .int .i64 j) (fun _ v => n - (intOf v).toNat)
  case atStart => exact ⟨0, by omega, rfl, rfl⟩
  case round =>
    obtain ⟨j, hj, rfl, rfl⟩ := hrel
    by_cases hlt : j < n
    · obtain ⟨b, o, hA, _, hc⟩ := HC.out (by omega)
      subst hA
      have hcj := hc j hlt
      have hnum := ofN_snoc (l.take j) (l.getD j 0)
      rw [← take_snoc l j (by have := HL.out; omega)] at hnum
      have hm := ofN_lt (l.take j)
      generalize l.getD j 0 = d at *
      generalize ofN (l.take j) = m at *
      have HN := Lib.hid hnum
      clear hnum hc
      go_wp2_with fail
      refine (with_any _ _ _ hm).mono ?_
      rintro e w1 ⟨rfl, rfl⟩
      rw [← HN.out]
      go_wp2_with fail
      go_round
      case rel => exact ⟨j + 1, by omega, rfl, by go_num⟩
      case measure => simp [intOf]; omega
    · go_wp2
      go_ret
      exact ⟨ret_num (by rw [List.take_of_length_le (by have := HL.out; omega)]), rfl⟩

/-- How many of some are less than a number. -/
def lessN (l : List Int) (x : Int) : Nat := (l.filter (· < x)).length
theorem lessN_snoc (l : List Int) (d x : Int) : lessN (l ++ [d]) x = lessN l x + if d < x then 1 else 0 := by
  unfold lessN
  rw [List.filter_append]
  by_cases h : d < x <;> simp [h]
theorem lessN_le (l : List Int) (x : Int) : lessN l x ≤ l.length := List.length_filter_le _ _

/-- A set's number, its lowest bits left out: of the numbers from 32 - d on. -/
def numG (l : List Int) : Nat → Nat
  | 0 => 0
  | d + 1 => 2 * numG l d + if ((31 - (d : Int)) ∈ l) then 1 else 0
theorem numG_lt (l : List Int) : ∀ d, numG l d < 2 ^ d
  | 0 => by simp [numG]
  | d + 1 => by
    rw [numG, Nat.pow_succ]
    have := numG_lt l d
    split <;> omega

theorem without_any (m : Nat) (i : Int) (w : World) (hm : m < 4294967296) :
    Calls Tryz.prog 148 #[.int .u32 (m : Int), .int .i64 i] w fun e w' => e = .returned (.int .u32 ((m &&& (4294967295 - bitN i) : Nat) : Int)) ∧ w = w' := by
  have ho : bits .andNot .u32 (m : Int) (bitN i : Nat) = ((m &&& (4294967295 - bitN i) : Nat) : Int) := u32_andNot_nat _ _ hm (bitN_lt i)
  have HO := Lib.hid ho
  clear ho
  go_enter Tryz.func148, Tryz.ntmps148
  go_wp2_with fail
  refine (bit_any _ _).mono ?_
  rintro e w1 ⟨rfl, rfl⟩
  go_wp2
  go_ret
  exact ⟨ret_num HO.out, rfl⟩

theorem has_any (m : Nat) (i : Int) (w : World) (hm : m < 4294967296) :
    Calls Tryz.prog 134 #[.int .u32 (m : Int), .int .i64 i] w fun e w' => e = .returned (.bool (m &&& bitN i != 0)) ∧ w = w' := by
  have ho : bits .and .u32 (m : Int) (bitN i : Nat) = ((m &&& bitN i : Nat) : Int) := u32_and_nat _ _ hm (bitN_lt i)
  have HO := Lib.hid ho
  clear ho
  go_enter Tryz.func134, Tryz.ntmps134
  go_wp2_with fail
  refine (bit_any _ _).mono ?_
  rintro e w1 ⟨rfl, rfl⟩
  go_wp2
  go_ret
  exact ⟨ret_bool (by rw [HO.out, Bool.eq_iff_iff]; simp), rfl⟩

end Go.Proofs.YtphjaebkcimklaaGreatDoor.B

/- The contract of the reference's list of a set, and the fixed example of the laws. -/
set_option linter.unusedVariables false
set_option linter.unusedSimpArgs false
namespace Go.Proofs.YtphjaebkcimklaaGreatDoor.B
open Go.RowKit

/-- The numbers of a set, as far as some place. -/
def listN (m : Nat) (j : Nat) : List Int := ((List.range j).filter m.testBit).map fun k : Nat => (k : Int)
theorem listN_len (m j : Nat) : (listN m j).length = cnt m.testBit j := by unfold listN; rw [List.length_map, cnt_filter]
theorem listN_succ (m j : Nat) : listN m (j + 1) = if m.testBit j then listN m j ++ [(j : Int)] else listN m j := by
  unfold listN
  rw [List.range_succ, List.filter_append, List.map_append]
  cases h : m.testBit j <;> simp [h]

theorem one_cell (x : Int) : ∀ u ∈ [Value.int .i64 x], u.oneCell' = true := by intro u hu; simp at hu; subst hu; rfl

/-! ### The plain laws -/
theorem bitN_test (i : Int) (k : Nat) : (bitN i).testBit k = decide (i = (k : Int) ∧ k < 32) := by
  unfold bitN
  split
  · rename_i h
    rw [Nat.zero_testBit]; symm; simp; omega
  · rename_i h
    rw [Nat.testBit_two_pow]
    rw [Bool.eq_iff_iff]; simp; omega

theorem ofN_test (l : List Int) (k : Nat) : (ofN l).testBit k = decide ((k : Int) ∈ l ∧ k < 32) := by
  have gen : ∀ (l : List Int) (m : Nat), (l.foldl (fun m i => m ||| bitN i) m).testBit k = (m.testBit k || decide ((k : Int) ∈ l ∧ k < 32)) := by
    intro l
    induction l with
    | nil => intro m; simp
    | cons i r ih =>
      intro m
      rw [List.foldl_cons, ih, Nat.testBit_or, bitN_test]
      rw [Bool.eq_iff_iff]
      simp only [Bool.or_eq_true, decide_eq_true_eq, List.mem_cons]
      constructor
      · rintro ((h | h) | h)
        · exact .inl h
        · exact .inr ⟨.inl h.1.symm, h.2⟩
        · exact .inr ⟨.inr h.1, h.2⟩
      · rintro (h | ⟨h | h, h2⟩)
        · exact .inl (.inl h)
        · exact .inl (.inr ⟨h.symm, h2⟩)
        · exact .inr ⟨h, h2⟩
  have := gen l 0
  simpa [ofN] using this

theorem numG_test (l : List Int) : ∀ d, d ≤ 32 → ∀ k, (numG l d).testBit k = decide (k < d ∧ (32 - (d : Int) + k) ∈ l)
  | 0, _, k => by simp [numG]
  | d + 1, hd, k => by
    have ih := numG_test l d (by omega)
    cases k with
    | zero =>
      rw [Nat.testBit_zero, numG, Bool.eq_iff_iff]
      simp only [decide_eq_true_eq]
      rw [show (32 - ((d + 1 : Nat) : Int) + ((0 : Nat) : Int)) = 31 - (d : Int) by omega]
      split
      · rename_i h; constructor
        · intro _; exact ⟨by omega, h⟩
        · intro _; omega
      · rename_i h; constructor
        · intro _; omega
        · intro h2; exact absurd h2.2 h
    | succ k =>
      rw [Nat.testBit_succ, numG]
      have e : (2 * numG l d + if (31 - (d : Int)) ∈ l then 1 else 0) / 2 = numG l d := by split <;> omega
      rw [e, ih, Bool.eq_iff_iff]
      simp only [decide_eq_true_eq]
      rw [show (32 - ((d + 1 : Nat) : Int) + ((k + 1 : Nat) : Int)) = 32 - (d : Int) + k by omega]
      constructor
      · intro h; exact ⟨by omega, h.2⟩
      · intro h; exact ⟨by omega, h.2⟩

theorem num_test (l : List Int) (k : Nat) : (numG l 32).testBit k = decide ((k : Int) ∈ l ∧ k < 32) := by
  rw [numG_test l 32 (by omega), Bool.eq_iff_iff]
  simp only [decide_eq_true_eq]
  rw [show (32 - ((32 : Nat) : Int) + (k : Int)) = k by omega]
  exact And.comm

/-- The set of any numbers is what the reference says. -/
theorem of_eq (l : List Int) : ofN l = numG l 32 := Nat.eq_of_testBit_eq fun k => by rw [ofN_test, num_test]

theorem mem_listN (m : Nat) (j : Nat) (x : Int) : x ∈ listN m j ↔ ∃ k : Nat, k < j ∧ m.testBit k = true ∧ x = k := by
  unfold listN
  simp only [List.mem_map, List.mem_filter, List.mem_range]
  constructor
  · rintro ⟨k, ⟨h1, h2⟩, h3⟩; exact ⟨k, h1, h2, h3.symm⟩
  · rintro ⟨k, h1, h2, h3⟩; exact ⟨k, ⟨h1, h2⟩, h3.symm⟩

theorem test_big {m k : Nat} (hm : m < 4294967296) (hk : 32 ≤ k) : m.testBit k = false := by
  have h : (2 : Nat) ^ 32 ≤ 2 ^ k := Nat.pow_le_pow_right (by omega) hk
  exact Nat.testBit_lt_two_pow (by omega)

theorem has_eq (m : Nat) (i : Int) (hm : m < 4294967296) : (m &&& bitN i != 0) = decide (i ∈ listN m 32) := by
  rw [Bool.eq_iff_iff]
  simp only [bne_iff_ne, ne_eq, decide_eq_true_eq, mem_listN]
  constructor
  · intro h
    obtain ⟨k, hk⟩ := Nat.exists_testBit_of_ne_zero h
    rw [Nat.testBit_and, bitN_test] at hk
    simp only [Bool.and_eq_true, decide_eq_true_eq] at hk
    exact ⟨k, hk.2.2, hk.1, hk.2.1⟩
  · rintro ⟨k, h1, h2, rfl⟩ h
    have := congrArg (fun z => z.testBit k) h
    simp only [Nat.testBit_and, bitN_test, Nat.zero_testBit] at this
    rw [h2] at this
    simp at this; omega

theorem less_eq (m : Nat) (i : Int) (hm : m < 4294967296) : cnt (m % 2 ^ c32 i).testBit 32 = lessN (listN m 32) i := by
  unfold lessN listN
  rw [List.filter_map, List.length_map, List.filter_filter, cnt_filter]
  apply cnt_congr
  intro k hk
  rw [Nat.testBit_mod_two_pow]
  have : (k < c32 i) ↔ ((k : Int) < i) := by unfold c32; (repeat' split) <;> omega
  rw [Bool.eq_iff_iff]
  simp [this]

theorem with_eq (m : Nat) (i : Int) (hm : m < 4294967296) : m ||| bitN i = numG (listN m 32 ++ [i]) 32 := by
  apply Nat.eq_of_testBit_eq
  intro k
  rw [Nat.testBit_or, bitN_test, num_test, Bool.eq_iff_iff]
  simp only [Bool.or_eq_true, decide_eq_true_eq, List.mem_append, List.mem_singleton, mem_listN]
  constructor
  · rintro (h | h)
    · have hk : k < 32 := by
        rcases Nat.lt_or_ge k 32 with h2 | h2
        · exact h2
        · rw [test_big hm h2] at h; exact absurd h (by simp)
      exact ⟨.inl ⟨k, hk, h, rfl⟩, hk⟩
    · exact ⟨.inr h.1.symm, h.2⟩
  · rintro ⟨⟨q, h1, h2, h3⟩ | h, hk⟩
    · have : k = q := by omega
      subst this; exact .inl h2
    · exact .inr ⟨h.symm, hk⟩

theorem without_eq (m : Nat) (i : Int) (hm : m < 4294967296) : m &&& (4294967295 - bitN i) = numG ((listN m 32).filter (· ≠ i)) 32 := by
  apply Nat.eq_of_testBit_eq
  intro k
  have e : 4294967295 - bitN i = 2 ^ 32 - (bitN i + 1) := by omega
  rw [Nat.testBit_and, e, Nat.testBit_two_pow_sub_succ (by have := bitN_lt i; omega), bitN_test, num_test, Bool.eq_iff_iff]
  simp only [Bool.and_eq_true, Bool.not_eq_true', decide_eq_true_eq, decide_eq_false_iff_not, List.mem_filter, mem_listN]
  constructor
  · rintro ⟨h1, h2, h3⟩
    exact ⟨⟨⟨k, h2, h1, rfl⟩, fun h => h3 ⟨h.symm, h2⟩⟩, h2⟩
  · rintro ⟨⟨⟨q, h1, h2, h3⟩, h4⟩, hk⟩
    have : k = q := by omega
    subst this
    exact ⟨h2, hk, fun h => h4 h.1.symm⟩

end Go.Proofs.YtphjaebkcimklaaGreatDoor.B

/- The set's iterator (All): its contract: all its numbers come, rising, as long as a round goes on. -/
set_option linter.unusedVariables false
set_option linter.unusedSimpArgs false
namespace Go.Proofs.YtphjaebkcimklaaGreatDoor.B
open Go.RowKit Go.Shelf

/-- The library's table lies where the program holds it. -/
def TabOK (w : World) : Prop := 2 < w.heap.size ∧ ∀ i, i < 32 → w.cell? ⟨2, i, none⟩ = some (.int .u8 (Lib.deBruijn32tab.getD i 0 : Nat))
theorem TabOK.below {w w1 : World} {n : Nat} (h : TabOK w) (hn : 2 < n) (hs : n ≤ w.heap.size) (hb : Below n w w1) : TabOK w1 :=
  ⟨Nat.lt_of_lt_of_le h.1 hb.size, fun i hi => (hb.cell (p := ⟨2, i, none⟩) hn).trans (h.2 i hi)⟩

theorem u32_wrap (x : Int) : IntKind.u32.wrap x = x % 4294967296 := rfl

theorem tz_key (x a : Nat) (hx : x < 4294967296) (hx0 : x ≠ 0) (hlow : x &&& (4294967296 - x) = a) :
    bits BinOp.and IntKind.u32 (x : Int) (-(x : Int) % 4294967296) * 125613361 % 4294967296 / 134217728 = ((a * 125613361 % 4294967296 / 134217728 : Nat) : Int) := by
  have e1 : -(x : Int) % 4294967296 = ((4294967296 - x : Nat) : Int) := by omega
  rw [e1, u32_and_nat x _ hx (by omega), hlow]
  omega

theorem tz_core (x k idx : Nat) (w : World) (hx0 : ((x : Int) == 0) = false)
    (key : bits BinOp.and IntKind.u32 (x : Int) (-(x : Int) % 4294967296) * 125613361 % 4294967296 / 134217728 = (idx : Int))
    (hi : idx < 32) (hk : k < 32) (hcell : w.cell? ⟨2, idx, none⟩ = some (.int .u8 k)) :
    Calls Tryz.prog 146 #[.int .u32 x] w fun e w' => e = .returned (.int .i64 k) ∧ w = w' := by
  go_enter Tryz.func146, Tryz.ntmps146
  go_wp2_with (simp only [key])
  go_ret
  exact ⟨rfl, rfl⟩

theorem tz_any (x : Nat) (hx : x < 4294967296) (hx0 : x ≠ 0) (w : World) (hT : TabOK w) :
    Calls Tryz.prog 146 #[.int .u32 (x : Int)] w fun e w' => e = .returned (.int .i64 (Lib.ctz 32 x : Nat)) ∧ w = w' := by
  obtain ⟨hlow, hk⟩ := Lib.lowest_bit 32 x hx0 hx
  obtain ⟨hi, htab⟩ := Lib.deBruijn32_at _ hk
  have hcell := hT.2 _ hi
  rw [htab] at hcell
  exact tz_core x _ _ w (by simp; omega) (tz_key x _ hx hx0 hlow) hi hk hcell

/-! ### What is left of a set when its lowest number is taken -/
theorem left_next (y : Nat) (h0 : y ≠ 0) (h : y < 4294967296) :
    (∀ k, (y &&& (y - 1)).testBit k = (y.testBit k && decide (k ≠ Lib.ctz 32 y))) ∧ y.testBit (Lib.ctz 32 y) = true ∧ (∀ k, k < Lib.ctz 32 y → y.testBit k = false) ∧ Lib.ctz 32 y < 32 ∧ (y &&& (y - 1)) < y := by
  have hk := (Lib.lowest_bit 32 y h0 h).2
  obtain ⟨m, hm, _⟩ := Lib.ctzFrom_spec 32 y (by omega) h
  have e : Lib.ctz 32 y = Lib.ctzFrom 32 y := by unfold Lib.ctz; rw [if_neg h0]
  rw [e] at hk ⊢
  generalize Lib.ctzFrom 32 y = t at *
  have hp : 0 < 2 ^ t := Nat.pow_pos (by omega)
  have e1 : y = 2 ^ (t + 1) * m + 2 ^ t := by rw [hm, Nat.pow_succ, Nat.mul_add, Nat.mul_one, ← Nat.mul_assoc]
  have e2 : y - 1 = 2 ^ (t + 1) * m + (2 ^ t - 1) := by omega
  have hl1 : 2 ^ t < 2 ^ (t + 1) := by rw [Nat.pow_succ]; omega
  have hl2 : 2 ^ t - 1 < 2 ^ (t + 1) := by omega
  have ht : ∀ k, y.testBit k = if k < t + 1 then decide (k = t) else m.testBit (k - (t + 1)) := by
    intro k
    rw [e1, Nat.testBit_two_pow_mul_add _ hl1, Nat.testBit_two_pow]
    simp only [eq_comm]
  have ht1 : ∀ k, (y - 1).testBit k = if k < t + 1 then decide (k < t) else m.testBit (k - (t + 1)) := by
    intro k
    rw [e2, Nat.testBit_two_pow_mul_add _ hl2, Nat.testBit_two_pow_sub_one]
  refine ⟨fun k => ?_, ?_, fun k hk2 => ?_, hk, ?_⟩
  · rw [Nat.testBit_and, ht, ht1]
    by_cases h1 : k < t + 1
    · simp only [h1, if_true]
      by_cases h2 : k = t
      · subst h2; simp
      · simp [h2]
    · simp only [h1, if_false]
      have : k ≠ t := by omega
      simp [this]
  · rw [ht]; simp
  · rw [ht, if_pos (by omega)]; simp; omega
  · have h2 : y &&& (y - 1) ≤ y - 1 := Nat.and_le_right
    omega

theorem listN_next (y : Nat) (h0 : y ≠ 0) (h : y < 4294967296) : listN y 32 = (Lib.ctz 32 y : Int) :: listN (y &&& (y - 1)) 32 := by
  obtain ⟨h1, h2, h3, h4, _⟩ := left_next y h0 h
  generalize Lib.ctz 32 y = t at *
  generalize (y &&& (y - 1)) = z at *
  have key : ∀ j, (j ≤ t → listN y j = []) ∧ (j ≤ t + 1 → listN z j = []) ∧ (t < j → listN y j = (t : Int) :: listN z j) := by
    intro j
    induction j with
    | zero => exact ⟨fun _ => rfl, fun _ => rfl, fun h => by omega⟩
    | succ j ih =>
      obtain ⟨i1, i2, i3⟩ := ih
      refine ⟨fun hj => ?_, fun hj => ?_, fun hj => ?_⟩
      · rw [listN_succ, h3 j (by omega), i1 (by omega)]; rfl
      · rw [listN_succ, h1 j, i2 (by omega)]
        by_cases e : j = t
        · simp [e]
        · rw [h3 j (by omega)]; rfl
      · rw [listN_succ, listN_succ, h1 j]
        by_cases e : j = t
        · subst e
          rw [h2, i1 (Nat.le_refl _), i2 (by omega)]; simp
        · rw [i3 (by omega)]
          simp only [e, ne_eq, not_false_eq_true, decide_true, Bool.and_true]
          split <;> rfl
  exact (key 32).2.2 h4

theorem listN_zero (j : Nat) : listN 0 j = [] := by
  induction j with
  | zero => rfl
  | succ j ih => rw [listN_succ, ih]; simp

/-! ### The iterator -/
attribute [local go_sem] Oper.semAt_some
/-- The temporary's number. -/
def u32Of (v : Value) : Nat := (intOf v).toNat

set_option maxRecDepth 100000 in
set_option maxHeartbeats 3200000 in
theorem all1_in (l Bn n₀ m : Nat) (hm : m < 4294967296) (hn₀ : 2 < n₀) (J Jx : List Int → World → Prop)
    (hY : ∀ pre x W, J pre W → pre.length < 32 → YieldAt Fence.wide 4 Tryz.prog l #[.int .i64 x] W fun e W' =>
      (e = .returned (.bool true) ∧ J (pre ++ [x]) W' ∧ Below n₀ W W') ∨ (e = .returned (.bool false) ∧ Jx (pre ++ [x]) W'))
    (W : World) (hBn : W.cell? ⟨Bn, 0, none⟩ = some (.int .u32 (m : Int))) (hs : n₀ ≤ W.heap.size) (hT : TabOK W) (h0 : J [] W) :
    CallsIn Fence.wide 5 Tryz.prog 145 #[.func (.yield l) #[] #[], .pointer (some ⟨Bn, 0, none⟩)] W fun e W' => (∃ v, e = .returned v) ∧
      ((∃ ys, ys = listN m 32 ∧ J ys W') ∨ (∃ pre, (pre <+: listN m 32) ∧ Jx pre W')) := by
  have h1 : 1 ≤ 5 := by omega
  refine callsIn_of_wp Tryz.func145 rfl trivial ?_ rfl
  simp only [Tryz.ntmps145, List.size_toArray, List.length_cons, List.length_nil, Nat.reduceAdd, Nat.reduceSub, Array.replicate_succ, Array.replicate_zero, List.push_toArray, List.append_toArray, List.nil_append, List.cons_append]
  gi_wp2
  gi_loopw [3] (fun p wr => ∃ (pre : List Int) (y : Nat), p = .int .u32 (y : Int) ∧ y < 4294967296 ∧ listN m 32 = pre ++ listN y 32 ∧ n₀ ≤ wr.heap.size ∧ TabOK wr ∧ J pre wr)
    (fun p wr => u32Of p)
  case atStart => exact ⟨[], m, rfl, hm, rfl, hs, hT, h0⟩
  case round =>
    obtain ⟨pre, y, rfl, hy, hx, hsz, hTr, hJs⟩ := hrel
    by_cases hy0 : y = 0
    · subst hy0
      gi_wp2
      go_end0
      exact ⟨⟨_, rfl⟩, .inl ⟨pre, by rw [hx, listN_zero, List.append_nil], hJs⟩⟩
    · have hne : ((y : Int) != 0) = true := by rw [bne_iff_ne]; omega
      have hnx := listN_next y hy0 hy
      obtain ⟨_, _, _, ht32, hlt⟩ := left_next y hy0 hy
      have hlen : pre.length < 32 := by
        have := congrArg List.length hx
        rw [hnx, listN_len, List.length_append, List.length_cons] at this
        have := cnt_le m.testBit 32
        omega
      have hand : bits .and .u32 (y : Int) ((y : Int) - 1) = ((y &&& (y - 1) : Nat) : Int) := by
        rw [show ((y : Int) - 1) = ((y - 1 : Nat) : Int) by omega]
        exact u32_and_nat y (y - 1) hy (by omega)
      have htz := callsIn_wide (n := 4).2 (tz_any y hy hy0 wr hTr)
      have HX := Lib.hid hx
      have HNX := Lib.hid hnx
      have HTR := Lib.hid hTr
      obtain ⟨fn, tmps, assign, body, hyy, hR⟩ := hY pre (Lib.ctz 32 y : Int) wr hJs hlen
      generalize Lib.ctz 32 y = t at *
      clear hx hnx
      have HL := Lib.hid (hlt : (y &&& (y - 1)) < y)
      generalize (y &&& (y - 1)) = z at *
      gi_wp2_with (refine ⟨trivial, ?_⟩; gi_at_call 146; refine htz.mono ?_; rintro e w' ⟨rfl, rfl⟩)
      refine hR.mono ?_
      rintro e W3 (⟨rfl, hJ3, hk3⟩ | ⟨rfl, hJx3⟩)
      · have HT3 := Lib.hid (HTR.out.below hn₀ hsz hk3)
        have hs3 : n₀ ≤ W3.heap.size := Nat.le_trans hsz hk3.size
        gi_wp2
        go_roundw
        case rel => exact ⟨pre ++ [(t : Int)], z, by first | rfl | (rw [hand]), by have := HL.out; omega, by rw [HX.out, HNX.out]; simp, hs3, HT3.out, hJ3⟩
        case measure => have := HL.out; simp [u32Of, intOf, hand]; try omega
      · gi_wp2
        refine bodyPost_ret (results_none rfl _ _ _) rfl ?_
        exact ⟨⟨_, rfl⟩, .inr ⟨pre ++ [(t : Int)], ⟨listN z 32, by rw [HX.out, HNX.out]; simp⟩, hJx3⟩⟩

/-- The iterator's contract: all the numbers come, rising; it stops where a round says so. -/
theorem all_stops (Bn n₀ m : Nat) (hm : m < 4294967296) (hn₀ : 2 < n₀) (w : World) (hB : n₀ ≤ Bn) (hBl : Bn < w.heap.size) (hBn : w.cell? ⟨Bn, 0, none⟩ = some (.int .u32 (m : Int))) (hT : TabOK w) :
    SeqStopsK Fence.wide 5 Tryz.prog 145 #[.pointer (some ⟨Bn, 0, none⟩)] (fun x : Int => #[.int .i64 x]) (Below n₀) (fun xs => xs = listN m 32) (fun pre => pre <+: listN m 32) 32 w := fun l J Jx W hW hJ hJx hY h0 =>
  all1_in l Bn n₀ m hm hn₀ J Jx hY W ((hW.cell (p := ⟨Bn, 0, none⟩) hBl).trans hBn) (by have := hW.size; omega) (hT.below (by omega) (Nat.le_refl _) hW) h0

theorem allf_any (m : Nat) (w : World) :
    Calls Tryz.prog 137 #[.int .u32 (m : Int)] w fun e w' => e = .returned (.func (.func 145) #[] #[.pointer (some ⟨w.heap.size, 0, none⟩)]) ∧ w' = w.alloc (.cells #[.int .u32 (m : Int)] 186) := by
  go_enter Tryz.func137, Tryz.ntmps137
  go_wp2
  go_ret
  exact ⟨rfl, rfl⟩

end Go.Proofs.YtphjaebkcimklaaGreatDoor.B

/- The set's Nth: the number of which so many are less. -/
set_option linter.unusedVariables false
set_option linter.unusedSimpArgs false
namespace Go.Proofs.YtphjaebkcimklaaGreatDoor.B
open Go.RowKit Go.Shelf
attribute [local go_sem] Oper.semAt_some

theorem cell_of_box_l {W : World} {B : Nat} {v : Value} {t : TypeId} (h : W.heap[B]? = some (.cells #[v] t (0, 0))) : W.cell? ⟨B, 0, none⟩ = some v ∧ W.frozen? ⟨B, 0, none⟩ = false := by
  constructor <;> simp [World.cell?, World.frozen?, h]
theorem set_far (W : World) (p q : Nat) (v : Value) (h : p ≠ q) : (W.setCell ⟨p, 0, none⟩ v).cell? ⟨q, 0, none⟩ = W.cell? ⟨q, 0, none⟩ := World.cell?_setCell_other _ _ _ _ (fun e => h (congrArg Addr.block e))
theorem cell_new_l (W : World) (v : Value) (t : TypeId) : (W.alloc (.cells #[v] t)).cell? ⟨W.heap.size, 0, none⟩ = some v ∧ (W.alloc (.cells #[v] t)).frozen? ⟨W.heap.size, 0, none⟩ = false :=
  cell_of_box_l (World.alloc_heap_new W _)
theorem cell_alloc_l {W : World} {a : Addr} {v : Value} (o : Obj) (h : W.cell? a = some v) : (W.alloc o).cell? a = some v := cell_kept h (World.grownBy_alloc W o none) (fun r e => by cases e)
theorem frozen_alloc_l {W : World} {a : Addr} {v : Value} (o : Obj) (h : W.cell? a = some v) (hf : W.frozen? a = false) : (W.alloc o).frozen? a = false := (frozen_kept h (World.grownBy_alloc W o none) (fun r e => by cases e)).trans hf

set_option maxRecDepth 100000 in
set_option maxHeartbeats 2000000 in
theorem nth_any (m : Nat) (k : Int) (w : World) (hm : m < 4294967296) (hk : -9223372036854775808 ≤ k ∧ k < 9223372036854775808) (hT : TabOK w) :
    Calls Tryz.prog 150 #[.int .u32 (m : Int), .int .i64 k] w fun e w' =>
      ((∃ j : Nat, k = j ∧ j < (listN m 32).length ∧ e = .returned (.tuple #[.int .i64 ((listN m 32).getD j 0), .bool true])) ∨
        ((k < 0 ∨ (listN m 32).length ≤ k) ∧ e = .returned (.tuple #[.int .i64 0, .bool false]))) ∧ Below w.heap.size w w' := by
  refine (callsIn_wide (n := 6)).1 ?_
  have h1 : 1 ≤ 6 := by omega
  refine callsIn_of_wp_marks Tryz.func150 rfl trivial ?_ rfl
  simp only [Tryz.ntmps150, List.size_toArray, List.length_cons, List.length_nil, Nat.reduceAdd, Nat.reduceSub, Array.replicate_succ, Array.replicate_zero, List.push_toArray, List.append_toArray, List.nil_append, List.cons_append]
  have c0 := cell_new_l w (.int .i64 k) 3
  have c1 := cell_new_l (w.alloc (.cells #[.int .i64 k] 3)) (.int .i64 0) 3
  have c2 := cell_new_l ((w.alloc (.cells #[.int .i64 k] 3)).alloc (.cells #[.int .i64 0] 3)) (.bool false) 4
  have c3 := cell_new_l (((w.alloc (.cells #[.int .i64 k] 3)).alloc (.cells #[.int .i64 0] 3)).alloc (.cells #[.bool false] 4)) (.int .u32 (m : Int)) 186
  simp only [World.size_alloc] at c1 c2 c3
  have hB0 : Below w.heap.size w ((((w.alloc (.cells #[.int .i64 k] 3)).alloc (.cells #[.int .i64 0] 3)).alloc (.cells #[.bool false] 4)).alloc (.cells #[.int .u32 (m : Int)] 186)) := ((((Below.refl _ w).alloc (Nat.le_refl _) _).alloc (by simp) _).alloc (by simp; omega) _).alloc (by simp; omega) _
  gi_wp2_with (refine ⟨trivial, ?_⟩; gi_at_call 137; refine (callsIn_wide.2 (allf_any m _)).mono ?_; rintro e w' ⟨rfl, rfl⟩)
  refine wpIn_rangeFunc_ownF rfl h1 (gf := 145) (lb := #[.pointer (some ⟨w.heap.size + 1 + 1 + 1, 0, none⟩)]) rfl trivial (enters_of Tryz.func145 (by kernel_rfl) rfl)
    (all_stops (w.heap.size + 1 + 1 + 1) w.heap.size m hm hT.1 _ (by omega) (by simp) c3.1 (hT.below hT.1 (Nat.le_refl _) hB0)) belowK_t (belowK_b (by simp; omega)) (Below.refl _ _) (fun _ => rfl)
    (fun pre W => ((∀ j : Nat, j < pre.length → k ≠ j) ∧ W.cell? ⟨w.heap.size, 0, none⟩ = some (.int .i64 (wrap64 (k - pre.length))) ∧ W.frozen? ⟨w.heap.size, 0, none⟩ = false ∧
        (W.cell? ⟨w.heap.size + 1, 0, none⟩ = some (.int .i64 0) ∧ W.frozen? ⟨w.heap.size + 1, 0, none⟩ = false) ∧
        (W.cell? ⟨w.heap.size + 1 + 1, 0, none⟩ = some (.bool false) ∧ W.frozen? ⟨w.heap.size + 1 + 1, 0, none⟩ = false)) ∧ Below w.heap.size w W)
    (fun c pre W => (c = .ret ∧ ∃ j : Nat, k = j ∧ pre.length = j + 1 ∧ W.cell? ⟨w.heap.size + 1, 0, none⟩ = some (.int .i64 (pre.getD j 0)) ∧ W.cell? ⟨w.heap.size + 1 + 1, 0, none⟩ = some (.bool true)) ∧ Below w.heap.size w W)
    (OwnFrom.and (Own.from (fun s A B row hs hg hr => ⟨hs.1, cell_kept hs.2.1 hg hr, (frozen_kept hs.2.1 hg hr).trans hs.2.2.1, ⟨cell_kept hs.2.2.2.1.1 hg hr, (frozen_kept hs.2.2.2.1.1 hg hr).trans hs.2.2.2.1.2⟩, ⟨cell_kept hs.2.2.2.2.1 hg hr, (frozen_kept hs.2.2.2.2.1 hg hr).trans hs.2.2.2.2.2⟩⟩) _) (ownFrom_below (Nat.le_refl _) (by simp; omega)))
    (fun c => OwnFrom.and (Own.from (fun s A B row hs hg hr => by
      obtain ⟨h1, j, h2, h3, h4, h5⟩ := hs
      exact ⟨h1, j, h2, h3, cell_kept h4 hg hr, cell_kept h5 hg hr⟩) _) (ownFrom_below (Nat.le_refl _) (by simp; omega)))
    ⟨⟨by simp, by
      have e : wrap64 (k - (([] : List Int).length : Nat)) = k := by simp [wrap64]; omega
      rw [e]; exact cell_alloc_l _ (cell_alloc_l _ (cell_alloc_l _ c0.1)), frozen_alloc_l _ (cell_alloc_l _ (cell_alloc_l _ c0.1)) (frozen_alloc_l _ (cell_alloc_l _ c0.1) (frozen_alloc_l _ c0.1 c0.2)),
      ⟨cell_alloc_l _ (cell_alloc_l _ c1.1), frozen_alloc_l _ (cell_alloc_l _ c1.1) (frozen_alloc_l _ c1.1 c1.2)⟩, ⟨cell_alloc_l _ c2.1, frozen_alloc_l _ c2.1 c2.2⟩⟩, hB0⟩
    (fun x => { tmps := #[.int .u32 (m : Int), .int .i64 k, undef, .pointer (some ⟨w.heap.size, 0, none⟩), .pointer (some ⟨w.heap.size + 1, 0, none⟩), .pointer (some ⟨w.heap.size + 1 + 1, 0, none⟩), .int .i64 x, .int .u32 (m : Int), .func (.func 145) #[] #[.pointer (some ⟨w.heap.size + 1 + 1 + 1, 0, none⟩)], .int .i64 x, undef, undef, undef, undef, undef], defers := [] }) ?assign ?body ?done ?stop
  case assign =>
    intro l x W K hK
    gi_wp2
    exact hK
  case body =>
    rintro l pre x W ⟨⟨hp, hc, hf, ⟨hc1, hf1⟩, ⟨hc2, hf2⟩⟩, hB⟩ hlen
    by_cases hx : k = (pre.length : Nat)
    · have e : wrap64 (k - (pre.length : Nat)) = 0 := by rw [hx]; simp [wrap64]
      rw [e] at hc
      gi_wp2
      refine ⟨(KeepsOthers.setCell _ _ _).trans (KeepsOthers.setCell _ _ _), ⟨rfl, pre.length, hx, by simp, ?_, ?_⟩, (hB.setCell (p := ⟨w.heap.size + 1, 0, none⟩) (by simp) _).setCell (p := ⟨w.heap.size + 1 + 1, 0, none⟩) (by simp; omega) _⟩
      · rw [set_far _ _ _ _ (by omega)]
        rw [World.cell?_setCell_same' _ _ _ (by rw [hc1]; rfl)]
        simp [List.getD_eq_getElem?_getD]
      · exact World.cell?_setCell_same' _ _ _ (by rw [set_far _ _ _ _ (by omega), hc2]; rfl)
    · obtain ⟨q, hq⟩ : ∃ q, wrap64 (k - (pre.length : Nat)) = q := ⟨_, rfl⟩
      have hq0 : (q == 0) = false := by
        rw [beq_eq_false_iff_ne, ← hq]; unfold wrap64; omega
      have hq1 : wrap64 (q - 1) = wrap64 (k - ((pre ++ [x]).length : Nat)) := by
        rw [← hq]; unfold wrap64; simp; omega
      rw [hq] at hc
      have HQ := Lib.hid hq1
      clear hq1 hq
      gi_wp2
      refine ⟨KeepsOthers.setCell _ _ _, (Below.refl w.heap.size W).setCell (p := ⟨w.heap.size, 0, none⟩) (Nat.le_refl _) _, ⟨fun j hj => ?_, ?_, by rw [World.frozen?_setCell]; exact hf, ⟨by rw [set_far _ _ _ _ (by omega)]; exact hc1, by rw [World.frozen?_setCell]; exact hf1⟩, ⟨by rw [set_far _ _ _ _ (by omega)]; exact hc2, by rw [World.frozen?_setCell]; exact hf2⟩⟩, hB.setCell (p := ⟨w.heap.size, 0, none⟩) (Nat.le_refl _) _⟩
      · simp at hj
        by_cases e : j = pre.length
        · subst e; exact hx
        · exact hp j (by omega)
      · rw [← HQ.out]; exact World.cell?_setCell_same' _ _ _ (by rw [hc]; rfl)
  case done =>
    rintro D ys W hD rfl ⟨⟨hne, _, _, ⟨hc1, hf1⟩, ⟨hc2, hf2⟩⟩, hB⟩ hK
    gi_wp2
    have hK1 := (KeepsOthers.setCell W ⟨w.heap.size + 1, 0, none⟩ (.int .i64 0)).same D _ hK rfl
    have hK2 := (KeepsOthers.setCell (W.setCell ⟨w.heap.size + 1, 0, none⟩ (.int .i64 0)) ⟨w.heap.size + 1 + 1, 0, none⟩ (.bool false)).same D _ hK1 rfl
    refine ⟨by simp, .inl ⟨_, _, rfl, run_takeDeferred hK2, ?_⟩⟩
    have a1 : ((W.setCell ⟨w.heap.size + 1, 0, none⟩ (.int .i64 0)).setCell ⟨w.heap.size + 1 + 1, 0, none⟩ (.bool false)).cell? ⟨w.heap.size + 1, 0, none⟩ = some (.int .i64 0) := by
      rw [set_far _ _ _ _ (by omega)]; exact World.cell?_setCell_same' _ _ _ (by rw [hc1]; rfl)
    have a2 : ((W.setCell ⟨w.heap.size + 1, 0, none⟩ (.int .i64 0)).setCell ⟨w.heap.size + 1 + 1, 0, none⟩ (.bool false)).cell? ⟨w.heap.size + 1 + 1, 0, none⟩ = some (.bool false) :=
      World.cell?_setCell_same' _ _ _ (by rw [set_far _ _ _ _ (by omega), hc2]; rfl)
    have hc5 := cell_kept a1 (grownBy_putObj' _ D (.deferred none)) (fun r e => by cases e; exact ⟨_, hK2, rfl⟩)
    have hc6 := cell_kept a2 (grownBy_putObj' _ D (.deferred none)) (fun r e => by cases e; exact ⟨_, hK2, rfl⟩)
    refine ⟨.tuple #[.int .i64 0, .bool false], ?_, .inr ⟨?_, rfl⟩, ((hB.setCell (p := ⟨w.heap.size + 1, 0, none⟩) (by simp) _).setCell (p := ⟨w.heap.size + 1 + 1, 0, none⟩) (by simp; omega) _).trans (belowK_b (w := w) (Nat.le_refl _) _ D _ _ (by simp at hD; omega) hK2 rfl rfl)⟩
    · simp [results, Tryz.f150, go_sem, hc5, hc6]
    · rcases Int.lt_or_le k 0 with h | h
      · exact .inl h
      · refine .inr ?_
        rcases Int.lt_or_le k (listN m 32).length with h2 | h2
        · exact absurd (by omega) (hne k.toNat (by omega))
        · exact h2
  case stop =>
    rintro D c pre W hD hpre ⟨⟨rfl, j, hkj, hl, hc1, hc2⟩, hB⟩ hK
    gi_wp2
    refine ⟨by simp, .inl ⟨_, _, rfl, run_takeDeferred hK, ?_⟩⟩
    have hc5 := cell_kept hc1 (grownBy_putObj' _ D (.deferred none)) (fun r e => by cases e; exact ⟨_, hK, rfl⟩)
    have hc6 := cell_kept hc2 (grownBy_putObj' _ D (.deferred none)) (fun r e => by cases e; exact ⟨_, hK, rfl⟩)
    obtain ⟨suf, hsuf⟩ := hpre
    have e : (listN m 32).getD j 0 = pre.getD j 0 := by
      rw [← hsuf, List.getD_eq_getElem?_getD, List.getElem?_append_left (by omega), ← List.getD_eq_getElem?_getD]
    refine ⟨.tuple #[.int .i64 (pre.getD j 0), .bool true], ?_, .inl ⟨j, hkj, by rw [← hsuf, List.length_append]; omega, by rw [e]⟩, hB.trans (belowK_b (w := w) (Nat.le_refl _) W D _ _ (by simp at hD; omega) hK rfl rfl)⟩
    simp [results, Tryz.f150, go_sem, hc5, hc6]

end Go.Proofs.YtphjaebkcimklaaGreatDoor.B

/- Contracts of the chunks' functions that only compute: Cut, At, TrailingZeros64; each speaks of numbers of 64 bits. -/
set_option linter.unusedVariables false
set_option linter.unusedSimpArgs false
namespace Go.Proofs.YtphjaebkcimklaaGreatDoor.C
open Go.RowKit

theorem max2_num (k k' : IntKind) (x y : Int) : Builtin.max2 (.int k x) (.int k' y) = pure (.int k (if x < y then y else x)) := by simp only [Builtin.max2, gt_iff_lt]
theorem min2_num (k k' : IntKind) (x y : Int) : Builtin.min2 (.int k x) (.int k' y) = pure (.int k (if y < x then y else x)) := by simp only [Builtin.min2]
theorem maxOf_two (ats : Array TypeId) (ty : TypeId) (a b : Value) : Builtin.max_ ats ty #[a, b] = (Builtin.max2 a b >>= fun s => pure s) := by simp only [Builtin.max_, List.foldlM_cons, List.foldlM_nil]
theorem minOf_two (ats : Array TypeId) (ty : TypeId) (a b : Value) : Builtin.min_ ats ty #[a, b] = (Builtin.min2 a b >>= fun s => pure s) := by simp only [Builtin.min_, List.foldlM_cons, List.foldlM_nil]
attribute [local go_sem] max2_num min2_num maxOf_two minOf_two

theorem ret_num {k : IntKind} {a b : Int} (h : a = b) : Ending.returned (.int k a) = .returned (.int k b) := by rw [h]

/-- A number within two bounds. -/
def cut3 (n lo hi : Int) : Int := if n < lo then lo else if n > hi then hi else n

/-- How many bits are meant, from 0 to 64. -/
def c64 (n : Int) : Nat := (cut3 n 0 64).toNat
theorem c64_le (n : Int) : c64 n ≤ 64 := by unfold c64 cut3; (repeat' split) <;> omega

theorem u64_wrap (x : Int) : IntKind.u64.wrap x = x % 18446744073709551616 := rfl

/-- A shift to the left and back leaves the lowest bits. -/
theorem shift_back (y : Int) (b : Nat) (hb : b ≤ 64) : IntKind.u64.wrap (y * 2 ^ (64 - b)) / 2 ^ (64 - b) = y % 2 ^ b := by
  rw [u64_wrap]
  have e : (18446744073709551616 : Int) = 2 ^ b * 2 ^ (64 - b) := by rw [← Int.pow_add, show b + (64 - b) = 64 by omega]; decide
  have hp : (0 : Int) < 2 ^ (64 - b) := Int.pow_pos (by omega)
  rw [e, Int.mul_comm y, Int.mul_comm (2 ^ b), Int.mul_emod_mul_of_pos _ _ hp]
  exact Int.mul_ediv_cancel_left _ (by omega)

/-- What is cut out of a number. -/
def cutv (x f n : Int) : Int := x / 2 ^ c64 f % 2 ^ c64 n

theorem cutv_any (x f n : Int) (w : World) :
    Calls Tryz.prog 133 #[.int .u64 x, .int .i64 f, .int .i64 n] w fun e w' => e = .returned (.int .u64 (cutv x f n)) ∧ w = w' := by
  have hf := c64_le f
  have hn := c64_le n
  obtain ⟨f1, hf1⟩ : ∃ j : Int, (if f < 0 then 0 else f) = j := ⟨_, rfl⟩
  obtain ⟨n1, hn1⟩ : ∃ j : Int, (if n < 0 then 0 else n) = j := ⟨_, rfl⟩
  have hf2 : (if 64 < f1 then 64 else f1) = (c64 f : Int) := by
    rw [← hf1]; unfold c64 cut3; (repeat' split) <;> omega
  have hn2 : (if 64 < n1 then 64 else n1) = (c64 n : Int) := by
    rw [← hn1]; unfold c64 cut3; (repeat' split) <;> omega
  have key := shift_back (x / 2 ^ c64 f) (c64 n) hn
  have hfin : IntKind.u64.wrap (x / 2 ^ c64 f * 2 ^ (64 - c64 n)) / 2 ^ (64 - c64 n) = cutv x f n := key
  clear key
  generalize c64 f = F at *
  generalize c64 n = N at *
  have HF : Hid (IntKind.u64.wrap (x / 2 ^ F * 2 ^ (64 - N)) / 2 ^ (64 - N) = cutv x f n) := hfin
  clear hfin
  have e3 : (64 - (N : Int)).toNat = 64 - N := by omega
  go_enter Tryz.func133, Tryz.ntmps133
  go_wp2
  go_ret
  exact ⟨ret_num HF.out, rfl⟩

/-- The nearest level that there is. -/
def c12 (n : Int) : Nat := (cut3 n 0 12).toNat
theorem c12_le (n : Int) : c12 n ≤ 12 := by unfold c12 cut3; (repeat' split) <;> omega

/-- A chunk of a hash. -/
def atN (h : Nat) (l : Nat) : Nat := h / 2 ^ (5 * l) % 32
theorem atN_lt (h l : Nat) : atN h l < 32 := Nat.mod_lt _ (by omega)

theorem cut_at (h l : Nat) (hl : l ≤ 12) : cutv (h : Int) (5 * (l : Int)) 5 = (atN h l : Int) := by
  have e1 : c64 (5 * (l : Int)) = 5 * l := by unfold c64 cut3; (repeat' split) <;> omega
  have e2 : c64 5 = 5 := by decide
  unfold cutv atN
  rw [e1, e2]
  simp

set_option maxHeartbeats 800000 in
theorem at_any (h : Nat) (n : Int) (w : World) :
    Calls Tryz.prog 119 #[.int .u64 (h : Int), .int .i64 n] w fun e w' => e = .returned (.int .i64 (atN h (c12 n) : Nat)) ∧ w = w' := by
  obtain ⟨n1, hn1⟩ : ∃ j : Int, (if n < 0 then 0 else n) = j := ⟨_, rfl⟩
  have hn2 : (if 12 < n1 then 12 else n1) = (c12 n : Int) := by
    rw [← hn1]; unfold c12 cut3; (repeat' split) <;> omega
  have hl := c12_le n
  have hc := cut_at h (c12 n) hl
  have hlt := atN_lt h (c12 n)
  generalize c12 n = l at *
  generalize atN h l = q at *
  have HC := Lib.hid hc
  clear hc
  go_enter Tryz.func119, Tryz.ntmps119
  go_wp2_with fail
  refine (cutv_any _ _ _ _).mono ?_
  rintro e w1 ⟨rfl, rfl⟩
  rw [HC.out]
  go_wp2
  go_ret
  exact ⟨rfl, rfl⟩

end Go.Proofs.YtphjaebkcimklaaGreatDoor.C
