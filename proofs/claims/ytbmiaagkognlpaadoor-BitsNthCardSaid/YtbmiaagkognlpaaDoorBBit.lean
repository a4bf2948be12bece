/- Contracts of the sets' functions that only compute; each speaks of numbers of 32 bits. -/
import Derived.Test.YtbmiaagkognlpaaDoorRows
import Derived.Test.YtbmiaagkognlpaaDoorBPop
import Derived.WalkKit
import Derived.WalkSpells
import Derived.WalkLawsBesides
import Derived.IntWalk
import Derived.KernelRfl
import Derived.Lib.Hide
import Derived.Laws.Bits128
import Derived.Deep.QuietTactic
import Derived.BigQuiet
set_option linter.unusedVariables false
set_option linter.unusedSimpArgs false
namespace Go.Proofs.YtbmiaagkognlpaaDoor
open Go.RowKit

theorem u64_wrap (x : Int) : IntKind.u64.wrap x = x % 18446744073709551616 := rfl
theorem u64_small {x : Int} (h0 : 0 ≤ x) (h1 : x < 17179869184) : IntKind.u64.wrap x = x := by rw [u64_wrap]; omega
theorem and64 (a b : Nat) (ha : a < 17179869184) (hb : b < 18446744073709551616) : bits .and .u64 (a : Int) (b : Int) = ((a &&& b : Nat) : Int) := u64_and_nat a b (by omega) hb
theorem ret_num {k : IntKind} {a b : Int} (h : a = b) : Ending.returned (.int k a) = .returned (.int k b) := by rw [h]

set_option maxHeartbeats 800000 in
theorem ones64_any (y : Nat) (w : World) (hy : y < 4294967296) :
    Calls Tryd.prog 27 #[.int .u64 (y : Int)] w fun e w' => e = .returned (.int .i64 (cnt y.testBit 32 : Nat)) ∧ w = w' := by
  obtain ⟨x1, x2, x3, h1, h2, h3, b1, b2, b3, h4⟩ := swar y hy
  have m1 : bits .and .u64 ((y : Int) / 2) 6148914691236517205 = ((y / 2 &&& 6148914691236517205 : Nat) : Int) := by
    rw [show ((y : Int) / 2) = ((y / 2 : Nat) : Int) by simp]; exact and64 (y / 2) 6148914691236517205 (by omega) (by decide)
  have m2 : bits .and .u64 (y : Int) 6148914691236517205 = ((y &&& 6148914691236517205 : Nat) : Int) := and64 y 6148914691236517205 (by omega) (by decide)
  have e1 : IntKind.u64.wrap (bits .and .u64 ((y : Int) / 2) 6148914691236517205 + bits .and .u64 (y : Int) 6148914691236517205) = (x1 : Int) := by
    rw [m1, m2, ← h1]; exact u64_small (by omega) (by omega)
  have m3 : bits .and .u64 ((x1 : Int) / 4) 3689348814741910323 = ((x1 / 4 &&& 3689348814741910323 : Nat) : Int) := by
    rw [show ((x1 : Int) / 4) = ((x1 / 4 : Nat) : Int) by simp]; exact and64 (x1 / 4) 3689348814741910323 (by omega) (by decide)
  have m4 : bits .and .u64 (x1 : Int) 3689348814741910323 = ((x1 &&& 3689348814741910323 : Nat) : Int) := and64 x1 3689348814741910323 (by omega) (by decide)
  have e2 : IntKind.u64.wrap (bits .and .u64 ((x1 : Int) / 4) 3689348814741910323 + bits .and .u64 (x1 : Int) 3689348814741910323) = (x2 : Int) := by
    rw [m3, m4, ← h2]; exact u64_small (by omega) (by omega)
  have e3 : bits .and .u64 ((x2 : Int) / 16 + (x2 : Int)) 1085102592571150095 = (x3 : Int) := by
    rw [← h3, show ((x2 : Int) / 16 + (x2 : Int)) = ((x2 / 16 + x2 : Nat) : Int) by simp]
    exact and64 (x2 / 16 + x2) 1085102592571150095 (by omega) (by decide)
  have H4 := Lib.hid h4
  clear m1 m2 m3 m4 h1 h2 h3 h4
  go_enter Tryd.func27, Tryd.ntmps27
  go_wp2_with fail
  go_ret
  refine ⟨ret_num ?_, rfl⟩
  rw [i64_and127]
  have h := H4.out
  have hT : ((x3 + x3 / 256 + (x3 + x3 / 256) / 65536 : Nat) : Int) = (x3 : Int) + (x3 : Int) / 256 + ((x3 : Int) + (x3 : Int) / 256) / 65536 := by simp
  rw [← hT]
  have hb : x3 + x3 / 256 + (x3 + x3 / 256) / 65536 < 4294967296 := by omega
  generalize x3 + x3 / 256 + (x3 + x3 / 256) / 65536 = T at *
  omega

theorem below_drewN {B : Nat} {w W : World} (h : Below B w W) (n : Nat) : Below B w (W.drewN n) := ⟨h.os, h.tape, h.output, h.size, h.block⟩

/-- The library's table of the counts of the bytes, as the program holds it. -/
def tabS : ByteArray := { data := (((0 :: 1 :: 1 :: 2 :: 1 :: 2 :: 2 :: 3 :: 1 :: 2 :: 2 :: 3 :: 2 :: 3 :: 3 :: 4 :: 1 :: 2 :: 2 :: 3 :: 2 :: 3 :: 3 :: 4 :: 2 :: 3 :: 3 :: 4 :: 3 :: 4 :: 4 :: 5 :: 1 :: 2 :: 2 :: 3 :: 2 :: 3 :: 3 :: 4 :: 2 :: 3 :: 3 :: 4 :: 3 :: 4 :: 4 :: 5 :: 2 :: 3 :: 3 :: 4 :: 3 :: 4 :: 4 :: 5 :: 3 :: 4 :: 4 :: 5 :: 4 :: 5 :: 5 :: 6 :: [] : List UInt8).append (1 :: 2 :: 2 :: 3 :: 2 :: 3 :: 3 :: 4 :: 2 :: 3 :: 3 :: 4 :: 3 :: 4 :: 4 :: 5 :: 2 :: 3 :: 3 :: 4 :: 3 :: 4 :: 4 :: 5 :: 3 :: 4 :: 4 :: 5 :: 4 :: 5 :: 5 :: 6 :: 2 :: 3 :: 3 :: 4 :: 3 :: 4 :: 4 :: 5 :: 3 :: 4 :: 4 :: 5 :: 4 :: 5 :: 5 :: 6 :: 3 :: 4 :: 4 :: 5 :: 4 :: 5 :: 5 :: 6 :: 4 :: 5 :: 5 :: 6 :: 5 :: 6 :: 6 :: 7 :: [] : List UInt8)).append ((1 :: 2 :: 2 :: 3 :: 2 :: 3 :: 3 :: 4 :: 2 :: 3 :: 3 :: 4 :: 3 :: 4 :: 4 :: 5 :: 2 :: 3 :: 3 :: 4 :: 3 :: 4 :: 4 :: 5 :: 3 :: 4 :: 4 :: 5 :: 4 :: 5 :: 5 :: 6 :: 2 :: 3 :: 3 :: 4 :: 3 :: 4 :: 4 :: 5 :: 3 :: 4 :: 4 :: 5 :: 4 :: 5 :: 5 :: 6 :: 3 :: 4 :: 4 :: 5 :: 4 :: 5 :: 5 :: 6 :: 4 :: 5 :: 5 :: 6 :: 5 :: 6 :: 6 :: 7 :: [] : List UInt8).append (2 :: 3 :: 3 :: 4 :: 3 :: 4 :: 4 :: 5 :: 3 :: 4 :: 4 :: 5 :: 4 :: 5 :: 5 :: 6 :: 3 :: 4 :: 4 :: 5 :: 4 :: 5 :: 5 :: 6 :: 4 :: 5 :: 5 :: 6 :: 5 :: 6 :: 6 :: 7 :: 3 :: 4 :: 4 :: 5 :: 4 :: 5 :: 5 :: 6 :: 4 :: 5 :: 5 :: 6 :: 5 :: 6 :: 6 :: 7 :: 4 :: 5 :: 5 :: 6 :: 5 :: 6 :: 6 :: 7 :: 5 :: 6 :: 6 :: 7 :: 6 :: 7 :: 7 :: 8 :: [] : List UInt8))).toArray }
theorem tab_eq : ({ data := (((0 :: 1 :: 1 :: 2 :: 1 :: 2 :: 2 :: 3 :: 1 :: 2 :: 2 :: 3 :: 2 :: 3 :: 3 :: 4 :: 1 :: 2 :: 2 :: 3 :: 2 :: 3 :: 3 :: 4 :: 2 :: 3 :: 3 :: 4 :: 3 :: 4 :: 4 :: 5 :: 1 :: 2 :: 2 :: 3 :: 2 :: 3 :: 3 :: 4 :: 2 :: 3 :: 3 :: 4 :: 3 :: 4 :: 4 :: 5 :: 2 :: 3 :: 3 :: 4 :: 3 :: 4 :: 4 :: 5 :: 3 :: 4 :: 4 :: 5 :: 4 :: 5 :: 5 :: 6 :: [] : List UInt8).append (1 :: 2 :: 2 :: 3 :: 2 :: 3 :: 3 :: 4 :: 2 :: 3 :: 3 :: 4 :: 3 :: 4 :: 4 :: 5 :: 2 :: 3 :: 3 :: 4 :: 3 :: 4 :: 4 :: 5 :: 3 :: 4 :: 4 :: 5 :: 4 :: 5 :: 5 :: 6 :: 2 :: 3 :: 3 :: 4 :: 3 :: 4 :: 4 :: 5 :: 3 :: 4 :: 4 :: 5 :: 4 :: 5 :: 5 :: 6 :: 3 :: 4 :: 4 :: 5 :: 4 :: 5 :: 5 :: 6 :: 4 :: 5 :: 5 :: 6 :: 5 :: 6 :: 6 :: 7 :: [] : List UInt8)).append ((1 :: 2 :: 2 :: 3 :: 2 :: 3 :: 3 :: 4 :: 2 :: 3 :: 3 :: 4 :: 3 :: 4 :: 4 :: 5 :: 2 :: 3 :: 3 :: 4 :: 3 :: 4 :: 4 :: 5 :: 3 :: 4 :: 4 :: 5 :: 4 :: 5 :: 5 :: 6 :: 2 :: 3 :: 3 :: 4 :: 3 :: 4 :: 4 :: 5 :: 3 :: 4 :: 4 :: 5 :: 4 :: 5 :: 5 :: 6 :: 3 :: 4 :: 4 :: 5 :: 4 :: 5 :: 5 :: 6 :: 4 :: 5 :: 5 :: 6 :: 5 :: 6 :: 6 :: 7 :: [] : List UInt8).append (2 :: 3 :: 3 :: 4 :: 3 :: 4 :: 4 :: 5 :: 3 :: 4 :: 4 :: 5 :: 4 :: 5 :: 5 :: 6 :: 3 :: 4 :: 4 :: 5 :: 4 :: 5 :: 5 :: 6 :: 4 :: 5 :: 5 :: 6 :: 5 :: 6 :: 6 :: 7 :: 3 :: 4 :: 4 :: 5 :: 4 :: 5 :: 5 :: 6 :: 4 :: 5 :: 5 :: 6 :: 5 :: 6 :: 6 :: 7 :: 4 :: 5 :: 5 :: 6 :: 5 :: 6 :: 6 :: 7 :: 5 :: 6 :: 6 :: 7 :: 6 :: 7 :: 7 :: 8 :: [] : List UInt8))).toArray } : ByteArray) = tabS := rfl
theorem tab_size : tabS.size = 256 := by decide +kernel
theorem tab_cnt : ∀ k : Fin 256, (tabS[k.1]'(by rw [tab_size]; exact k.2)).toNat = cnt k.1.testBit 8 := by decide +kernel
theorem tab_index (k : Nat) (hk : k < 256) (w : World) : (Instr.index 9 (.string tabS) (.int .u32 (k : Int))).run Tryd.prog w = .ok (.int .u8 (cnt k.testBit 8 : Nat)) w := by
  rw [run_index_string (P := Tryd.prog) (w := w) 9 _ .u32 (k : Int) Tryd.underlying9, dif_pos ⟨by omega, by rw [tab_size]; omega⟩]
  have h := tab_cnt ⟨k, hk⟩
  simp only [Int.toNat_natCast]
  rw [← h]

set_option maxHeartbeats 800000 in
set_option maxRecDepth 100000 in
theorem ones32_any (y : Nat) (w : World) (hy : y < 4294967296) :
    Calls Tryd.prog 29 #[.int .u32 (y : Int)] w fun e w' => e = .returned (.int .i64 (cnt y.testBit 32 : Nat)) ∧ Below w.heap.size w w' := by
  obtain ⟨a, b, c, d, ha, hb, hc, hd, hyy⟩ := four_bytes y hy
  have hcnt : cnt y.testBit 32 = cnt a.testBit 8 + cnt b.testBit 8 + cnt c.testBit 8 + cnt d.testBit 8 := by rw [hyy]; exact cnt_four a b c d ha hb hc hd
  have m : ∀ z : Nat, z < 4294967296 → bits .and .u32 (z : Int) 255 = ((z % 256 : Nat) : Int) := by
    intro z hz
    have h := u32_and_nat z 255 hz (by decide)
    rw [Nat.and_two_pow_sub_one_eq_mod z 8] at h
    exact h
  have e0 : (y : Int) / 16777216 = (d : Int) := by omega
  have e1 : bits .and .u32 ((y : Int) / 65536) 255 = (c : Int) := by
    rw [show ((y : Int) / 65536) = ((y / 65536 : Nat) : Int) by simp, m _ (by omega)]; omega
  have e2 : bits .and .u32 ((y : Int) / 256) 255 = (b : Int) := by
    rw [show ((y : Int) / 256) = ((y / 256 : Nat) : Int) by simp, m _ (by omega)]; omega
  have e3 : bits .and .u32 (y : Int) 255 = (a : Int) := by
    rw [m _ hy]; omega
  have q0 := tab_index a ha
  have q1 := tab_index b hb
  have q2 := tab_index c hc
  have q3 := tab_index d hd
  have r0 := cnt_le a.testBit 8
  have r1 := cnt_le b.testBit 8
  have r2 := cnt_le c.testBit 8
  have r3 := cnt_le d.testBit 8
  have HC := Lib.hid hcnt
  clear hcnt hyy m
  generalize cnt a.testBit 8 = pa at *
  generalize cnt b.testBit 8 = pb at *
  generalize cnt c.testBit 8 = pc at *
  generalize cnt d.testBit 8 = pd at *
  go_enter Tryd.func29, Tryd.ntmps29
  go_wp2_with fail
  rw [tab_eq]
  go_quiet (fail)
  go_wp2
  go_ret
  refine ⟨ret_num ?_, ?_⟩
  · rw [HC.out]; omega
  · exact below_drewN (Below.refl _ _) nq
end Go.Proofs.YtbmiaagkognlpaaDoor
