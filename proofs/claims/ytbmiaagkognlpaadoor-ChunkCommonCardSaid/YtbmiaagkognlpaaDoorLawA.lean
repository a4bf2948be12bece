/- Walks of the laws ChunkCommon and ChunkBack: each returns true, where the library's table lies as the program lays it. -/
import Derived.Test.YtbmiaagkognlpaaDoorFrom
set_option linter.unusedVariables false
set_option linter.unusedSimpArgs false
namespace Go.Proofs.YtbmiaagkognlpaaDoor
open Go.RowKit

theorem below_step {w w1 w2 : World} (h : Below w.heap.size w w1) (k : Below w1.heap.size w1 w2) : Below w.heap.size w w2 := h.trans (k.mono h.size)

set_option maxHeartbeats 1600000 in
theorem chunkCommon_any (a b : Nat) (w : World) (ha : a < 18446744073709551616) (hb : b < 18446744073709551616) (hT : TabOK w) :
    Calls Tryd.prog 3 #[.int .u64 (a : Int), .int .u64 (b : Int)] w fun e w' => e = .returned (.bool true) ∧ Below w.heap.size w w' := by
  have HT := Lib.hid hT
  have HCC := Lib.hid (com_comm a b)
  have heq : (((comN a b : Nat) : Int) == 13) = ((a : Int) == (b : Int)) := by
    rw [Bool.eq_iff_iff, beq_iff_eq, beq_iff_eq]
    have := com_13 a b ha hb
    constructor
    · intro h; have := this.1 (by omega); omega
    · intro h; have := this.2 (by omega); omega
  have HEQ := Lib.hid heq
  have HCE := Lib.hid (fun n => com_eq a b n ha hb)
  clear hT heq
  go_enter Tryd.func3, Tryd.ntmps3
  go_wp2_with fail
  refine (common_any a b _ ha hb HT.out).mono ?_
  rintro e w1 ⟨rfl, rfl⟩
  go_wp2_with fail
  refine (refWay_any a _ ha).mono ?_
  rintro e w1 ⟨rfl, hb1⟩
  have HB1 := Lib.hid hb1
  clear hb1
  go_wp2_with fail
  refine (refWay_any b _ hb).mono ?_
  rintro e w2 ⟨rfl, hb2⟩
  have HB2 := Lib.hid (below_step HB1.out hb2)
  clear hb2
  go_wp2_with fail
  refine (refCommon_any a b _).mono ?_
  rintro e w3 ⟨n, rfl, hn, h1, h2, hb3⟩
  have hcn := HCE.out n hn h1 h2
  have HB3 := Lib.hid (below_step HB2.out hb3)
  have HT3 := Lib.hid (HT.out.below HB3.out)
  rw [← hcn]
  clear h1 h2 hb3 hn hcn
  obtain ⟨c, hc⟩ : ∃ c, comN a b = c := ⟨_, rfl⟩
  rw [hc] at HCC HEQ ⊢
  have heq := HEQ.out
  go_wp2_with fail
  refine (common_any b a _ hb ha HT3.out).mono ?_
  rintro e w4 ⟨rfl, rfl⟩
  rw [HCC.out]
  clear hc
  go_wp2_with fail
  refine (awake_any _ HT3.out).mono ?_
  rintro e w4 ⟨rfl, rfl⟩
  go_wp2_with fail
  go_ret
  exact ⟨rfl, HB3.out⟩

theorem way_good (h : Nat) (hh : h < 18446744073709551616) : Good ((List.range 13).map fun i => (atN h i : Int)) := by
  refine ⟨by simp, fun i hi => ?_, ?_⟩
  · have : ((List.range 13).map fun i => (atN h i : Int)).getD i 0 = atN h i := by
      rw [List.getD_eq_getElem?_getD, List.getElem?_map, List.getElem?_range hi]; rfl
    rw [this]
    have := atN_lt h i
    omega
  · have : ((List.range 13).map fun i => (atN h i : Int)).getD 12 0 = atN h 12 := rfl
    rw [this]
    unfold atN
    have e60 : 2 ^ (5 * 12) = 1152921504606846976 := by decide
    rw [e60]; omega

theorem way_val (h : Nat) : ∀ j, j ≤ 13 → valS ((List.range 13).map fun i => (atN h i : Int)) j = h % 32 ^ j
  | 0, _ => by rw [Nat.pow_zero, Nat.mod_one]; rfl
  | j + 1, hj => by
    have e : ((List.range 13).map fun i => (atN h i : Int)).getD j 0 = atN h j := by
      rw [List.getD_eq_getElem?_getD, List.getElem?_map, List.getElem?_range (by omega)]; rfl
    rw [valS, way_val h j (by omega), e, Int.toNat_natCast, ← atN_succ, Nat.pow_succ, Nat.mod_mul, Nat.mul_comm]

theorem way_reads {w : World} {base : Nat} {h : Nat} (ho : w.ownsRow base 3 1 (.slice (some ⟨base, 0, none⟩) 13 13) 13 (wayL h 13)) : RdI w (some ⟨base, 0, none⟩) 13 ((List.range 13).map fun i => (atN h i : Int)) :=
  ⟨by simp, by omega, fun _ => ⟨base, 0, rfl, (ho.lt base rfl).2, fun j hj => by
    rw [Nat.zero_add, ho.cellAt j (by omega), wayL_get h 13 j hj, if_pos hj, List.getD_eq_getElem?_getD, List.getElem?_map, List.getElem?_range hj]; rfl⟩⟩

set_option maxHeartbeats 1600000 in
theorem chunkBack_any (h : Nat) (w : World) (hh : h < 18446744073709551616) (hT : TabOK w) :
    Calls Tryd.prog 6 #[.int .u64 (h : Int)] w fun e w' => e = .returned (.bool true) ∧ Below w.heap.size w w' := by
  have HT := Lib.hid hT
  have hg := way_good h hh
  have hv : valS ((List.range 13).map fun i => (atN h i : Int)) 13 = h := by
    rw [way_val h 13 (by omega)]
    have : (32 : Nat) ^ 13 = 36893488147419103232 := by decide
    rw [this]; omega
  have HG := Lib.hid hg
  have HV := Lib.hid hv
  clear hT hg hv
  go_enter Tryd.func6, Tryd.ntmps6
  go_wp2_with fail
  refine (way_any h _).mono ?_
  rintro e w1 ⟨rfl, ho, hb1⟩
  have HR := Lib.hid (way_reads ho)
  have HB1 := Lib.hid hb1
  clear ho hb1
  go_wp2_with fail
  refine (from_any _ _ _ _ HR.out).mono ?_
  rintro e w2 ⟨⟨_, _, rfl⟩ | ⟨hn, rfl⟩, rfl⟩
  · rw [HV.out]
    have HT1 := Lib.hid (HT.out.below HB1.out)
    go_wp2_with fail
    refine (awake_any _ HT1.out).mono ?_
    rintro e w4 ⟨rfl, rfl⟩
    go_wp2_with fail
    go_ret
    exact ⟨rfl, HB1.out⟩
  · exact absurd HG.out hn

end Go.Proofs.YtbmiaagkognlpaaDoor
