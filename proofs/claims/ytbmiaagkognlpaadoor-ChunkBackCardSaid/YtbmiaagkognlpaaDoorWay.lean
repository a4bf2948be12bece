/- Contracts of the chunks' functions over arrays and slices; each speaks of numbers of 64 bits. -/
import Derived.Test.YtbmiaagkognlpaaDoorNum
import Derived.Laws.Rows
import Derived.Laws.CopyOwn
import Derived.Deep.QuietTactic
import Derived.BigQuiet
set_option linter.unusedVariables false
set_option linter.unusedSimpArgs false
namespace Go.Proofs.YtbmiaagkognlpaaDoor
open Go.RowKit

/-- The chunks of a hash, as far as they are done. -/
def wayL (h j : Nat) : List Value := (List.range 13).map fun i => if i < j then .int .i64 (atN h i : Nat) else .int .i64 0
theorem wayL_len (h j : Nat) : (wayL h j).length = 13 := by simp [wayL]
theorem wayL_get (h j i : Nat) (hi : i < 13) : (wayL h j)[i]? = some (if i < j then .int .i64 (atN h i : Nat) else .int .i64 0) := by
  unfold wayL
  rw [List.getElem?_map, List.getElem?_range hi]; rfl
theorem wayL_set (h j : Nat) (hj : j < 13) : (wayL h j).set j (.int .i64 (atN h j : Nat)) = wayL h (j + 1) := by
  unfold wayL
  apply List.ext_getElem
  · simp
  · intro i h1 h2
    rw [List.getElem_set]
    simp only [List.getElem_map, List.getElem_range]
    by_cases e : j = i
    · subst e; simp
    · rw [if_neg e]
      by_cases h3 : i < j
      · rw [if_pos h3, if_pos (by omega)]
      · rw [if_neg h3, if_neg (by omega)]

theorem atN_succ (h j : Nat) : h / 32 ^ j % 32 = atN h j := by
  unfold atN
  rw [Nat.pow_mul]

theorem below_drewN {B : Nat} {w W : World} (h : Below B w W) (n : Nat) : Below B w (W.drewN n) := ⟨h.os, h.tape, h.output, h.size, h.block⟩

theorem info25 : (Tryd.prog.info? 25).map (·.size) = some 13 := by kernel_rfl
theorem pow32 (h j : Nat) : h / 32 ^ j / 32 = h / 32 ^ (j + 1) := by rw [Nat.div_div_eq_div_mul, Nat.pow_succ]

theorem all_ints (h j : Nat) : (wayL h j).toArray.all (·.oneCell') = true := by
  unfold wayL
  rw [Array.all_eq_true]
  intro i hi
  simp only [List.getElem_toArray, List.getElem_map]
  split <;> rfl

set_option maxHeartbeats 1600000 in
theorem refWay_any (h : Nat) (w : World) (hh : h < 18446744073709551616) :
    Calls Tryd.prog 11 #[.int .u64 (h : Int)] w fun e w' => e = .returned (.agg (wayL h 13).toArray) ∧ Below w.heap.size w w' := by
  go_enter Tryd.func11, Tryd.ntmps11
  go_wp2_with fail
  go_loopw [0, 4] (fun a i wr => ∃ j : Nat, j ≤ 13 ∧ ∃ y : Nat, y = h / 32 ^ j ∧ a = .int .u64 (y : Int) ∧ i = .int .i64 j ∧ wr.heap[w.heap.size]? = some (.cells (wayL h 0).toArray 25 (0, 0)) ∧ wr.heap[w.heap.size + 1]? = some (.cells (wayL h j).toArray 25 (0, 0)) ∧ Below w.heap.size w wr) (fun _ i _ => 13 - (intOf i).toNat)
  case atStart => exact ⟨0, by omega, h, by simp, rfl, rfl, heap_alloc2_old _ _ _, heap_alloc2_new _ _ _, ((Below.refl _ _).alloc (Nat.le_refl _) _).alloc (by simp) _⟩
  case round =>
    obtain ⟨j, hj, y, hy, rfl, rfl, hg0, hg1, hb⟩ := hrel
    have hy1 : y < 18446744073709551616 := by rw [hy]; exact Nat.lt_of_le_of_lt (Nat.div_le_self _ _) hh
    have hy2 : y / 32 = h / 32 ^ (j + 1) := by rw [hy, pow32]
    have hq : y % 32 = atN h j := by rw [hy, atN_succ]
    have H2 := Lib.hid hy2
    have HQ := Lib.hid hq
    have HB := Lib.hid hb
    clear hy hy2 hq hb
    by_cases hlt : j < 13
    · have hc : wr.cell? ⟨w.heap.size + 1, j, none⟩ = some (.int .i64 0) := by
        rw [cell_of_row _ _ _ _ _ _ hg1]
        have := wayL_get h j j hlt
        simpa using this
      have hf := frozen_of_row _ _ j _ _ hg1
      have hs := heap_setCell_same _ _ j _ _ (.int .i64 (atN h j : Nat)) hg1
      have ho := (heap_setCell_other wr ⟨w.heap.size + 1, j, none⟩ w.heap.size (.int .i64 (atN h j : Nat)) (by simp)).trans hg0
      have he : (wayL h j).toArray.setIfInBounds j (.int .i64 (atN h j : Nat)) = (wayL h (j + 1)).toArray := by rw [← wayL_set h j hlt]; simp
      rw [he] at hs
      rw [← HQ.out] at hs ho
      have HS := Lib.hid hs
      have HO := Lib.hid ho
      have HC := Lib.hid (HB.out.setCell (p := ⟨w.heap.size + 1, j, none⟩) (by simp) (.int .i64 (y % 32 : Nat)))
      clear hs ho he hg0 hg1
      go_wp2_with fail
      go_roundw
      case rel => exact ⟨j + 1, by omega, y / 32, H2.out, by simp, by go_num, HO.out, HS.out, HC.out⟩
      case measure => simp [intOf]; omega
    · obtain rfl : j = 13 := by omega
      have hsz : (wayL h 13).toArray.size = 13 := by simp [wayL_len]
      have hsz0 : (wayL h 0).toArray.size = 13 := by simp [wayL_len]
      have hone := all_ints h 13
      obtain ⟨cs, hcs⟩ : ∃ cs, (wayL h 13).toArray = cs := ⟨_, rfl⟩
      obtain ⟨os, hos⟩ : ∃ cs, (wayL h 0).toArray = cs := ⟨_, rfl⟩
      rw [hcs] at hg1 hsz hone
      rw [hos] at hg0 hsz0
      have HG1 := Lib.hid hg1
      have HG0 := Lib.hid hg0
      have HCS := Lib.hid hcs
      have HSZ := Lib.hid hsz
      have HSZ0 := Lib.hid hsz0
      have HONE := Lib.hid hone
      clear hg1 hg0 hsz hsz0 hone hcs hos
      go_wp2_with (first | (refine wpList_load_row rfl 25 _ rfl (w.heap.size + 1) rfl 25 cs (0, 0) _ HG1.out Tryd.underlying25 rfl (info25.trans (by rw [HSZ.out])) ?_) | (refine wpList_store_row rfl 25 _ _ rfl w.heap.size cs rfl rfl 25 os HG0.out (info25.trans (by rw [HSZ.out])) (HSZ0.out.trans HSZ.out.symm) HONE.out ?_))
      have hfin := setRow_heap _ _ _ cs _ _ HG0.out
      have hbf := below_setRow HB.out (Nat.le_refl _) cs
      exact bodyPost_ret (v := .agg cs) (results_cell_row rfl _ _ w.heap.size 25 cs (0, 0) _ (by rfl) hfin Tryd.underlying25 rfl (info25.trans (by rw [HSZ.out]))) rfl ⟨by rw [HCS.out], hbf⟩

/-- A hash is known by its chunks. -/
theorem common_cells (w : World) (a b : Nat) : ∀ i, i < 13 →
    ((w.alloc (.cells (wayL a 13).toArray 25)).alloc (.cells (wayL b 13).toArray 25)).cell? ⟨w.heap.size, i, none⟩ = some (.int .i64 (atN a i : Nat)) ∧
    ((w.alloc (.cells (wayL a 13).toArray 25)).alloc (.cells (wayL b 13).toArray 25)).cell? ⟨w.heap.size + 1, i, none⟩ = some (.int .i64 (atN b i : Nat)) := by
  intro i hi
  rw [cell_of_row _ _ _ _ _ _ (heap_alloc2_old _ _ _), cell_of_row _ _ _ _ _ _ (heap_alloc2_new _ _ _)]
  constructor
  · have := wayL_get a 13 i hi
    rw [if_pos hi] at this
    simpa using this
  · have := wayL_get b 13 i hi
    rw [if_pos hi] at this
    simpa using this

set_option maxHeartbeats 1600000 in
theorem refCommon_any (a b : Nat) (w : World) :
    Calls Tryd.prog 10 #[.agg (wayL a 13).toArray, .agg (wayL b 13).toArray] w fun e w' => ∃ n : Nat, e = .returned (.int .i64 n) ∧ n ≤ 13 ∧ (∀ i, i < n → atN a i = atN b i) ∧ (n < 13 → atN a n ≠ atN b n) ∧ Below w.heap.size w w' := by
  have HC := Lib.hid (common_cells w a b)
  have hB : Below w.heap.size w ((w.alloc (.cells (wayL a 13).toArray 25)).alloc (.cells (wayL b 13).toArray 25)) := ((Below.refl _ _).alloc (Nat.le_refl _) _).alloc (by simp) _
  have HB0 := Lib.hid hB
  clear hB
  go_enter Tryd.func10, Tryd.ntmps10
  go_wp2_with fail
  generalize (w.alloc (.cells (wayL a 13).toArray 25)).alloc (.cells (wayL b 13).toArray 25) = W at *
  go_loopw [5] (fun v wr => ∃ n : Nat, n ≤ 13 ∧ v = .int .i64 n ∧ (∀ i, i < n → atN a i = atN b i) ∧ ∃ q, wr = W.drewN q) (fun v _ => 13 - (intOf v).toNat)
  case atStart => exact ⟨0, by omega, rfl, by intro i hi; omega, 0, rfl⟩
  case round =>
    obtain ⟨n, hn, rfl, heq, q, rfl⟩ := hrel
    have HE := Lib.hid heq
    clear heq
    by_cases hlt : n < 13
    · obtain ⟨h1, h2⟩ := HC.out n hlt
      by_cases he : atN a n = atN b n
      · have HEQ := Lib.hid he
        rw [he] at h1
        obtain ⟨y, hy⟩ : ∃ y, atN b n = y := ⟨_, rfl⟩
        rw [hy] at h1 h2
        clear he hy
        have hi : (n : Int) < 13 := by omega
        go_wp2_with fail
        go_quiet (fail)
        go_wp2_with fail
        go_roundw
        case rel => exact ⟨n + 1, by omega, by go_num, fun i hi => by
          by_cases e : i = n
          · subst e; exact HEQ.out
          · exact HE.out i (by omega), _, rfl⟩
        case measure => simp [intOf]; omega
      · have HEQ := Lib.hid he
        have hne : (((atN a n : Nat) : Int) == ((atN b n : Nat) : Int)) = false := by rw [beq_eq_false_iff_ne]; omega
        obtain ⟨x, hx⟩ : ∃ x, atN a n = x := ⟨_, rfl⟩
        obtain ⟨y, hy⟩ : ∃ y, atN b n = y := ⟨_, rfl⟩
        rw [hx] at h1 hne
        rw [hy] at h2 hne
        clear he hx hy
        have hi : (n : Int) < 13 := by omega
        go_wp2_with fail
        go_quiet (fail)
        go_wp2_with fail
        go_ret
        exact ⟨n, rfl, by omega, HE.out, fun _ => HEQ.out, below_drewN (below_drewN HB0.out _) _⟩
    · obtain rfl : n = 13 := by omega
      have hd : decide ((13 : Int) < 13) = false := by decide
      go_wp2_with fail
      go_quiet (fail)
      go_wp2_with fail
      go_ret
      exact ⟨13, rfl, by omega, HE.out, fun h => by omega, below_drewN (below_drewN HB0.out _) _⟩

end Go.Proofs.YtbmiaagkognlpaaDoor
