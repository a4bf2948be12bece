/- Walk of the law ChunkWays: it returns true, where the library's table lies as the program lays it. -/
import Derived.Test.YtbmiaagkognlpaaDoorLawA
import Derived.Deep.QuietTactic
import Derived.BigQuiet
set_option linter.unusedVariables false
set_option linter.unusedSimpArgs false
namespace Go.Proofs.YtbmiaagkognlpaaDoor
open Go.RowKit
attribute [local go_sem] max2_num min2_num maxOf_two minOf_two

theorem at_quiet (h : Nat) (n : Int) (w : World) :
    Calls Tryd.prog 14 #[.int .u64 (h : Int), .int .i64 n] w fun e w' => e = .returned (.int .i64 (atN h (c12 n) : Nat)) ∧ w' = w :=
  (at_any h n w).mono fun _ _ h => ⟨h.1, h.2.symm⟩

theorem quiet_add_same {P : Program} {f : FuncId} {args : Array Value} {w : World} {a n : Nat} {v : Value}
    (h : Calls P f args (w.drewN (a + n)) fun e w' => e = .returned v ∧ w' = w.drewN (a + n)) :
    Calls P f args (w.drewN (a + n)) fun e w'' => e = .returned v ∧ ∃ m, w'' = w.drewN (a + m) :=
  h.mono fun _ _ ⟨he, hm⟩ => ⟨he, n, hm⟩

theorem own_below {w w1 : World} {base : Nat} {e : TypeId} {size n : Nat} {v : Value} {xs : List Value} (h : w.ownsRow base e size v n xs) (hb : Below w.heap.size w w1) : w1.ownsRow base e size v n xs :=
  h.kept (row := none) ⟨hb.os, hb.tape, hb.output, hb.size, fun i hi _ => hb.block i hi⟩ (by cases v.ownBlock <;> simp)

set_option maxHeartbeats 3200000 in
theorem chunkWays_any (h : Nat) (lv : Int) (w : World) (hh : h < 18446744073709551616) (hT : TabOK w) :
    Calls Tryd.prog 4 #[.int .u64 (h : Int), .int .i64 lv] w fun e w' => e = .returned (.bool true) ∧ Below w.heap.size w w' := by
  have HT := Lib.hid hT
  clear hT
  obtain ⟨n1, hn1⟩ : ∃ j : Int, (if lv < 0 then 0 else lv) = j := ⟨_, rfl⟩
  obtain ⟨L, hL⟩ : ∃ L, c12 lv = L := ⟨_, rfl⟩
  have hn2 : (if 12 < n1 then 12 else n1) = (L : Int) := by
    rw [← hn1, ← hL]; unfold c12 cut3; (repeat' split) <;> omega
  have hL12 : L ≤ 12 := by rw [← hL]; exact c12_le lv
  have HLV := Lib.hid hL
  clear hL
  obtain ⟨cs, hcs⟩ : ∃ cs, (wayL h 13).toArray = cs := ⟨_, rfl⟩
  have hsz : cs.size = 13 := by rw [← hcs]; simp [wayL_len]
  have hone : cs.all (·.oneCell') = true := by rw [← hcs]; exact all_ints h 13
  have hget : ∀ i, i < 13 → cs[i]? = some (.int .i64 (atN h i : Nat)) := by
    intro i hi
    rw [← hcs]
    have := wayL_get h 13 i hi
    rw [if_pos hi] at this
    simpa using this
  have HCS := Lib.hid hcs
  have HSZ := Lib.hid hsz
  have HONE := Lib.hid hone
  have HGET := Lib.hid hget
  clear hcs hsz hone hget
  go_enter Tryd.func4, Tryd.ntmps4
  go_wp2_with fail
  refine (refWay_any h _ hh).mono ?_
  rintro e w1 ⟨rfl, hb1⟩
  rw [HCS.out]
  have HB1 := Lib.hid hb1
  clear hb1
  have hnew := heap_alloc_new w1 (.cells #[.int .i64 0, .int .i64 0, .int .i64 0, .int .i64 0, .int .i64 0, .int .i64 0, .int .i64 0, .int .i64 0, .int .i64 0, .int .i64 0, .int .i64 0, .int .i64 0, .int .i64 0] 25)
  have HNEW := Lib.hid hnew
  clear hnew
  go_wp2_with (refine wpList_store_row rfl 25 _ _ rfl w1.heap.size cs rfl rfl 25 _ HNEW.out (info25.trans (by rw [HSZ.out])) (by rw [HSZ.out]; rfl) HONE.out ?_)
  have hW := setRow_heap _ _ _ cs _ _ HNEW.out
  have hBW : Below w.heap.size w ((w1.alloc (.cells #[.int .i64 0, .int .i64 0, .int .i64 0, .int .i64 0, .int .i64 0, .int .i64 0, .int .i64 0, .int .i64 0, .int .i64 0, .int .i64 0, .int .i64 0, .int .i64 0, .int .i64 0] 25)).setRow w1.heap.size cs) := below_setRow (HB1.out.alloc HB1.out.size _) HB1.out.size cs
  generalize (w1.alloc (.cells #[.int .i64 0, .int .i64 0, .int .i64 0, .int .i64 0, .int .i64 0, .int .i64 0, .int .i64 0, .int .i64 0, .int .i64 0, .int .i64 0, .int .i64 0, .int .i64 0, .int .i64 0] 25)).setRow w1.heap.size cs = W at *
  have hwlt : w1.heap.size < W.heap.size := (Array.getElem?_eq_some_iff.1 hW).1
  have hWc : ∀ i, i < 13 → W.cell? ⟨w1.heap.size, i, none⟩ = some (.int .i64 (atN h i : Nat)) := fun i hi => by rw [cell_of_row _ _ _ _ _ _ hW]; exact HGET.out i hi
  have HWC := Lib.hid hWc
  have HBW := Lib.hid hBW
  clear hW hBW hWc HNEW HGET
  refine (way_any h _).mono ?_
  rintro e W2 ⟨rfl, ho, hb2⟩
  have hrd := way_reads ho
  obtain ⟨_, _, hA, _, hlc⟩ := hrd.cell (by omega)
  obtain ⟨rfl, rfl⟩ : W.heap.size = _ ∧ 0 = _ := by
    have := Option.some.inj hA; simp only [Addr.mk.injEq, true_and, and_true] at this; exact this
  have hlc2 : ∀ i, i < 13 → W2.cell? ⟨W.heap.size, i, none⟩ = some (.int .i64 (atN h i : Nat)) := fun i hi => by
    have := hlc i hi
    rw [Nat.zero_add] at this
    rw [this, List.getD_eq_getElem?_getD, List.getElem?_map, List.getElem?_range hi]; rfl
  have HW2 := Lib.hid (fun i (hi : i < 13) => (hb2.cell (p := ⟨w1.heap.size, i, none⟩) hwlt).trans (HWC.out i hi))
  have HL2 := Lib.hid hlc2
  have HB2 := Lib.hid (below_step HBW.out hb2)
  have HT2 := Lib.hid (HT.out.below HB2.out)
  clear ho hrd hlc hlc2 hb2 hA
  have hcl := HW2.out L (by omega)
  have hneq : (((13 : Nat) : Int) != 13) = false := by decide
  obtain ⟨y, hy⟩ : ∃ y, atN h L = y := ⟨_, rfl⟩
  rw [hy] at hcl
  have HQ : Hid (∀ w, Calls Tryd.prog 14 #[.int .u64 (h : Int), .int .i64 lv] w fun e w' => e = .returned (.int .i64 (y : Nat)) ∧ w' = w) := by
    intro w; have := at_quiet h lv w; rw [HLV.out, hy] at this; exact this
  clear hy
  have hL0 : (0 : Int) ≤ (L : Int) := by omega
  have hL13 : (L : Int) < 13 := by omega
  go_wp2_with fail
  go_quiet ((go_at_call 14; exact Calls.quiet_of_same (HQ.out _)))
  go_wp2_with fail
  go_loopw [28] (fun v wr => ∃ j : Nat, j ≤ 13 ∧ v = .int .i64 j ∧ ∃ q, wr = W2.drewN q) (fun v _ => 13 - (intOf v).toNat)
  case atStart => exact ⟨0, by omega, rfl, _, rfl⟩
  case round =>
    obtain ⟨j, hj, rfl, q, rfl⟩ := hrel
    clear hcl hn1 hn2
    by_cases hlt : j < 13
    · have hc1 := HW2.out j hlt
      have hc2 := HL2.out j hlt
      obtain ⟨z, hz⟩ : ∃ z, atN h j = z := ⟨_, rfl⟩
      rw [hz] at hc1 hc2
      have HQJ : Hid (∀ w, Calls Tryd.prog 14 #[.int .u64 (h : Int), .int .i64 (j : Int)] w fun e w' => e = .returned (.int .i64 (z : Nat)) ∧ w' = w) := by
        intro w; have := at_quiet h j w; rw [c12_small j (by omega), hz] at this; exact this
      clear hz
      have hj0 : (0 : Int) ≤ (j : Int) := by omega
      have hj13 : (j : Int) < 13 := by omega
      go_wp2_with fail
      go_quiet ((go_at_call 14; exact quiet_add_same (HQJ.out _)))
      go_wp2_with fail
      go_roundw
      case rel => exact ⟨j + 1, by omega, by go_num, _, rfl⟩
      case measure => simp [intOf]; omega
    · go_wp2_with fail
      refine (awake_any _ (show TabOK (W2.drewN q) from HT2.out)).mono ?_
      rintro e w4 ⟨rfl, rfl⟩
      go_wp2_with fail
      go_ret
      exact ⟨rfl, below_drewN HB2.out _⟩

end Go.Proofs.YtbmiaagkognlpaaDoor
