/- Walk of the law ChunkFrom: it returns true, where the library's table lies as the program lays it. -/
import Derived.Test.YtbmiaagkognlpaaDoorLawB
set_option linter.unusedVariables false
set_option linter.unusedSimpArgs false
namespace Go.Proofs.YtbmiaagkognlpaaDoor
open Go.RowKit

/-- The chunks below j fit. -/
def fitB (l : List Int) : Nat → Bool
  | 0 => decide (l.getD 12 0 < 16)
  | j + 1 => fitB l j && decide (0 ≤ l.getD j 0) && decide (l.getD j 0 < 32)

theorem fitB_of : ∀ (l : List Int) (j : Nat), j ≤ 13 → (fitB l j = true ↔ l.getD 12 0 < 16 ∧ ∀ i, i < j → 0 ≤ l.getD i 0 ∧ l.getD i 0 < 32)
  | l, 0, _ => by simp [fitB]
  | l, j + 1, hj => by
    rw [fitB, Bool.and_eq_true, Bool.and_eq_true, fitB_of l j (by omega), decide_eq_true_iff, decide_eq_true_iff]
    constructor
    · rintro ⟨⟨⟨h1, h2⟩, h3⟩, h4⟩
      refine ⟨h1, fun i hi => ?_⟩
      by_cases e : i = j
      · subst e; exact ⟨h3, h4⟩
      · exact h2 i (by omega)
    · rintro ⟨h1, h2⟩
      exact ⟨⟨⟨h1, fun i hi => h2 i (by omega)⟩, (h2 j (by omega)).1⟩, (h2 j (by omega)).2⟩

theorem fitB_good (l : List Int) (h : l.length = 13) : fitB l 13 = true ↔ Good l := by
  rw [fitB_of l 13 (by omega)]
  exact ⟨fun ⟨a, b⟩ => ⟨h, b, a⟩, fun ⟨_, b, a⟩ => ⟨a, b⟩⟩

set_option maxHeartbeats 3200000 in
theorem chunkFrom_any (A : Option Addr) (n c : Nat) (l : List Int) (w : World) (h : RdI w A n l) (hT : TabOK w) :
    Calls Tryd.prog 5 #[.slice A n c] w fun e w' => e = .returned (.bool true) ∧ Below w.heap.size w w' := by
  have HT := Lib.hid hT
  have hle := h.le
  clear hT
  by_cases h20 : 20 < n
  · have hgt : (20 : Int) < (n : Int) := by omega
    go_enter Tryd.func5, Tryd.ntmps5
    go_wp2_with fail
    refine (awake_any _ HT.out).mono ?_
    rintro e w4 ⟨rfl, rfl⟩
    go_wp2_with fail
    go_ret
    exact ⟨rfl, Below.refl _ _⟩
  by_cases h13 : n = 13
  · subst h13
    have HF := Lib.hid (fun w' => from_any A c l w' )
    have HR := Lib.hid h
    obtain ⟨b, o, rfl, hblt, hcell⟩ := h.cell (by omega)
    have HCL := Lib.hid hcell
    have HFG := Lib.hid (fitB_good l h.len)
    have hc12 := hcell 12 (by omega)
    obtain ⟨z, hz⟩ : ∃ z, l.getD 12 0 = z := ⟨_, rfl⟩
    have hf0 : decide (z < 16) = fitB l 0 := by rw [← hz]; rfl
    rw [hz] at hc12
    have HF0 := Lib.hid hf0
    have HC12 := Lib.hid hc12
    clear hcell hz hc12 hf0 h
    go_enter Tryd.func5, Tryd.ntmps5
    go_wp2_with fail
    refine (from_any _ _ _ _ HR.out).mono ?_
    rintro e w2 ⟨⟨hg, hvl, rfl⟩ | ⟨hn, rfl⟩, rfl⟩
    · have hc12 := HC12.out
      go_wp2_with fail
      rw [HF0.out]
      go_loop [5, 37] (fun r v => ∃ j : Nat, j ≤ 13 ∧ r = .bool (fitB l j) ∧ v = .int .i64 j) (fun _ v => 13 - (intOf v).toNat)
      case atStart => exact ⟨0, by omega, rfl, rfl⟩
      case round =>
        obtain ⟨j, hj, rfl, rfl⟩ := hrel
        by_cases hlt : j < 13
        · have hcj := HCL.out j hlt
          obtain ⟨d, hd⟩ : ∃ d, l.getD j 0 = d := ⟨_, rfl⟩
          rw [hd] at hcj
          have hs : fitB l (j + 1) = (fitB l j && decide (0 ≤ d) && decide (d < 32)) := by rw [← hd]; rfl
          obtain ⟨u, hu⟩ : ∃ u, fitB l j = u := ⟨_, rfl⟩
          obtain ⟨p, hp⟩ : ∃ p, decide (0 ≤ d) = p := ⟨_, rfl⟩
          obtain ⟨q, hq⟩ : ∃ q, decide (d < 32) = q := ⟨_, rfl⟩
          have hp2 : decide (d ≥ 0) = p := hp
          rw [hu, hp, hq] at hs
          rw [hu]
          have HS := Lib.hid hs
          clear hd hs hu hc12
          cases u <;> cases p <;> (
            go_wp2_with fail
            go_round
            case rel => exact ⟨j + 1, by omega, by rw [HS.out]; simp [hq, hp], by go_num⟩
            case measure => simp [intOf]; omega)
        · obtain rfl : j = 13 := by omega
          have hfit := HFG.out.2 hg
          have HG := Lib.hid hg
          rw [hfit]
          clear hc12 hg hfit
          obtain ⟨hv, hhv⟩ : ∃ hv, valS l 13 = hv := ⟨_, rfl⟩
          have hch : ∀ i, i < 13 → (atN hv i : Int) = l.getD i 0 := fun i hi => by rw [← hhv]; exact valS_chunk l i 13 hi HG.out.2.1
          have HCH := Lib.hid hch
          rw [hhv] at hvl ⊢
          clear hhv hch
          obtain ⟨cs, hcs⟩ : ∃ cs, (wayL hv 13).toArray = cs := ⟨_, rfl⟩
          have hsz : cs.size = 13 := by rw [← hcs]; simp [wayL_len]
          have hone : cs.all (·.oneCell') = true := by rw [← hcs]; exact all_ints hv 13
          have hget : ∀ i, i < 13 → cs[i]? = some (.int .i64 (atN hv i : Nat)) := by
            intro i hi
            rw [← hcs]
            have := wayL_get hv 13 i hi
            rw [if_pos hi] at this
            simpa using this
          have HCS := Lib.hid hcs
          have HSZ := Lib.hid hsz
          have HONE := Lib.hid hone
          have HGET := Lib.hid hget
          clear hcs hsz hone hget
          go_wp2_with fail
          refine (refWay_any hv _ hvl).mono ?_
          rintro e w1 ⟨rfl, hb1⟩
          rw [HCS.out]
          have HB1 := Lib.hid hb1
          clear hb1
          have hnew := heap_alloc_new w1 (.cells #[.int .i64 0, .int .i64 0, .int .i64 0, .int .i64 0, .int .i64 0, .int .i64 0, .int .i64 0, .int .i64 0, .int .i64 0, .int .i64 0, .int .i64 0, .int .i64 0, .int .i64 0] 25)
          have HNEW := Lib.hid hnew
          clear hnew
          go_wp2_with (refine wpList_store_row rfl 25 _ _ rfl w1.heap.size cs rfl rfl 25 _ HNEW.out (info25.trans (by rw [HSZ.out])) (by rw [HSZ.out]; rfl) HONE.out ?_)
          have hW := setRow_heap _ _ _ cs _ _ HNEW.out
          have hBW : Below w.heap.size w ((w1.alloc (.cells #[.int .i64 0, .int .i64 0, .int .i64 0, .int .i64 0, .int .i64 0, .int .i64 0, .int .i64 0, .int .i64 0, .int .i64 0, .int .i64 0, .int .i64 0, .int .i64 0, .int .i64 0] 25)).setRow w1.heap.size cs) := below_setRow (HB1.out.alloc HB1.out.size _) HB1.out.size cs
          generalize (w1.alloc (.cells #[.int .i64 0, .int .i64 0, .int .i64 0, .int .i64 0, .int .i64 0, .int .i64 0, .int .i64 0, .int .i64 0, .int .i64 0, .int .i64 0, .int .i64 0, .int .i64 0, .int .i64 0] 25)).setRow w1.heap.size cs = W at *
          have hwlt : w1.heap.size < W.heap.size := (Array.getElem?_eq_some_iff.1 hW).1
          have hWc : ∀ i, i < 13 → W.cell? ⟨w1.heap.size, i, none⟩ = some (.int .i64 (l.getD i 0)) := fun i hi => by rw [cell_of_row _ _ _ _ _ _ hW, ← HCH.out i hi]; exact HGET.out i hi
          have HWC := Lib.hid hWc
          have HBW := Lib.hid hBW
          have HWL := Lib.hid (fun i hi => (hBW.cell (p := ⟨b, o + i, none⟩) hblt).trans (HCL.out i hi))
          have HTW := Lib.hid (HT.out.below hBW)
          clear hW hBW hWc HNEW HGET
          go_loopw [66] (fun v wr => ∃ j : Nat, j ≤ 13 ∧ v = .int .i64 j ∧ ∃ q, wr = W.drewN q) (fun v _ => 13 - (intOf v).toNat)
          case atStart => exact ⟨0, by omega, rfl, 0, rfl⟩
          case round =>
            obtain ⟨j, hj, rfl, q, rfl⟩ := hrel
            by_cases hlt : j < 13
            · have hc1 := HWC.out j hlt
              have hc2 := HWL.out j hlt
              have hj0 : (0 : Int) ≤ (j : Int) := by omega
              have hj13 : (j : Int) < 13 := by omega
              obtain ⟨y, hy⟩ : ∃ y, l.getD j 0 = y := ⟨_, rfl⟩
              rw [hy] at hc1 hc2
              go_wp2_with fail
              go_quiet (fail)
              go_wp2_with fail
              go_roundw
              case rel => exact ⟨j + 1, by omega, by go_num, _, rfl⟩
              case measure => simp [intOf]; omega
            · go_wp2_with fail
              refine (awake_any _ (show TabOK (W.drewN q) from HTW.out)).mono ?_
              rintro e w4 ⟨rfl, rfl⟩
              go_wp2_with fail
              go_ret
              exact ⟨rfl, below_drewN HBW.out _⟩
    · have hc12 := HC12.out
      go_wp2_with fail
      rw [HF0.out]
      go_loop [5, 37] (fun r v => ∃ j : Nat, j ≤ 13 ∧ r = .bool (fitB l j) ∧ v = .int .i64 j) (fun _ v => 13 - (intOf v).toNat)
      case atStart => exact ⟨0, by omega, rfl, rfl⟩
      case round =>
        obtain ⟨j, hj, rfl, rfl⟩ := hrel
        by_cases hlt : j < 13
        · have hcj := HCL.out j hlt
          obtain ⟨d, hd⟩ : ∃ d, l.getD j 0 = d := ⟨_, rfl⟩
          rw [hd] at hcj
          have hs : fitB l (j + 1) = (fitB l j && decide (0 ≤ d) && decide (d < 32)) := by rw [← hd]; rfl
          obtain ⟨u, hu⟩ : ∃ u, fitB l j = u := ⟨_, rfl⟩
          obtain ⟨p, hp⟩ : ∃ p, decide (0 ≤ d) = p := ⟨_, rfl⟩
          obtain ⟨q, hq⟩ : ∃ q, decide (d < 32) = q := ⟨_, rfl⟩
          have hp2 : decide (d ≥ 0) = p := hp
          rw [hu, hp, hq] at hs
          rw [hu]
          have HS := Lib.hid hs
          clear hd hs hu hc12
          cases u <;> cases p <;> (
            go_wp2_with fail
            go_round
            case rel => exact ⟨j + 1, by omega, by rw [HS.out]; simp [hq, hp], by go_num⟩
            case measure => simp [intOf]; omega)
        · obtain rfl : j = 13 := by omega
          have hfit : fitB l 13 = false := by
            cases hf : fitB l 13
            · rfl
            · exact absurd (HFG.out.1 hf) hn
          rw [hfit]
          clear hc12 hn hfit
          go_wp2_with fail
          refine (awake_any _ HT.out).mono ?_
          rintro e w4 ⟨rfl, rfl⟩
          go_wp2_with fail
          go_ret
          exact ⟨rfl, Below.refl _ _⟩
  · have hne : ((n : Int) != 13) = true := by rw [bne_iff_ne]; omega
    go_enter Tryd.func5, Tryd.ntmps5
    go_wp2_with fail
    refine (from_short _ _ _ _ h13 hle).mono ?_
    rintro e w2 ⟨rfl, rfl⟩
    go_wp2_with fail
    refine (awake_any _ HT.out).mono ?_
    rintro e w4 ⟨rfl, rfl⟩
    go_wp2_with fail
    go_ret
    exact ⟨rfl, Below.refl _ _⟩

end Go.Proofs.YtbmiaagkognlpaaDoor
