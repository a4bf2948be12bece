/- The law RankBack. -/
import Derived.Test.YtlnlgahokifolaaTRankTells
set_option linter.unusedVariables false
set_option linter.unusedSimpArgs false
namespace Go.Proofs.Ytlnlgahokifolaa
open Go.RowKit

theorem belowM_at {M : Pairs} (h : Asc M) {j : Nat} (hj : j < M.length) : belowM M (M.getD j ([], [])).1 = j := by
  refine count_stop M _ j (by omega) (fun i hi => decide_eq_true (asc_lt h hi hj)) fun i h1 h2 => decide_eq_false fun h' => ?_
  rcases Nat.lt_or_eq_of_le h1 with h3 | rfl
  · have := cmp_lt_asymm (asc_lt h h3 h2)
    rw [h'] at this; exact absurd this (by decide)
  · rw [cmp_self] at h'; exact absurd h' (by decide)
theorem leM_at {M : Pairs} (h : Asc M) {j : Nat} (hj : j < M.length) : leM M (M.getD j ([], [])).1 = j + 1 := by
  refine count_stop M _ (j + 1) (by omega) (fun i hi => decide_eq_true fun h' => ?_) fun i h1 h2 => decide_eq_false fun h' => h' (asc_lt h (by omega) h2)
  rcases Nat.lt_or_eq_of_le (Nat.le_of_lt_succ hi) with h3 | rfl
  · have := cmp_lt_asymm (asc_lt h h3 hj)
    rw [h'] at this; exact absurd this (by decide)
  · rw [cmp_self] at h'; exact absurd h' (by decide)
theorem Told.key {Y : World} {g : Nat} {A : Option Addr} {n c : Nat} {A' : Option Addr} {n' c' : Nat} {L : Pairs} {j : Nat} (h : Told Y g A n c A' n' c' L (j : Int)) (hj : j < L.length) : BIn (fun _ => True) Y (.slice A n c) (L.getD j ([], [])).1 := by
  have hp := h.pin
  rw [if_pos (show 0 ≤ (j : Int) ∧ (j : Int) < (L.length : Int) by omega), Int.toNat_natCast] at hp
  exact hp.kx.1

set_option maxRecDepth 100000 in
set_option maxHeartbeats 1600000 in
theorem rankBack_any (A : Option Addr) (n c : Nat) (L : List (Int × Bytes × Bytes)) (w : World) (h : Ops w A n L) :
    Calls Try.prog 10 #[.slice A n c] w fun e w' => e = .returned (.bool true) ∧ Below w.heap.size w w' := by
  have HO := Lib.hid h
  have HF := Lib.hid (fine_any A n c L 60 w h (by omega))
  clear h
  go_enter Try.func10, Try.ntmps10
  go_wp2_with fail
  refine HF.out.mono ?_
  rintro e w1 ⟨r, rfl, hr, hb1⟩
  have HB1 := Lib.hid hb1
  clear hb1
  cases r with
  | false =>
    clear hr
    go_wp2_with fail
    refine (awake12_any w1).mono ?_
    rintro e w2 ⟨rfl, hb2⟩
    have HB2 : Hid (Below w.heap.size w w2) := HB1.out.trans (hb2.mono HB1.out.size)
    clear hb2
    go_wp2_with fail
    go_ret
    exact ⟨rfl, HB2.out⟩
  | true =>
    have HFI := Lib.hid (hr rfl)
    have hn80 : n ≤ 80 := by have := (hr rfl).1; rw [HO.out.len] at this; omega
    clear hr
    have HMD := Lib.hid (made_any A n c L w1 (HO.out.below HB1.out) ⟨by have := HFI.out.1; omega, HFI.out.2⟩)
    go_wp2_with fail
    refine HMD.out.mono ?_
    rintro e w2 ⟨u, A', c', T, rfl, hI⟩
    have hsz : T.size ≤ 1000000 := by have := hI.out.size; omega
    have HLL := Lib.hid T.size_list
    have hll : T.list.length ≤ 1000000 := by have := HLL.out; omega
    have HASC := Lib.hid hI.out.asc
    have HLE := Lib.hid hll
    clear hll
    go_wp2_with fail
    go_loopw [25] (fun v wr => ∃ j : Nat, v = .int .i64 (j : Int) ∧ j ≤ T.list.length ∧ Hid (Both w1 wr u A' c' T n)) (fun v _ => T.list.length - (intOf v).toNat)
    case atStart => exact ⟨0, rfl, by omega, hI⟩
    case round =>
      obtain ⟨j, rfl, hj, hJ⟩ := hrel
      by_cases hlt : j < T.list.length
      · have hj2 : j ≤ 1000000 := by have := HLE.out; omega
        have hjw : (Lit.int .i64 (j : Int)).wf = true := WalkArith.wf_i64 (by have := HLE.out; omega)
        have HJW := Lib.hid hjw
        have hin : 0 ≤ (j : Int) ∧ (j : Int) < (T.list.length : Int) := by omega
        have HIN := Lib.hid hin
        have HBM := Lib.hid (belowM_at HASC.out hlt)
        have HLM := Lib.hid (leM_at HASC.out hlt)
        have HRB := Lib.hid (rank_belowM T (T.list.getD j ([], [])).1 HASC.out)
        have HFB := Lib.hid (floor_leM T (T.list.getD j ([], [])).1 HASC.out)
        have e1 : ((j + 1 : Nat) : Int) - 1 = (j : Int) := by omega
        have HE1 := Lib.hid e1
        have HLT := Lib.hid hlt
        clear hjw hin e1
        go_wp2_with fail
        refine (at_any T (.pointer u) (j : Int) _ hJ.out.tin hsz HJW.out).mono ?_
        rintro e w3 hr
        obtain ⟨A1, n1, c1, A2, n2, c2, ok3, rfl, o3, t3, b3⟩ := hr.told
        obtain rfl : ok3 = true := by rw [o3.out]; exact decide_eq_true HIN.out
        clear hr
        go_upto_region 8 with fail
        generalize w3.heap.size = g3 at *
        generalize w3.alloc (.cells #[.slice A1 n1 c1, .slice A2 n2 c2] 39) = X at *
        have HIX : Hid (Both w1 X u A' c' T n) := hJ.out.on b3.out
        have HK3 := Lib.hid (t3.out.key HLT.out)
        obtain ⟨p0, p1⟩ := t3.out.two.cells
        go_wp2_with fail
        refine (floor_any T (.pointer u) (.slice A1 n1 c1) (T.list.getD j ([], [])).1 X HIX.out.tin HK3.out hsz).mono ?_
        rintro e w4 hr
        rw [HFB.out, HLM.out, HE1.out] at hr
        obtain ⟨A3, n3, c3, A4, n4, c4, ok4, rfl, o4, t4, b4⟩ := hr.told
        obtain rfl : ok4 = true := by rw [o4.out]; exact decide_eq_true HIN.out
        clear hr p0 p1
        go_upto_region 9 with fail
        generalize w4.heap.size = g4 at *
        generalize w4.alloc (.cells #[.slice A3 n3 c3, .slice A4 n4 c4] 39) = Y at *
        have HIY : Hid (Both w1 Y u A' c' T n) := HIX.out.on b4.out
        have T3 := Lib.hid (t3.out.below b4.out)
        have HK4 := Lib.hid (HK3.out.below b4.out)
        obtain ⟨p0, p1⟩ := T3.out.two.cells
        go_wp2_with fail
        refine (ceil_any T (.pointer u) (.slice A1 n1 c1) (T.list.getD j ([], [])).1 Y HIY.out.tin HK4.out hsz).mono ?_
        rintro e w5 hr
        rw [HRB.out, HBM.out] at hr
        obtain ⟨A5, n5, c5, A6, n6, c6, ok5, rfl, o5, t5, b5⟩ := hr.told
        obtain rfl : ok5 = true := by rw [o5.out]; exact decide_eq_true HIN.out
        clear hr p0 p1
        go_upto_region 10 with fail
        generalize w5.heap.size = g5 at *
        generalize w5.alloc (.cells #[.slice A5 n5 c5, .slice A6 n6 c6] 39) = Z at *
        have HIZ : Hid (Both w1 Z u A' c' T n) := HIY.out.on b5.out
        have U3 := Lib.hid (T3.out.below b5.out)
        have U4 := Lib.hid (t4.out.below b5.out)
        have U5 := Lib.hid (t5.out)
        have HK5 := Lib.hid (HK4.out.below b5.out)
        obtain ⟨p0, p1⟩ := U3.out.two.cells
        clear t3 b3 t4 b4 T3 t5 b5
        have hrk := rank_any T (.pointer u) (.slice A1 n1 c1) (T.list.getD j ([], [])).1 Z HIZ.out.tin HK5.out hsz
        rw [HRB.out, HBM.out] at hrk
        have HRK := Lib.hid hrk
        clear hrk
        go_wp2_with fail
        refine HRK.out.mono ?_
        rintro e w6 ⟨rfl, hb6⟩
        have HI6 : Hid (Both w1 w6 u A' c' T n) := HIZ.out.on hb6
        have V4 := Lib.hid (U4.out.below hb6)
        have V5 := Lib.hid (U5.out.below hb6)
        clear p0 p1 hb6
        obtain ⟨p0, p1⟩ := V4.out.two.cells
        go_wp2_with fail
        refine (lawAt_any T.list A' c' A3 A4 n3 c3 n4 c4 true (j : Int) w6 HI6.out.min HLE.out (decide_eq_true HIN.out).symm V4.out.pin).mono ?_
        rintro e w7 ⟨rfl, hb7⟩
        have HI7 : Hid (Both w1 w7 u A' c' T n) := HI6.out.on hb7
        have X5 := Lib.hid (V5.out.below hb7)
        clear p0 p1 hb7
        obtain ⟨p0, p1⟩ := X5.out.two.cells
        go_wp2_with fail
        refine (lawAt_any T.list A' c' A5 A6 n5 c5 n6 c6 true (j : Int) w7 HI7.out.min HLE.out (decide_eq_true HIN.out).symm X5.out.pin).mono ?_
        rintro e w8 ⟨rfl, hb8⟩
        have HI8 : Hid (Both w1 w8 u A' c' T n) := HI7.out.on hb8
        clear p0 p1 hb8
        go_wp2_with fail
        go_roundw
        case rel => have := HLE.out; exact ⟨j + 1, by go_num, by omega, HI8⟩
        case measure => have := HLE.out; simp [intOf]; omega
      · obtain rfl : j = T.list.length := by omega
        have HJW : Hid ((Lit.int .i64 (T.list.length : Int)).wf = true) := WalkArith.wf_i64 (by have := HLE.out; omega)
        have HOUT : Hid (¬ (0 ≤ (T.list.length : Int) ∧ (T.list.length : Int) < (T.list.length : Int))) := (by omega : ¬ (0 ≤ (T.list.length : Int) ∧ (T.list.length : Int) < (T.list.length : Int)))
        go_wp2_with fail
        refine (at_any T (.pointer u) (T.list.length : Int) _ hJ.out.tin hsz HJW.out).mono ?_
        rintro e w3 hr
        obtain ⟨A1, n1, c1, A2, n2, c2, ok3, rfl, o3, t3, b3⟩ := hr.told
        obtain rfl : ok3 = false := by rw [o3.out]; exact decide_eq_false HOUT.out
        clear hr
        go_upto_region 14 with fail
        generalize w3.alloc (.cells #[.slice A1 n1 c1, .slice A2 n2 c2] 39) = X at *
        have HIX : Hid (Both w1 X u A' c' T n) := hJ.out.on b3.out
        go_wp2_with fail
        refine (awake12_any X).mono ?_
        rintro e w9 ⟨rfl, hb9⟩
        have HB9 : Hid (Below w.heap.size w w9) := (HB1.out.trans (HIX.out.below.mono HB1.out.size)).trans (hb9.mono (Nat.le_trans HB1.out.size HIX.out.below.size))
        clear hb9
        go_wp2_with fail
        go_ret
        exact ⟨rfl, HB9.out⟩

end Go.Proofs.Ytlnlgahokifolaa
