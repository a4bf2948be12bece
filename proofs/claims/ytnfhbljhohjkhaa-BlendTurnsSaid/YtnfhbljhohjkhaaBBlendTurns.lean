/- The law BlendTurns. -/
import Derived.Test.YtnfhbljhohjkhaaBTurnPlain
set_option linter.unusedVariables false
set_option linter.unusedSimpArgs false
namespace Go.Proofs.Ytnfhbljhohjkhaa
open Go.RowKit Go.Deep

theorem ixt0 (W : World) (a b c d e f : Option Addr) : (Instr.index 61 (.agg #[.pointer a, .pointer b, .pointer c, .pointer d, .pointer e, .pointer f]) (.int .i64 0)).run Try.prog W = .ok (.agg #[.pointer a, .pointer b]) W := by kernel_rfl
theorem ixt1 (W : World) (a b c d e f : Option Addr) : (Instr.index 61 (.agg #[.pointer a, .pointer b, .pointer c, .pointer d, .pointer e, .pointer f]) (.int .i64 1)).run Try.prog W = .ok (.agg #[.pointer c, .pointer d]) W := by kernel_rfl
theorem ixt2 (W : World) (a b c d e f : Option Addr) : (Instr.index 61 (.agg #[.pointer a, .pointer b, .pointer c, .pointer d, .pointer e, .pointer f]) (.int .i64 2)).run Try.prog W = .ok (.agg #[.pointer e, .pointer f]) W := by kernel_rfl

set_option maxRecDepth 100000 in
set_option maxHeartbeats 3200000 in
theorem blendTurns_any (A : Option Addr) (n c : Nat) (L : List (Int × Bytes × Bytes)) (A' : Option Addr) (n' c' : Nat) (L' : List (Int × Bytes × Bytes)) (A2 : Option Addr) (n2 c2 : Nat) (L2 : List (Int × Bytes × Bytes)) (w : World) (h : Ops w A n L) (h' : Ops w A' n' L') (h2 : Ops w A2 n2 L2) :
    Calls Try.prog 10 #[.slice A n c, .slice A' n' c', .slice A2 n2 c2] w fun e w' => e = .returned (.bool true) ∧ Below w.heap.size w w' := by
  have HO := Lib.hid h
  have HO' := Lib.hid h'
  have HO2 := Lib.hid h2
  have HF := Lib.hid (fine_any A n c L 40 w h (by omega))
  clear h h' h2
  go_enter Try.func10, Try.ntmps10
  go_wp2_with fail
  refine HF.out.mono ?_
  rintro e v0 ⟨r, rfl, hr, hb0⟩
  have G0 : Hid (Below w.heap.size w v0) := hb0
  clear hb0
  cases r with
  | false =>
    clear hr
    go_wp2_with fail
    refine (awake14_any v0).mono ?_
    rintro e wz ⟨rfl, hbz⟩
    have HZ : Hid (Below w.heap.size w wz) := G0.out.trans (hbz.mono G0.out.size)
    clear hbz
    go_wp2_with fail
    go_ret
    exact ⟨rfl, HZ.out⟩
  | true =>
    have HFI0 := Lib.hid (hr rfl)
    clear hr
    have HF1 := Lib.hid (fine_any A' n' c' L' 40 v0 (HO'.out.below G0.out) (by omega))
    go_wp2_with fail
    refine HF1.out.mono ?_
    rintro e v1 ⟨r, rfl, hr, hb0⟩
    have G1 : Hid (Below w.heap.size w v1) := G0.out.trans (hb0.mono G0.out.size)
    clear hb0
    cases r with
    | false =>
      clear hr
      go_wp2_with fail
      refine (awake14_any v1).mono ?_
      rintro e wz ⟨rfl, hbz⟩
      have HZ : Hid (Below w.heap.size w wz) := G1.out.trans (hbz.mono G1.out.size)
      clear hbz
      go_wp2_with fail
      go_ret
      exact ⟨rfl, HZ.out⟩
    | true =>
      have HFI1 := Lib.hid (hr rfl)
      clear hr
      have HF2 := Lib.hid (fine_any A2 n2 c2 L2 40 v1 (HO2.out.below G1.out) (by omega))
      go_wp2_with fail
      refine HF2.out.mono ?_
      rintro e v2 ⟨r, rfl, hr, hb0⟩
      have G2 : Hid (Below w.heap.size w v2) := G1.out.trans (hb0.mono G1.out.size)
      clear hb0
      cases r with
      | false =>
        clear hr
        go_wp2_with fail
        refine (awake14_any v2).mono ?_
        rintro e wz ⟨rfl, hbz⟩
        have HZ : Hid (Below w.heap.size w wz) := G2.out.trans (hbz.mono G2.out.size)
        clear hbz
        go_wp2_with fail
        go_ret
        exact ⟨rfl, HZ.out⟩
      | true =>
        have HFI2 := Lib.hid (hr rfl)
        clear hr
        have hn_0 : n ≤ 40 := by have := HFI0.out.1; rw [HO.out.len] at this; exact this
        have hn_1 : n' ≤ 40 := by have := HFI1.out.1; rw [HO'.out.len] at this; exact this
        have hn_2 : n2 ≤ 40 := by have := HFI2.out.1; rw [HO2.out.len] at this; exact this
        have HMD0 := Lib.hid (made14_any A n c L v2 (HO.out.below G2.out) ⟨by have := HFI0.out.1; omega, HFI0.out.2⟩)
        go_wp2_with fail
        refine HMD0.out.mono ?_
        rintro e m0 ⟨ua, Aa_, ca_, TA, rfl, hI0⟩
        have G3 : Hid (Below w.heap.size w m0) := G2.out.trans (hI0.out.below.mono G2.out.size)
        have HMD1 := Lib.hid (made14_any A' n' c' L' m0 (HO'.out.below G3.out) ⟨by have := HFI1.out.1; omega, HFI1.out.2⟩)
        go_wp2_with fail
        refine HMD1.out.mono ?_
        rintro e m1 ⟨ub, Ab_, cb_, TB, rfl, hI1⟩
        have G4 : Hid (Below w.heap.size w m1) := G3.out.trans (hI1.out.below.mono G3.out.size)
        have HMD2 := Lib.hid (made14_any A2 n2 c2 L2 m1 (HO2.out.below G4.out) ⟨by have := HFI2.out.1; omega, HFI2.out.2⟩)
        go_wp2_with fail
        refine HMD2.out.mono ?_
        rintro e w3 ⟨uc, Ac_, cc_, TC, rfl, hI2⟩
        have G5 : Hid (Below w.heap.size w w3) := G4.out.trans (hI2.out.below.mono G4.out.size)
        have hs0 : TA.size ≤ 40 := by have := hI0.out.size; omega
        have hs1 : TB.size ≤ 40 := by have := hI1.out.size; omega
        have hs2 : TC.size ≤ 40 := by have := hI2.out.size; omega
        have HE : Hid (TA.even ∧ TB.even ∧ Asc TA.list ∧ Asc TB.list ∧ TC.even ∧ Asc TC.list) := ⟨hI0.out.even, hI1.out.even, hI0.out.asc, hI1.out.asc, hI2.out.even, hI2.out.asc⟩
        have HS : Hid (∀ W, Below w3.heap.size w3 W → TIn All W (.pointer ua) TA ∧ TIn All W (.pointer ub) TB ∧ TIn All W (.pointer uc) TC ∧ Below w.heap.size w W) := fun W hW =>
          ⟨((hI0.out.tin.below hI1.out.below).below hI2.out.below).below hW, (hI1.out.tin.below hI2.out.below).below hW, hI2.out.tin.below hW, G5.out.trans (hW.mono G5.out.size)⟩
        clear hI0 hI1 hI2 HMD0 HMD1 HMD2
        have HU4 := Lib.hid (unionL_any TA TB (.pointer ua) (.pointer ub) w3 (HS.out w3 (Below.refl _ _)).1 (HS.out w3 (Below.refl _ _)).2.1 HE.out.1 HE.out.2.1 HE.out.2.2.1 HE.out.2.2.2.1 (by omega))
        go_wp2_with fail
        refine HU4.out.mono ?_
        rintro e w4 ⟨x4, T4, rfl, h4⟩
        have C3_4 : Hid (Below w3.heap.size w3 w4) := h4.out.2.2.2.2
        have z4 := h4.out.2.2.2.1
        have Q4 : Hid (T4.list = uniL TA.list TB.list) := h4.out.2.2.1
        have hz4 : T4.size ≤ 240 := by omega
        have K4 : Hid (∀ W, Below w4.heap.size w4 W → TIn All W (.pointer x4) T4) := fun W hW => h4.out.2.1.below hW
        have V4 : Hid (T4.even ∧ Asc T4.list) := ⟨h4.out.1, by rw [Q4.out]; exact uniL_asc _ _ HE.out.2.2.1⟩
        have HU5 := Lib.hid (unionL_any TB TA (.pointer ub) (.pointer ua) w4 (HS.out w4 C3_4.out).2.1 (HS.out w4 C3_4.out).1 HE.out.2.1 HE.out.1 HE.out.2.2.2.1 HE.out.2.2.1 (by omega))
        go_wp2_with fail
        refine HU5.out.mono ?_
        rintro e w5 ⟨x5, T5, rfl, h5⟩
        have C3_5 : Hid (Below w3.heap.size w3 w5) := C3_4.out.trans (h5.out.2.2.2.2.mono C3_4.out.size)
        have C4_5 : Hid (Below w4.heap.size w4 w5) := h5.out.2.2.2.2
        have z5 := h5.out.2.2.2.1
        have Q5 : Hid (T5.list = uniL TB.list TA.list) := h5.out.2.2.1
        have hz5 : T5.size ≤ 240 := by omega
        have K5 : Hid (∀ W, Below w5.heap.size w5 W → TIn All W (.pointer x5) T5) := fun W hW => h5.out.2.1.below hW
        have V5 : Hid (T5.even ∧ Asc T5.list) := ⟨h5.out.1, by rw [Q5.out]; exact uniL_asc _ _ HE.out.2.2.2.1⟩
        have HU6 := Lib.hid (bothL_any TA TB (.pointer ua) (.pointer ub) w5 (HS.out w5 C3_5.out).1 (HS.out w5 C3_5.out).2.1 HE.out.1 HE.out.2.1 HE.out.2.2.1 HE.out.2.2.2.1 (by omega))
        go_wp2_with fail
        refine HU6.out.mono ?_
        rintro e w6 ⟨x6, T6, rfl, h6⟩
        have C3_6 : Hid (Below w3.heap.size w3 w6) := C3_5.out.trans (h6.out.2.2.2.2.mono C3_5.out.size)
        have C4_6 : Hid (Below w4.heap.size w4 w6) := C4_5.out.trans (h6.out.2.2.2.2.mono C4_5.out.size)
        have C5_6 : Hid (Below w5.heap.size w5 w6) := h6.out.2.2.2.2
        have z6 := h6.out.2.2.2.1
        have Q6 : Hid (T6.list = partL TA.list TB.list true) := h6.out.2.2.1
        have hz6 : T6.size ≤ 240 := by omega
        have K6 : Hid (∀ W, Below w6.heap.size w6 W → TIn All W (.pointer x6) T6) := fun W hW => h6.out.2.1.below hW
        have V6 : Hid (T6.even ∧ Asc T6.list) := ⟨h6.out.1, by rw [Q6.out]; exact partL_asc _ _ _ HE.out.2.2.1⟩
        have HU7 := Lib.hid (bothL_any TB TA (.pointer ub) (.pointer ua) w6 (HS.out w6 C3_6.out).2.1 (HS.out w6 C3_6.out).1 HE.out.2.1 HE.out.1 HE.out.2.2.2.1 HE.out.2.2.1 (by omega))
        go_wp2_with fail
        refine HU7.out.mono ?_
        rintro e w7 ⟨x7, T7, rfl, h7⟩
        have C3_7 : Hid (Below w3.heap.size w3 w7) := C3_6.out.trans (h7.out.2.2.2.2.mono C3_6.out.size)
        have C4_7 : Hid (Below w4.heap.size w4 w7) := C4_6.out.trans (h7.out.2.2.2.2.mono C4_6.out.size)
        have C5_7 : Hid (Below w5.heap.size w5 w7) := C5_6.out.trans (h7.out.2.2.2.2.mono C5_6.out.size)
        have C6_7 : Hid (Below w6.heap.size w6 w7) := h7.out.2.2.2.2
        have z7 := h7.out.2.2.2.1
        have Q7 : Hid (T7.list = partL TB.list TA.list true) := h7.out.2.2.1
        have hz7 : T7.size ≤ 240 := by omega
        have K7 : Hid (∀ W, Below w7.heap.size w7 W → TIn All W (.pointer x7) T7) := fun W hW => h7.out.2.1.below hW
        have V7 : Hid (T7.even ∧ Asc T7.list) := ⟨h7.out.1, by rw [Q7.out]; exact partL_asc _ _ _ HE.out.2.2.2.1⟩
        have HU8 := Lib.hid (odd_any TA TB (.pointer ua) (.pointer ub) w7 (HS.out w7 C3_7.out).1 (HS.out w7 C3_7.out).2.1 HE.out.1 HE.out.2.1 HE.out.2.2.1 HE.out.2.2.2.1 (by omega))
        go_wp2_with fail
        refine HU8.out.mono ?_
        rintro e w8 ⟨x8, T8, rfl, h8⟩
        have C3_8 : Hid (Below w3.heap.size w3 w8) := C3_7.out.trans (h8.out.2.2.2.2.mono C3_7.out.size)
        have C4_8 : Hid (Below w4.heap.size w4 w8) := C4_7.out.trans (h8.out.2.2.2.2.mono C4_7.out.size)
        have C5_8 : Hid (Below w5.heap.size w5 w8) := C5_7.out.trans (h8.out.2.2.2.2.mono C5_7.out.size)
        have C6_8 : Hid (Below w6.heap.size w6 w8) := C6_7.out.trans (h8.out.2.2.2.2.mono C6_7.out.size)
        have C7_8 : Hid (Below w7.heap.size w7 w8) := h8.out.2.2.2.2
        have z8 := h8.out.2.2.2.1
        have Q8 : Hid (T8.list = oddL TA.list TB.list) := h8.out.2.2.1
        have hz8 : T8.size ≤ 240 := by omega
        have K8 : Hid (∀ W, Below w8.heap.size w8 W → TIn All W (.pointer x8) T8) := fun W hW => h8.out.2.1.below hW
        have V8 : Hid (T8.even ∧ Asc T8.list) := ⟨h8.out.1, by rw [Q8.out]; exact odd_asc _ _ HE.out.2.2.1⟩
        have HU9 := Lib.hid (odd_any TB TA (.pointer ub) (.pointer ua) w8 (HS.out w8 C3_8.out).2.1 (HS.out w8 C3_8.out).1 HE.out.2.1 HE.out.1 HE.out.2.2.2.1 HE.out.2.2.1 (by omega))
        go_wp2_with fail
        refine HU9.out.mono ?_
        rintro e w9 ⟨x9, T9, rfl, h9⟩
        have C3_9 : Hid (Below w3.heap.size w3 w9) := C3_8.out.trans (h9.out.2.2.2.2.mono C3_8.out.size)
        have C4_9 : Hid (Below w4.heap.size w4 w9) := C4_8.out.trans (h9.out.2.2.2.2.mono C4_8.out.size)
        have C5_9 : Hid (Below w5.heap.size w5 w9) := C5_8.out.trans (h9.out.2.2.2.2.mono C5_8.out.size)
        have C6_9 : Hid (Below w6.heap.size w6 w9) := C6_8.out.trans (h9.out.2.2.2.2.mono C6_8.out.size)
        have C7_9 : Hid (Below w7.heap.size w7 w9) := C7_8.out.trans (h9.out.2.2.2.2.mono C7_8.out.size)
        have C8_9 : Hid (Below w8.heap.size w8 w9) := h9.out.2.2.2.2
        have z9 := h9.out.2.2.2.1
        have Q9 : Hid (T9.list = oddL TB.list TA.list) := h9.out.2.2.1
        have hz9 : T9.size ≤ 240 := by omega
        have K9 : Hid (∀ W, Below w9.heap.size w9 W → TIn All W (.pointer x9) T9) := fun W hW => h9.out.2.1.below hW
        have V9 : Hid (T9.even ∧ Asc T9.list) := ⟨h9.out.1, by rw [Q9.out]; exact odd_asc _ _ HE.out.2.2.2.1⟩
        go_wp2_with fail
        go_loopw [66] (fun v w10 => ∃ i : Nat, v = .int .i64 (i : Int) ∧ i ≤ 3 ∧ Hid (Below w9.heap.size w9 w10)) (fun v _ => 3 - (intOf v).toNat)
        case atStart => exact ⟨0, rfl, by omega, Lib.hid (Below.refl _ _)⟩
        case round =>
        obtain ⟨i, rfl, hi, hI⟩ := hrel
        generalize wr = w10 at *
        have C3_10 : Hid (Below w3.heap.size w3 w10) := C3_9.out.trans (hI.out.mono C3_9.out.size)
        have C4_10 : Hid (Below w4.heap.size w4 w10) := C4_9.out.trans (hI.out.mono C4_9.out.size)
        have C5_10 : Hid (Below w5.heap.size w5 w10) := C5_9.out.trans (hI.out.mono C5_9.out.size)
        have C6_10 : Hid (Below w6.heap.size w6 w10) := C6_9.out.trans (hI.out.mono C6_9.out.size)
        have C7_10 : Hid (Below w7.heap.size w7 w10) := C7_9.out.trans (hI.out.mono C7_9.out.size)
        have C8_10 : Hid (Below w8.heap.size w8 w10) := C8_9.out.trans (hI.out.mono C8_9.out.size)
        have C9_10 : Hid (Below w9.heap.size w9 w10) := hI.out
        rcases (by omega : i = 0 ∨ i = 1 ∨ i = 2 ∨ i = 3) with rfl | rfl | rfl | rfl
        · have hix := fun W => ixt0 W x4 x5 x6 x7 x8 x9
          have hbx0 : Below w10.heap.size w10 (w10.alloc (.cells #[.pointer x4, .pointer x5] 60)) := (Below.refl _ _).alloc (Nat.le_refl _) _
          have hrow := heap_new w10 (.cells #[.pointer x4, .pointer x5] 60)
          have HBX : Hid (∀ W, Below (w10.alloc (.cells #[.pointer x4, .pointer x5] 60)).heap.size (w10.alloc (.cells #[.pointer x4, .pointer x5] 60)) W → W.cell? ⟨w10.heap.size, 0, none⟩ = some (.pointer x4) ∧ W.cell? ⟨w10.heap.size, 1, none⟩ = some (.pointer x5)) := fun W h => by
            have h2 := (h.block w10.heap.size (by simp)).trans hrow
            exact ⟨cell_of_row W w10.heap.size 0 _ _ _ h2, cell_of_row W w10.heap.size 1 _ _ _ h2⟩
          have C3_11 : Hid (Below w3.heap.size w3 (w10.alloc (.cells #[.pointer x4, .pointer x5] 60))) := C3_10.out.trans (hbx0.mono C3_10.out.size)
          have C4_11 : Hid (Below w4.heap.size w4 (w10.alloc (.cells #[.pointer x4, .pointer x5] 60))) := C4_10.out.trans (hbx0.mono C4_10.out.size)
          have C5_11 : Hid (Below w5.heap.size w5 (w10.alloc (.cells #[.pointer x4, .pointer x5] 60))) := C5_10.out.trans (hbx0.mono C5_10.out.size)
          have C6_11 : Hid (Below w6.heap.size w6 (w10.alloc (.cells #[.pointer x4, .pointer x5] 60))) := C6_10.out.trans (hbx0.mono C6_10.out.size)
          have C7_11 : Hid (Below w7.heap.size w7 (w10.alloc (.cells #[.pointer x4, .pointer x5] 60))) := C7_10.out.trans (hbx0.mono C7_10.out.size)
          have C8_11 : Hid (Below w8.heap.size w8 (w10.alloc (.cells #[.pointer x4, .pointer x5] 60))) := C8_10.out.trans (hbx0.mono C8_10.out.size)
          have C9_11 : Hid (Below w9.heap.size w9 (w10.alloc (.cells #[.pointer x4, .pointer x5] 60))) := C9_10.out.trans (hbx0.mono C9_10.out.size)
          clear hbx0 hrow
          go_upto_region 9 with fail
          generalize w10.heap.size = g at *
          generalize w10.alloc (.cells #[.pointer x4, .pointer x5] 60) = w11 at *
          obtain ⟨p0, p1⟩ := HBX.out w11 (Below.refl _ _)
          have HSB11 := Lib.hid (subset_any T4 T5 (.pointer x4) (.pointer x5) w11 (K4.out w11 C4_11.out) (K5.out w11 C5_11.out) V4.out.1 V5.out.1 V4.out.2 V5.out.2 (by omega) true ⟨fun _ => (by rw [Q4.out, Q5.out]; exact uni_turn _ _ HE.out.2.2.1 HE.out.2.2.2.1), fun _ => rfl⟩)
          go_wp2_with fail
          refine HSB11.out.mono ?_
          rintro e w12 ⟨rfl, hbx⟩
          have C3_12 : Hid (Below w3.heap.size w3 w12) := C3_11.out.trans (hbx.mono C3_11.out.size)
          have C4_12 : Hid (Below w4.heap.size w4 w12) := C4_11.out.trans (hbx.mono C4_11.out.size)
          have C5_12 : Hid (Below w5.heap.size w5 w12) := C5_11.out.trans (hbx.mono C5_11.out.size)
          have C6_12 : Hid (Below w6.heap.size w6 w12) := C6_11.out.trans (hbx.mono C6_11.out.size)
          have C7_12 : Hid (Below w7.heap.size w7 w12) := C7_11.out.trans (hbx.mono C7_11.out.size)
          have C8_12 : Hid (Below w8.heap.size w8 w12) := C8_11.out.trans (hbx.mono C8_11.out.size)
          have C9_12 : Hid (Below w9.heap.size w9 w12) := C9_11.out.trans (hbx.mono C9_11.out.size)
          have C11_12 : Hid (Below w11.heap.size w11 w12) := hbx
          clear hbx
          obtain ⟨p2, p3⟩ := HBX.out w12 C11_12.out
          have HSB12 := Lib.hid (subset_any T5 T4 (.pointer x5) (.pointer x4) w12 (K5.out w12 C5_12.out) (K4.out w12 C4_12.out) V5.out.1 V4.out.1 V5.out.2 V4.out.2 (by omega) true ⟨fun _ => (by rw [Q5.out, Q4.out]; exact uni_turn _ _ HE.out.2.2.2.1 HE.out.2.2.1), fun _ => rfl⟩)
          go_wp2_with fail
          refine HSB12.out.mono ?_
          rintro e w13 ⟨rfl, hbx⟩
          have C3_13 : Hid (Below w3.heap.size w3 w13) := C3_12.out.trans (hbx.mono C3_12.out.size)
          have C4_13 : Hid (Below w4.heap.size w4 w13) := C4_12.out.trans (hbx.mono C4_12.out.size)
          have C5_13 : Hid (Below w5.heap.size w5 w13) := C5_12.out.trans (hbx.mono C5_12.out.size)
          have C6_13 : Hid (Below w6.heap.size w6 w13) := C6_12.out.trans (hbx.mono C6_12.out.size)
          have C7_13 : Hid (Below w7.heap.size w7 w13) := C7_12.out.trans (hbx.mono C7_12.out.size)
          have C8_13 : Hid (Below w8.heap.size w8 w13) := C8_12.out.trans (hbx.mono C8_12.out.size)
          have C9_13 : Hid (Below w9.heap.size w9 w13) := C9_12.out.trans (hbx.mono C9_12.out.size)
          have C11_13 : Hid (Below w11.heap.size w11 w13) := C11_12.out.trans (hbx.mono C11_12.out.size)
          clear hbx
          clear p0 p1 p2 p3 hix
          go_wp2_with fail
          go_roundw
          case rel => exact ⟨1, by go_num, by omega, Lib.hid C9_13.out⟩
          case measure => simp [intOf]
        · have hix := fun W => ixt1 W x4 x5 x6 x7 x8 x9
          have hbx0 : Below w10.heap.size w10 (w10.alloc (.cells #[.pointer x6, .pointer x7] 60)) := (Below.refl _ _).alloc (Nat.le_refl _) _
          have hrow := heap_new w10 (.cells #[.pointer x6, .pointer x7] 60)
          have HBX : Hid (∀ W, Below (w10.alloc (.cells #[.pointer x6, .pointer x7] 60)).heap.size (w10.alloc (.cells #[.pointer x6, .pointer x7] 60)) W → W.cell? ⟨w10.heap.size, 0, none⟩ = some (.pointer x6) ∧ W.cell? ⟨w10.heap.size, 1, none⟩ = some (.pointer x7)) := fun W h => by
            have h2 := (h.block w10.heap.size (by simp)).trans hrow
            exact ⟨cell_of_row W w10.heap.size 0 _ _ _ h2, cell_of_row W w10.heap.size 1 _ _ _ h2⟩
          have C3_11 : Hid (Below w3.heap.size w3 (w10.alloc (.cells #[.pointer x6, .pointer x7] 60))) := C3_10.out.trans (hbx0.mono C3_10.out.size)
          have C4_11 : Hid (Below w4.heap.size w4 (w10.alloc (.cells #[.pointer x6, .pointer x7] 60))) := C4_10.out.trans (hbx0.mono C4_10.out.size)
          have C5_11 : Hid (Below w5.heap.size w5 (w10.alloc (.cells #[.pointer x6, .pointer x7] 60))) := C5_10.out.trans (hbx0.mono C5_10.out.size)
          have C6_11 : Hid (Below w6.heap.size w6 (w10.alloc (.cells #[.pointer x6, .pointer x7] 60))) := C6_10.out.trans (hbx0.mono C6_10.out.size)
          have C7_11 : Hid (Below w7.heap.size w7 (w10.alloc (.cells #[.pointer x6, .pointer x7] 60))) := C7_10.out.trans (hbx0.mono C7_10.out.size)
          have C8_11 : Hid (Below w8.heap.size w8 (w10.alloc (.cells #[.pointer x6, .pointer x7] 60))) := C8_10.out.trans (hbx0.mono C8_10.out.size)
          have C9_11 : Hid (Below w9.heap.size w9 (w10.alloc (.cells #[.pointer x6, .pointer x7] 60))) := C9_10.out.trans (hbx0.mono C9_10.out.size)
          clear hbx0 hrow
          go_upto_region 9 with fail
          generalize w10.heap.size = g at *
          generalize w10.alloc (.cells #[.pointer x6, .pointer x7] 60) = w11 at *
          obtain ⟨p0, p1⟩ := HBX.out w11 (Below.refl _ _)
          have HSB11 := Lib.hid (subset_any T6 T7 (.pointer x6) (.pointer x7) w11 (K6.out w11 C6_11.out) (K7.out w11 C7_11.out) V6.out.1 V7.out.1 V6.out.2 V7.out.2 (by omega) true ⟨fun _ => (by rw [Q6.out, Q7.out]; exact both_turn _ _ HE.out.2.2.1 HE.out.2.2.2.1), fun _ => rfl⟩)
          go_wp2_with fail
          refine HSB11.out.mono ?_
          rintro e w12 ⟨rfl, hbx⟩
          have C3_12 : Hid (Below w3.heap.size w3 w12) := C3_11.out.trans (hbx.mono C3_11.out.size)
          have C4_12 : Hid (Below w4.heap.size w4 w12) := C4_11.out.trans (hbx.mono C4_11.out.size)
          have C5_12 : Hid (Below w5.heap.size w5 w12) := C5_11.out.trans (hbx.mono C5_11.out.size)
          have C6_12 : Hid (Below w6.heap.size w6 w12) := C6_11.out.trans (hbx.mono C6_11.out.size)
          have C7_12 : Hid (Below w7.heap.size w7 w12) := C7_11.out.trans (hbx.mono C7_11.out.size)
          have C8_12 : Hid (Below w8.heap.size w8 w12) := C8_11.out.trans (hbx.mono C8_11.out.size)
          have C9_12 : Hid (Below w9.heap.size w9 w12) := C9_11.out.trans (hbx.mono C9_11.out.size)
          have C11_12 : Hid (Below w11.heap.size w11 w12) := hbx
          clear hbx
          obtain ⟨p2, p3⟩ := HBX.out w12 C11_12.out
          have HSB12 := Lib.hid (subset_any T7 T6 (.pointer x7) (.pointer x6) w12 (K7.out w12 C7_12.out) (K6.out w12 C6_12.out) V7.out.1 V6.out.1 V7.out.2 V6.out.2 (by omega) true ⟨fun _ => (by rw [Q7.out, Q6.out]; exact both_turn _ _ HE.out.2.2.2.1 HE.out.2.2.1), fun _ => rfl⟩)
          go_wp2_with fail
          refine HSB12.out.mono ?_
          rintro e w13 ⟨rfl, hbx⟩
          have C3_13 : Hid (Below w3.heap.size w3 w13) := C3_12.out.trans (hbx.mono C3_12.out.size)
          have C4_13 : Hid (Below w4.heap.size w4 w13) := C4_12.out.trans (hbx.mono C4_12.out.size)
          have C5_13 : Hid (Below w5.heap.size w5 w13) := C5_12.out.trans (hbx.mono C5_12.out.size)
          have C6_13 : Hid (Below w6.heap.size w6 w13) := C6_12.out.trans (hbx.mono C6_12.out.size)
          have C7_13 : Hid (Below w7.heap.size w7 w13) := C7_12.out.trans (hbx.mono C7_12.out.size)
          have C8_13 : Hid (Below w8.heap.size w8 w13) := C8_12.out.trans (hbx.mono C8_12.out.size)
          have C9_13 : Hid (Below w9.heap.size w9 w13) := C9_12.out.trans (hbx.mono C9_12.out.size)
          have C11_13 : Hid (Below w11.heap.size w11 w13) := C11_12.out.trans (hbx.mono C11_12.out.size)
          clear hbx
          clear p0 p1 p2 p3 hix
          go_wp2_with fail
          go_roundw
          case rel => exact ⟨2, by go_num, by omega, Lib.hid C9_13.out⟩
          case measure => simp [intOf]
        · have hix := fun W => ixt2 W x4 x5 x6 x7 x8 x9
          have hbx0 : Below w10.heap.size w10 (w10.alloc (.cells #[.pointer x8, .pointer x9] 60)) := (Below.refl _ _).alloc (Nat.le_refl _) _
          have hrow := heap_new w10 (.cells #[.pointer x8, .pointer x9] 60)
          have HBX : Hid (∀ W, Below (w10.alloc (.cells #[.pointer x8, .pointer x9] 60)).heap.size (w10.alloc (.cells #[.pointer x8, .pointer x9] 60)) W → W.cell? ⟨w10.heap.size, 0, none⟩ = some (.pointer x8) ∧ W.cell? ⟨w10.heap.size, 1, none⟩ = some (.pointer x9)) := fun W h => by
            have h2 := (h.block w10.heap.size (by simp)).trans hrow
            exact ⟨cell_of_row W w10.heap.size 0 _ _ _ h2, cell_of_row W w10.heap.size 1 _ _ _ h2⟩
          have C3_11 : Hid (Below w3.heap.size w3 (w10.alloc (.cells #[.pointer x8, .pointer x9] 60))) := C3_10.out.trans (hbx0.mono C3_10.out.size)
          have C4_11 : Hid (Below w4.heap.size w4 (w10.alloc (.cells #[.pointer x8, .pointer x9] 60))) := C4_10.out.trans (hbx0.mono C4_10.out.size)
          have C5_11 : Hid (Below w5.heap.size w5 (w10.alloc (.cells #[.pointer x8, .pointer x9] 60))) := C5_10.out.trans (hbx0.mono C5_10.out.size)
          have C6_11 : Hid (Below w6.heap.size w6 (w10.alloc (.cells #[.pointer x8, .pointer x9] 60))) := C6_10.out.trans (hbx0.mono C6_10.out.size)
          have C7_11 : Hid (Below w7.heap.size w7 (w10.alloc (.cells #[.pointer x8, .pointer x9] 60))) := C7_10.out.trans (hbx0.mono C7_10.out.size)
          have C8_11 : Hid (Below w8.heap.size w8 (w10.alloc (.cells #[.pointer x8, .pointer x9] 60))) := C8_10.out.trans (hbx0.mono C8_10.out.size)
          have C9_11 : Hid (Below w9.heap.size w9 (w10.alloc (.cells #[.pointer x8, .pointer x9] 60))) := C9_10.out.trans (hbx0.mono C9_10.out.size)
          clear hbx0 hrow
          go_upto_region 9 with fail
          generalize w10.heap.size = g at *
          generalize w10.alloc (.cells #[.pointer x8, .pointer x9] 60) = w11 at *
          obtain ⟨p0, p1⟩ := HBX.out w11 (Below.refl _ _)
          have HSB11 := Lib.hid (subset_any T8 T9 (.pointer x8) (.pointer x9) w11 (K8.out w11 C8_11.out) (K9.out w11 C9_11.out) V8.out.1 V9.out.1 V8.out.2 V9.out.2 (by omega) true ⟨fun _ => (by rw [Q8.out, Q9.out]; exact odd_turn _ _ HE.out.2.2.1 HE.out.2.2.2.1), fun _ => rfl⟩)
          go_wp2_with fail
          refine HSB11.out.mono ?_
          rintro e w12 ⟨rfl, hbx⟩
          have C3_12 : Hid (Below w3.heap.size w3 w12) := C3_11.out.trans (hbx.mono C3_11.out.size)
          have C4_12 : Hid (Below w4.heap.size w4 w12) := C4_11.out.trans (hbx.mono C4_11.out.size)
          have C5_12 : Hid (Below w5.heap.size w5 w12) := C5_11.out.trans (hbx.mono C5_11.out.size)
          have C6_12 : Hid (Below w6.heap.size w6 w12) := C6_11.out.trans (hbx.mono C6_11.out.size)
          have C7_12 : Hid (Below w7.heap.size w7 w12) := C7_11.out.trans (hbx.mono C7_11.out.size)
          have C8_12 : Hid (Below w8.heap.size w8 w12) := C8_11.out.trans (hbx.mono C8_11.out.size)
          have C9_12 : Hid (Below w9.heap.size w9 w12) := C9_11.out.trans (hbx.mono C9_11.out.size)
          have C11_12 : Hid (Below w11.heap.size w11 w12) := hbx
          clear hbx
          obtain ⟨p2, p3⟩ := HBX.out w12 C11_12.out
          have HSB12 := Lib.hid (subset_any T9 T8 (.pointer x9) (.pointer x8) w12 (K9.out w12 C9_12.out) (K8.out w12 C8_12.out) V9.out.1 V8.out.1 V9.out.2 V8.out.2 (by omega) true ⟨fun _ => (by rw [Q9.out, Q8.out]; exact odd_turn _ _ HE.out.2.2.2.1 HE.out.2.2.1), fun _ => rfl⟩)
          go_wp2_with fail
          refine HSB12.out.mono ?_
          rintro e w13 ⟨rfl, hbx⟩
          have C3_13 : Hid (Below w3.heap.size w3 w13) := C3_12.out.trans (hbx.mono C3_12.out.size)
          have C4_13 : Hid (Below w4.heap.size w4 w13) := C4_12.out.trans (hbx.mono C4_12.out.size)
          have C5_13 : Hid (Below w5.heap.size w5 w13) := C5_12.out.trans (hbx.mono C5_12.out.size)
          have C6_13 : Hid (Below w6.heap.size w6 w13) := C6_12.out.trans (hbx.mono C6_12.out.size)
          have C7_13 : Hid (Below w7.heap.size w7 w13) := C7_12.out.trans (hbx.mono C7_12.out.size)
          have C8_13 : Hid (Below w8.heap.size w8 w13) := C8_12.out.trans (hbx.mono C8_12.out.size)
          have C9_13 : Hid (Below w9.heap.size w9 w13) := C9_12.out.trans (hbx.mono C9_12.out.size)
          have C11_13 : Hid (Below w11.heap.size w11 w13) := C11_12.out.trans (hbx.mono C11_12.out.size)
          clear hbx
          clear p0 p1 p2 p3 hix
          go_wp2_with fail
          go_roundw
          case rel => exact ⟨3, by go_num, by omega, Lib.hid C9_13.out⟩
          case measure => simp [intOf]
        · have HU11 := Lib.hid (unionL_any TA TB (.pointer ua) (.pointer ub) w10 (HS.out w10 C3_10.out).1 (HS.out w10 C3_10.out).2.1 HE.out.1 HE.out.2.1 HE.out.2.2.1 HE.out.2.2.2.1 (by omega))
          go_wp2_with fail
          refine HU11.out.mono ?_
          rintro e w11 ⟨x11, T11, rfl, h11⟩
          have C3_11 : Hid (Below w3.heap.size w3 w11) := C3_10.out.trans (h11.out.2.2.2.2.mono C3_10.out.size)
          have C4_11 : Hid (Below w4.heap.size w4 w11) := C4_10.out.trans (h11.out.2.2.2.2.mono C4_10.out.size)
          have C5_11 : Hid (Below w5.heap.size w5 w11) := C5_10.out.trans (h11.out.2.2.2.2.mono C5_10.out.size)
          have C6_11 : Hid (Below w6.heap.size w6 w11) := C6_10.out.trans (h11.out.2.2.2.2.mono C6_10.out.size)
          have C7_11 : Hid (Below w7.heap.size w7 w11) := C7_10.out.trans (h11.out.2.2.2.2.mono C7_10.out.size)
          have C8_11 : Hid (Below w8.heap.size w8 w11) := C8_10.out.trans (h11.out.2.2.2.2.mono C8_10.out.size)
          have C9_11 : Hid (Below w9.heap.size w9 w11) := C9_10.out.trans (h11.out.2.2.2.2.mono C9_10.out.size)
          have C10_11 : Hid (Below w10.heap.size w10 w11) := h11.out.2.2.2.2
          have z11 := h11.out.2.2.2.1
          have Q11 : Hid (T11.list = uniL TA.list TB.list) := h11.out.2.2.1
          have hz11 : T11.size ≤ 240 := by omega
          have K11 : Hid (∀ W, Below w11.heap.size w11 W → TIn All W (.pointer x11) T11) := fun W hW => h11.out.2.1.below hW
          have V11 : Hid (T11.even ∧ Asc T11.list) := ⟨h11.out.1, by rw [Q11.out]; exact uniL_asc _ _ HE.out.2.2.1⟩
          have HU12 := Lib.hid (unionL_any T11 TC (.pointer x11) (.pointer uc) w11 (K11.out w11 (Below.refl _ _)) (HS.out w11 C3_11.out).2.2.1 V11.out.1 HE.out.2.2.2.2.1 V11.out.2 HE.out.2.2.2.2.2 (by omega))
          go_wp2_with fail
          refine HU12.out.mono ?_
          rintro e w12 ⟨x12, T12, rfl, h12⟩
          have C3_12 : Hid (Below w3.heap.size w3 w12) := C3_11.out.trans (h12.out.2.2.2.2.mono C3_11.out.size)
          have C4_12 : Hid (Below w4.heap.size w4 w12) := C4_11.out.trans (h12.out.2.2.2.2.mono C4_11.out.size)
          have C5_12 : Hid (Below w5.heap.size w5 w12) := C5_11.out.trans (h12.out.2.2.2.2.mono C5_11.out.size)
          have C6_12 : Hid (Below w6.heap.size w6 w12) := C6_11.out.trans (h12.out.2.2.2.2.mono C6_11.out.size)
          have C7_12 : Hid (Below w7.heap.size w7 w12) := C7_11.out.trans (h12.out.2.2.2.2.mono C7_11.out.size)
          have C8_12 : Hid (Below w8.heap.size w8 w12) := C8_11.out.trans (h12.out.2.2.2.2.mono C8_11.out.size)
          have C9_12 : Hid (Below w9.heap.size w9 w12) := C9_11.out.trans (h12.out.2.2.2.2.mono C9_11.out.size)
          have C10_12 : Hid (Below w10.heap.size w10 w12) := C10_11.out.trans (h12.out.2.2.2.2.mono C10_11.out.size)
          have C11_12 : Hid (Below w11.heap.size w11 w12) := h12.out.2.2.2.2
          have z12 := h12.out.2.2.2.1
          have Q12 : Hid (T12.list = uniL (uniL TA.list TB.list) TC.list) := (h12.out.2.2.1.trans (by rw [Q11.out]))
          have hz12 : T12.size ≤ 240 := by omega
          have K12 : Hid (∀ W, Below w12.heap.size w12 W → TIn All W (.pointer x12) T12) := fun W hW => h12.out.2.1.below hW
          have V12 : Hid (T12.even ∧ Asc T12.list) := ⟨h12.out.1, by rw [Q12.out]; exact uniL_asc _ _ (uniL_asc _ _ HE.out.2.2.1)⟩
          have HLI12 := Lib.hid (list_any T12 (.pointer x12) w12 (K12.out w12 (Below.refl _ _)) (by omega))
          go_wp2_with fail
          refine HLI12.out.mono ?_
          rintro e w13 ⟨B13, d13, rfl, q1, q2, q3⟩
          have C3_13 : Hid (Below w3.heap.size w3 w13) := C3_12.out.trans (q3.mono C3_12.out.size)
          have C4_13 : Hid (Below w4.heap.size w4 w13) := C4_12.out.trans (q3.mono C4_12.out.size)
          have C5_13 : Hid (Below w5.heap.size w5 w13) := C5_12.out.trans (q3.mono C5_12.out.size)
          have C6_13 : Hid (Below w6.heap.size w6 w13) := C6_12.out.trans (q3.mono C6_12.out.size)
          have C7_13 : Hid (Below w7.heap.size w7 w13) := C7_12.out.trans (q3.mono C7_12.out.size)
          have C8_13 : Hid (Below w8.heap.size w8 w13) := C8_12.out.trans (q3.mono C8_12.out.size)
          have C9_13 : Hid (Below w9.heap.size w9 w13) := C9_12.out.trans (q3.mono C9_12.out.size)
          have C10_13 : Hid (Below w10.heap.size w10 w13) := C10_12.out.trans (q3.mono C10_12.out.size)
          have C11_13 : Hid (Below w11.heap.size w11 w13) := C11_12.out.trans (q3.mono C11_12.out.size)
          have C12_13 : Hid (Below w12.heap.size w12 w13) := q3
          have R13 : Hid (∀ W, Below w13.heap.size w13 W → LIn All W B13 T12.size T12.list) := fun W hW => (q2.imp fun _ _ _ => trivial).below hW
          clear q1 q2 q3
          have HU14 := Lib.hid (unionL_any TB TC (.pointer ub) (.pointer uc) w13 (HS.out w13 C3_13.out).2.1 (HS.out w13 C3_13.out).2.2.1 HE.out.2.1 HE.out.2.2.2.2.1 HE.out.2.2.2.1 HE.out.2.2.2.2.2 (by omega))
          go_wp2_with fail
          refine HU14.out.mono ?_
          rintro e w14 ⟨x14, T14, rfl, h14⟩
          have C3_14 : Hid (Below w3.heap.size w3 w14) := C3_13.out.trans (h14.out.2.2.2.2.mono C3_13.out.size)
          have C4_14 : Hid (Below w4.heap.size w4 w14) := C4_13.out.trans (h14.out.2.2.2.2.mono C4_13.out.size)
          have C5_14 : Hid (Below w5.heap.size w5 w14) := C5_13.out.trans (h14.out.2.2.2.2.mono C5_13.out.size)
          have C6_14 : Hid (Below w6.heap.size w6 w14) := C6_13.out.trans (h14.out.2.2.2.2.mono C6_13.out.size)
          have C7_14 : Hid (Below w7.heap.size w7 w14) := C7_13.out.trans (h14.out.2.2.2.2.mono C7_13.out.size)
          have C8_14 : Hid (Below w8.heap.size w8 w14) := C8_13.out.trans (h14.out.2.2.2.2.mono C8_13.out.size)
          have C9_14 : Hid (Below w9.heap.size w9 w14) := C9_13.out.trans (h14.out.2.2.2.2.mono C9_13.out.size)
          have C10_14 : Hid (Below w10.heap.size w10 w14) := C10_13.out.trans (h14.out.2.2.2.2.mono C10_13.out.size)
          have C11_14 : Hid (Below w11.heap.size w11 w14) := C11_13.out.trans (h14.out.2.2.2.2.mono C11_13.out.size)
          have C12_14 : Hid (Below w12.heap.size w12 w14) := C12_13.out.trans (h14.out.2.2.2.2.mono C12_13.out.size)
          have C13_14 : Hid (Below w13.heap.size w13 w14) := h14.out.2.2.2.2
          have z14 := h14.out.2.2.2.1
          have Q14 : Hid (T14.list = uniL TB.list TC.list) := h14.out.2.2.1
          have hz14 : T14.size ≤ 240 := by omega
          have K14 : Hid (∀ W, Below w14.heap.size w14 W → TIn All W (.pointer x14) T14) := fun W hW => h14.out.2.1.below hW
          have V14 : Hid (T14.even ∧ Asc T14.list) := ⟨h14.out.1, by rw [Q14.out]; exact uniL_asc _ _ HE.out.2.2.2.1⟩
          have HU15 := Lib.hid (unionL_any TA T14 (.pointer ua) (.pointer x14) w14 (HS.out w14 C3_14.out).1 (K14.out w14 (Below.refl _ _)) HE.out.1 V14.out.1 HE.out.2.2.1 V14.out.2 (by omega))
          go_wp2_with fail
          refine HU15.out.mono ?_
          rintro e w15 ⟨x15, T15, rfl, h15⟩
          have C3_15 : Hid (Below w3.heap.size w3 w15) := C3_14.out.trans (h15.out.2.2.2.2.mono C3_14.out.size)
          have C4_15 : Hid (Below w4.heap.size w4 w15) := C4_14.out.trans (h15.out.2.2.2.2.mono C4_14.out.size)
          have C5_15 : Hid (Below w5.heap.size w5 w15) := C5_14.out.trans (h15.out.2.2.2.2.mono C5_14.out.size)
          have C6_15 : Hid (Below w6.heap.size w6 w15) := C6_14.out.trans (h15.out.2.2.2.2.mono C6_14.out.size)
          have C7_15 : Hid (Below w7.heap.size w7 w15) := C7_14.out.trans (h15.out.2.2.2.2.mono C7_14.out.size)
          have C8_15 : Hid (Below w8.heap.size w8 w15) := C8_14.out.trans (h15.out.2.2.2.2.mono C8_14.out.size)
          have C9_15 : Hid (Below w9.heap.size w9 w15) := C9_14.out.trans (h15.out.2.2.2.2.mono C9_14.out.size)
          have C10_15 : Hid (Below w10.heap.size w10 w15) := C10_14.out.trans (h15.out.2.2.2.2.mono C10_14.out.size)
          have C11_15 : Hid (Below w11.heap.size w11 w15) := C11_14.out.trans (h15.out.2.2.2.2.mono C11_14.out.size)
          have C12_15 : Hid (Below w12.heap.size w12 w15) := C12_14.out.trans (h15.out.2.2.2.2.mono C12_14.out.size)
          have C13_15 : Hid (Below w13.heap.size w13 w15) := C13_14.out.trans (h15.out.2.2.2.2.mono C13_14.out.size)
          have C14_15 : Hid (Below w14.heap.size w14 w15) := h15.out.2.2.2.2
          have z15 := h15.out.2.2.2.1
          have Q15 : Hid (T15.list = uniL TA.list (uniL TB.list TC.list)) := (h15.out.2.2.1.trans (by rw [Q14.out]))
          have hz15 : T15.size ≤ 240 := by omega
          have K15 : Hid (∀ W, Below w15.heap.size w15 W → TIn All W (.pointer x15) T15) := fun W hW => h15.out.2.1.below hW
          have V15 : Hid (T15.even ∧ Asc T15.list) := ⟨h15.out.1, by rw [Q15.out]; exact uniL_asc _ _ HE.out.2.2.1⟩
          have HLI15 := Lib.hid (list_any T15 (.pointer x15) w15 (K15.out w15 (Below.refl _ _)) (by omega))
          go_wp2_with fail
          refine HLI15.out.mono ?_
          rintro e w16 ⟨B16, d16, rfl, q1, q2, q3⟩
          have C3_16 : Hid (Below w3.heap.size w3 w16) := C3_15.out.trans (q3.mono C3_15.out.size)
          have C4_16 : Hid (Below w4.heap.size w4 w16) := C4_15.out.trans (q3.mono C4_15.out.size)
          have C5_16 : Hid (Below w5.heap.size w5 w16) := C5_15.out.trans (q3.mono C5_15.out.size)
          have C6_16 : Hid (Below w6.heap.size w6 w16) := C6_15.out.trans (q3.mono C6_15.out.size)
          have C7_16 : Hid (Below w7.heap.size w7 w16) := C7_15.out.trans (q3.mono C7_15.out.size)
          have C8_16 : Hid (Below w8.heap.size w8 w16) := C8_15.out.trans (q3.mono C8_15.out.size)
          have C9_16 : Hid (Below w9.heap.size w9 w16) := C9_15.out.trans (q3.mono C9_15.out.size)
          have C10_16 : Hid (Below w10.heap.size w10 w16) := C10_15.out.trans (q3.mono C10_15.out.size)
          have C11_16 : Hid (Below w11.heap.size w11 w16) := C11_15.out.trans (q3.mono C11_15.out.size)
          have C12_16 : Hid (Below w12.heap.size w12 w16) := C12_15.out.trans (q3.mono C12_15.out.size)
          have C13_16 : Hid (Below w13.heap.size w13 w16) := C13_15.out.trans (q3.mono C13_15.out.size)
          have C14_16 : Hid (Below w14.heap.size w14 w16) := C14_15.out.trans (q3.mono C14_15.out.size)
          have C15_16 : Hid (Below w15.heap.size w15 w16) := q3
          have R16 : Hid (∀ W, Below w16.heap.size w16 W → LIn All W B16 T15.size T15.list) := fun W hW => (q2.imp fun _ _ _ => trivial).below hW
          clear q1 q2 q3
          have HSM16 := Lib.hid (same_any T12.list T15.list B13 B16 T12.size T15.size d13 d16 w16 (R13.out w16 C13_16.out) (R16.out w16 (Below.refl _ _)) (by omega) (by omega))
          rw [decide_eq_true (show T12.list = T15.list by rw [Q12.out, Q15.out]; exact uni_third _ _ _ HE.out.2.2.1 HE.out.2.2.2.1 HE.out.2.2.2.2.2)] at HSM16
          go_wp2_with fail
          refine HSM16.out.mono ?_
          rintro e w17 ⟨rfl, hbx⟩
          have C3_17 : Hid (Below w3.heap.size w3 w17) := C3_16.out.trans (hbx.mono C3_16.out.size)
          have C4_17 : Hid (Below w4.heap.size w4 w17) := C4_16.out.trans (hbx.mono C4_16.out.size)
          have C5_17 : Hid (Below w5.heap.size w5 w17) := C5_16.out.trans (hbx.mono C5_16.out.size)
          have C6_17 : Hid (Below w6.heap.size w6 w17) := C6_16.out.trans (hbx.mono C6_16.out.size)
          have C7_17 : Hid (Below w7.heap.size w7 w17) := C7_16.out.trans (hbx.mono C7_16.out.size)
          have C8_17 : Hid (Below w8.heap.size w8 w17) := C8_16.out.trans (hbx.mono C8_16.out.size)
          have C9_17 : Hid (Below w9.heap.size w9 w17) := C9_16.out.trans (hbx.mono C9_16.out.size)
          have C10_17 : Hid (Below w10.heap.size w10 w17) := C10_16.out.trans (hbx.mono C10_16.out.size)
          have C11_17 : Hid (Below w11.heap.size w11 w17) := C11_16.out.trans (hbx.mono C11_16.out.size)
          have C12_17 : Hid (Below w12.heap.size w12 w17) := C12_16.out.trans (hbx.mono C12_16.out.size)
          have C13_17 : Hid (Below w13.heap.size w13 w17) := C13_16.out.trans (hbx.mono C13_16.out.size)
          have C14_17 : Hid (Below w14.heap.size w14 w17) := C14_16.out.trans (hbx.mono C14_16.out.size)
          have C15_17 : Hid (Below w15.heap.size w15 w17) := C15_16.out.trans (hbx.mono C15_16.out.size)
          have C16_17 : Hid (Below w16.heap.size w16 w17) := hbx
          clear hbx
          have HU18 := Lib.hid (bothL_any TA TB (.pointer ua) (.pointer ub) w17 (HS.out w17 C3_17.out).1 (HS.out w17 C3_17.out).2.1 HE.out.1 HE.out.2.1 HE.out.2.2.1 HE.out.2.2.2.1 (by omega))
          go_wp2_with fail
          refine HU18.out.mono ?_
          rintro e w18 ⟨x18, T18, rfl, h18⟩
          have C3_18 : Hid (Below w3.heap.size w3 w18) := C3_17.out.trans (h18.out.2.2.2.2.mono C3_17.out.size)
          have C4_18 : Hid (Below w4.heap.size w4 w18) := C4_17.out.trans (h18.out.2.2.2.2.mono C4_17.out.size)
          have C5_18 : Hid (Below w5.heap.size w5 w18) := C5_17.out.trans (h18.out.2.2.2.2.mono C5_17.out.size)
          have C6_18 : Hid (Below w6.heap.size w6 w18) := C6_17.out.trans (h18.out.2.2.2.2.mono C6_17.out.size)
          have C7_18 : Hid (Below w7.heap.size w7 w18) := C7_17.out.trans (h18.out.2.2.2.2.mono C7_17.out.size)
          have C8_18 : Hid (Below w8.heap.size w8 w18) := C8_17.out.trans (h18.out.2.2.2.2.mono C8_17.out.size)
          have C9_18 : Hid (Below w9.heap.size w9 w18) := C9_17.out.trans (h18.out.2.2.2.2.mono C9_17.out.size)
          have C10_18 : Hid (Below w10.heap.size w10 w18) := C10_17.out.trans (h18.out.2.2.2.2.mono C10_17.out.size)
          have C11_18 : Hid (Below w11.heap.size w11 w18) := C11_17.out.trans (h18.out.2.2.2.2.mono C11_17.out.size)
          have C12_18 : Hid (Below w12.heap.size w12 w18) := C12_17.out.trans (h18.out.2.2.2.2.mono C12_17.out.size)
          have C13_18 : Hid (Below w13.heap.size w13 w18) := C13_17.out.trans (h18.out.2.2.2.2.mono C13_17.out.size)
          have C14_18 : Hid (Below w14.heap.size w14 w18) := C14_17.out.trans (h18.out.2.2.2.2.mono C14_17.out.size)
          have C15_18 : Hid (Below w15.heap.size w15 w18) := C15_17.out.trans (h18.out.2.2.2.2.mono C15_17.out.size)
          have C16_18 : Hid (Below w16.heap.size w16 w18) := C16_17.out.trans (h18.out.2.2.2.2.mono C16_17.out.size)
          have z18 := h18.out.2.2.2.1
          have Q18 : Hid (T18.list = partL TA.list TB.list true) := h18.out.2.2.1
          have hz18 : T18.size ≤ 240 := by omega
          have K18 : Hid (∀ W, Below w18.heap.size w18 W → TIn All W (.pointer x18) T18) := fun W hW => h18.out.2.1.below hW
          have V18 : Hid (T18.even ∧ Asc T18.list) := ⟨h18.out.1, by rw [Q18.out]; exact partL_asc _ _ _ HE.out.2.2.1⟩
          have HU19 := Lib.hid (bothL_any T18 TC (.pointer x18) (.pointer uc) w18 (K18.out w18 (Below.refl _ _)) (HS.out w18 C3_18.out).2.2.1 V18.out.1 HE.out.2.2.2.2.1 V18.out.2 HE.out.2.2.2.2.2 (by omega))
          go_wp2_with fail
          refine HU19.out.mono ?_
          rintro e w19 ⟨x19, T19, rfl, h19⟩
          have C3_19 : Hid (Below w3.heap.size w3 w19) := C3_18.out.trans (h19.out.2.2.2.2.mono C3_18.out.size)
          have C4_19 : Hid (Below w4.heap.size w4 w19) := C4_18.out.trans (h19.out.2.2.2.2.mono C4_18.out.size)
          have C5_19 : Hid (Below w5.heap.size w5 w19) := C5_18.out.trans (h19.out.2.2.2.2.mono C5_18.out.size)
          have C6_19 : Hid (Below w6.heap.size w6 w19) := C6_18.out.trans (h19.out.2.2.2.2.mono C6_18.out.size)
          have C7_19 : Hid (Below w7.heap.size w7 w19) := C7_18.out.trans (h19.out.2.2.2.2.mono C7_18.out.size)
          have C8_19 : Hid (Below w8.heap.size w8 w19) := C8_18.out.trans (h19.out.2.2.2.2.mono C8_18.out.size)
          have C9_19 : Hid (Below w9.heap.size w9 w19) := C9_18.out.trans (h19.out.2.2.2.2.mono C9_18.out.size)
          have C10_19 : Hid (Below w10.heap.size w10 w19) := C10_18.out.trans (h19.out.2.2.2.2.mono C10_18.out.size)
          have C11_19 : Hid (Below w11.heap.size w11 w19) := C11_18.out.trans (h19.out.2.2.2.2.mono C11_18.out.size)
          have C12_19 : Hid (Below w12.heap.size w12 w19) := C12_18.out.trans (h19.out.2.2.2.2.mono C12_18.out.size)
          have C13_19 : Hid (Below w13.heap.size w13 w19) := C13_18.out.trans (h19.out.2.2.2.2.mono C13_18.out.size)
          have C14_19 : Hid (Below w14.heap.size w14 w19) := C14_18.out.trans (h19.out.2.2.2.2.mono C14_18.out.size)
          have C15_19 : Hid (Below w15.heap.size w15 w19) := C15_18.out.trans (h19.out.2.2.2.2.mono C15_18.out.size)
          have C16_19 : Hid (Below w16.heap.size w16 w19) := C16_18.out.trans (h19.out.2.2.2.2.mono C16_18.out.size)
          have C18_19 : Hid (Below w18.heap.size w18 w19) := h19.out.2.2.2.2
          have z19 := h19.out.2.2.2.1
          have Q19 : Hid (T19.list = partL (partL TA.list TB.list true) TC.list true) := (h19.out.2.2.1.trans (by rw [Q18.out]))
          have hz19 : T19.size ≤ 240 := by omega
          have K19 : Hid (∀ W, Below w19.heap.size w19 W → TIn All W (.pointer x19) T19) := fun W hW => h19.out.2.1.below hW
          have V19 : Hid (T19.even ∧ Asc T19.list) := ⟨h19.out.1, by rw [Q19.out]; exact partL_asc _ _ _ (partL_asc _ _ _ HE.out.2.2.1)⟩
          have HLI19 := Lib.hid (list_any T19 (.pointer x19) w19 (K19.out w19 (Below.refl _ _)) (by omega))
          go_wp2_with fail
          refine HLI19.out.mono ?_
          rintro e w20 ⟨B20, d20, rfl, q1, q2, q3⟩
          have C3_20 : Hid (Below w3.heap.size w3 w20) := C3_19.out.trans (q3.mono C3_19.out.size)
          have C4_20 : Hid (Below w4.heap.size w4 w20) := C4_19.out.trans (q3.mono C4_19.out.size)
          have C5_20 : Hid (Below w5.heap.size w5 w20) := C5_19.out.trans (q3.mono C5_19.out.size)
          have C6_20 : Hid (Below w6.heap.size w6 w20) := C6_19.out.trans (q3.mono C6_19.out.size)
          have C7_20 : Hid (Below w7.heap.size w7 w20) := C7_19.out.trans (q3.mono C7_19.out.size)
          have C8_20 : Hid (Below w8.heap.size w8 w20) := C8_19.out.trans (q3.mono C8_19.out.size)
          have C9_20 : Hid (Below w9.heap.size w9 w20) := C9_19.out.trans (q3.mono C9_19.out.size)
          have C10_20 : Hid (Below w10.heap.size w10 w20) := C10_19.out.trans (q3.mono C10_19.out.size)
          have C11_20 : Hid (Below w11.heap.size w11 w20) := C11_19.out.trans (q3.mono C11_19.out.size)
          have C12_20 : Hid (Below w12.heap.size w12 w20) := C12_19.out.trans (q3.mono C12_19.out.size)
          have C13_20 : Hid (Below w13.heap.size w13 w20) := C13_19.out.trans (q3.mono C13_19.out.size)
          have C14_20 : Hid (Below w14.heap.size w14 w20) := C14_19.out.trans (q3.mono C14_19.out.size)
          have C15_20 : Hid (Below w15.heap.size w15 w20) := C15_19.out.trans (q3.mono C15_19.out.size)
          have C16_20 : Hid (Below w16.heap.size w16 w20) := C16_19.out.trans (q3.mono C16_19.out.size)
          have C18_20 : Hid (Below w18.heap.size w18 w20) := C18_19.out.trans (q3.mono C18_19.out.size)
          have C19_20 : Hid (Below w19.heap.size w19 w20) := q3
          have R20 : Hid (∀ W, Below w20.heap.size w20 W → LIn All W B20 T19.size T19.list) := fun W hW => (q2.imp fun _ _ _ => trivial).below hW
          clear q1 q2 q3
          have HU21 := Lib.hid (bothL_any TB TC (.pointer ub) (.pointer uc) w20 (HS.out w20 C3_20.out).2.1 (HS.out w20 C3_20.out).2.2.1 HE.out.2.1 HE.out.2.2.2.2.1 HE.out.2.2.2.1 HE.out.2.2.2.2.2 (by omega))
          go_wp2_with fail
          refine HU21.out.mono ?_
          rintro e w21 ⟨x21, T21, rfl, h21⟩
          have C3_21 : Hid (Below w3.heap.size w3 w21) := C3_20.out.trans (h21.out.2.2.2.2.mono C3_20.out.size)
          have C4_21 : Hid (Below w4.heap.size w4 w21) := C4_20.out.trans (h21.out.2.2.2.2.mono C4_20.out.size)
          have C5_21 : Hid (Below w5.heap.size w5 w21) := C5_20.out.trans (h21.out.2.2.2.2.mono C5_20.out.size)
          have C6_21 : Hid (Below w6.heap.size w6 w21) := C6_20.out.trans (h21.out.2.2.2.2.mono C6_20.out.size)
          have C7_21 : Hid (Below w7.heap.size w7 w21) := C7_20.out.trans (h21.out.2.2.2.2.mono C7_20.out.size)
          have C8_21 : Hid (Below w8.heap.size w8 w21) := C8_20.out.trans (h21.out.2.2.2.2.mono C8_20.out.size)
          have C9_21 : Hid (Below w9.heap.size w9 w21) := C9_20.out.trans (h21.out.2.2.2.2.mono C9_20.out.size)
          have C10_21 : Hid (Below w10.heap.size w10 w21) := C10_20.out.trans (h21.out.2.2.2.2.mono C10_20.out.size)
          have C11_21 : Hid (Below w11.heap.size w11 w21) := C11_20.out.trans (h21.out.2.2.2.2.mono C11_20.out.size)
          have C12_21 : Hid (Below w12.heap.size w12 w21) := C12_20.out.trans (h21.out.2.2.2.2.mono C12_20.out.size)
          have C13_21 : Hid (Below w13.heap.size w13 w21) := C13_20.out.trans (h21.out.2.2.2.2.mono C13_20.out.size)
          have C14_21 : Hid (Below w14.heap.size w14 w21) := C14_20.out.trans (h21.out.2.2.2.2.mono C14_20.out.size)
          have C15_21 : Hid (Below w15.heap.size w15 w21) := C15_20.out.trans (h21.out.2.2.2.2.mono C15_20.out.size)
          have C16_21 : Hid (Below w16.heap.size w16 w21) := C16_20.out.trans (h21.out.2.2.2.2.mono C16_20.out.size)
          have C18_21 : Hid (Below w18.heap.size w18 w21) := C18_20.out.trans (h21.out.2.2.2.2.mono C18_20.out.size)
          have C19_21 : Hid (Below w19.heap.size w19 w21) := C19_20.out.trans (h21.out.2.2.2.2.mono C19_20.out.size)
          have C20_21 : Hid (Below w20.heap.size w20 w21) := h21.out.2.2.2.2
          have z21 := h21.out.2.2.2.1
          have Q21 : Hid (T21.list = partL TB.list TC.list true) := h21.out.2.2.1
          have hz21 : T21.size ≤ 240 := by omega
          have K21 : Hid (∀ W, Below w21.heap.size w21 W → TIn All W (.pointer x21) T21) := fun W hW => h21.out.2.1.below hW
          have V21 : Hid (T21.even ∧ Asc T21.list) := ⟨h21.out.1, by rw [Q21.out]; exact partL_asc _ _ _ HE.out.2.2.2.1⟩
          have HU22 := Lib.hid (bothL_any TA T21 (.pointer ua) (.pointer x21) w21 (HS.out w21 C3_21.out).1 (K21.out w21 (Below.refl _ _)) HE.out.1 V21.out.1 HE.out.2.2.1 V21.out.2 (by omega))
          go_wp2_with fail
          refine HU22.out.mono ?_
          rintro e w22 ⟨x22, T22, rfl, h22⟩
          have C3_22 : Hid (Below w3.heap.size w3 w22) := C3_21.out.trans (h22.out.2.2.2.2.mono C3_21.out.size)
          have C4_22 : Hid (Below w4.heap.size w4 w22) := C4_21.out.trans (h22.out.2.2.2.2.mono C4_21.out.size)
          have C5_22 : Hid (Below w5.heap.size w5 w22) := C5_21.out.trans (h22.out.2.2.2.2.mono C5_21.out.size)
          have C6_22 : Hid (Below w6.heap.size w6 w22) := C6_21.out.trans (h22.out.2.2.2.2.mono C6_21.out.size)
          have C7_22 : Hid (Below w7.heap.size w7 w22) := C7_21.out.trans (h22.out.2.2.2.2.mono C7_21.out.size)
          have C8_22 : Hid (Below w8.heap.size w8 w22) := C8_21.out.trans (h22.out.2.2.2.2.mono C8_21.out.size)
          have C9_22 : Hid (Below w9.heap.size w9 w22) := C9_21.out.trans (h22.out.2.2.2.2.mono C9_21.out.size)
          have C10_22 : Hid (Below w10.heap.size w10 w22) := C10_21.out.trans (h22.out.2.2.2.2.mono C10_21.out.size)
          have C11_22 : Hid (Below w11.heap.size w11 w22) := C11_21.out.trans (h22.out.2.2.2.2.mono C11_21.out.size)
          have C12_22 : Hid (Below w12.heap.size w12 w22) := C12_21.out.trans (h22.out.2.2.2.2.mono C12_21.out.size)
          have C13_22 : Hid (Below w13.heap.size w13 w22) := C13_21.out.trans (h22.out.2.2.2.2.mono C13_21.out.size)
          have C14_22 : Hid (Below w14.heap.size w14 w22) := C14_21.out.trans (h22.out.2.2.2.2.mono C14_21.out.size)
          have C15_22 : Hid (Below w15.heap.size w15 w22) := C15_21.out.trans (h22.out.2.2.2.2.mono C15_21.out.size)
          have C16_22 : Hid (Below w16.heap.size w16 w22) := C16_21.out.trans (h22.out.2.2.2.2.mono C16_21.out.size)
          have C18_22 : Hid (Below w18.heap.size w18 w22) := C18_21.out.trans (h22.out.2.2.2.2.mono C18_21.out.size)
          have C19_22 : Hid (Below w19.heap.size w19 w22) := C19_21.out.trans (h22.out.2.2.2.2.mono C19_21.out.size)
          have C20_22 : Hid (Below w20.heap.size w20 w22) := C20_21.out.trans (h22.out.2.2.2.2.mono C20_21.out.size)
          have C21_22 : Hid (Below w21.heap.size w21 w22) := h22.out.2.2.2.2
          have z22 := h22.out.2.2.2.1
          have Q22 : Hid (T22.list = partL TA.list (partL TB.list TC.list true) true) := (h22.out.2.2.1.trans (by rw [Q21.out]))
          have hz22 : T22.size ≤ 240 := by omega
          have K22 : Hid (∀ W, Below w22.heap.size w22 W → TIn All W (.pointer x22) T22) := fun W hW => h22.out.2.1.below hW
          have V22 : Hid (T22.even ∧ Asc T22.list) := ⟨h22.out.1, by rw [Q22.out]; exact partL_asc _ _ _ HE.out.2.2.1⟩
          have HLI22 := Lib.hid (list_any T22 (.pointer x22) w22 (K22.out w22 (Below.refl _ _)) (by omega))
          go_wp2_with fail
          refine HLI22.out.mono ?_
          rintro e w23 ⟨B23, d23, rfl, q1, q2, q3⟩
          have C3_23 : Hid (Below w3.heap.size w3 w23) := C3_22.out.trans (q3.mono C3_22.out.size)
          have C4_23 : Hid (Below w4.heap.size w4 w23) := C4_22.out.trans (q3.mono C4_22.out.size)
          have C5_23 : Hid (Below w5.heap.size w5 w23) := C5_22.out.trans (q3.mono C5_22.out.size)
          have C6_23 : Hid (Below w6.heap.size w6 w23) := C6_22.out.trans (q3.mono C6_22.out.size)
          have C7_23 : Hid (Below w7.heap.size w7 w23) := C7_22.out.trans (q3.mono C7_22.out.size)
          have C8_23 : Hid (Below w8.heap.size w8 w23) := C8_22.out.trans (q3.mono C8_22.out.size)
          have C9_23 : Hid (Below w9.heap.size w9 w23) := C9_22.out.trans (q3.mono C9_22.out.size)
          have C10_23 : Hid (Below w10.heap.size w10 w23) := C10_22.out.trans (q3.mono C10_22.out.size)
          have C11_23 : Hid (Below w11.heap.size w11 w23) := C11_22.out.trans (q3.mono C11_22.out.size)
          have C12_23 : Hid (Below w12.heap.size w12 w23) := C12_22.out.trans (q3.mono C12_22.out.size)
          have C13_23 : Hid (Below w13.heap.size w13 w23) := C13_22.out.trans (q3.mono C13_22.out.size)
          have C14_23 : Hid (Below w14.heap.size w14 w23) := C14_22.out.trans (q3.mono C14_22.out.size)
          have C15_23 : Hid (Below w15.heap.size w15 w23) := C15_22.out.trans (q3.mono C15_22.out.size)
          have C16_23 : Hid (Below w16.heap.size w16 w23) := C16_22.out.trans (q3.mono C16_22.out.size)
          have C18_23 : Hid (Below w18.heap.size w18 w23) := C18_22.out.trans (q3.mono C18_22.out.size)
          have C19_23 : Hid (Below w19.heap.size w19 w23) := C19_22.out.trans (q3.mono C19_22.out.size)
          have C20_23 : Hid (Below w20.heap.size w20 w23) := C20_22.out.trans (q3.mono C20_22.out.size)
          have C21_23 : Hid (Below w21.heap.size w21 w23) := C21_22.out.trans (q3.mono C21_22.out.size)
          have C22_23 : Hid (Below w22.heap.size w22 w23) := q3
          have R23 : Hid (∀ W, Below w23.heap.size w23 W → LIn All W B23 T22.size T22.list) := fun W hW => (q2.imp fun _ _ _ => trivial).below hW
          clear q1 q2 q3
          have HSM23 := Lib.hid (same_any T19.list T22.list B20 B23 T19.size T22.size d20 d23 w23 (R20.out w23 C20_23.out) (R23.out w23 (Below.refl _ _)) (by omega) (by omega))
          rw [decide_eq_true (show T19.list = T22.list by rw [Q19.out, Q22.out]; exact both_third _ _ _ HE.out.2.2.1 HE.out.2.2.2.1)] at HSM23
          go_wp2_with fail
          refine HSM23.out.mono ?_
          rintro e w24 ⟨rfl, hbx⟩
          have C3_24 : Hid (Below w3.heap.size w3 w24) := C3_23.out.trans (hbx.mono C3_23.out.size)
          have C4_24 : Hid (Below w4.heap.size w4 w24) := C4_23.out.trans (hbx.mono C4_23.out.size)
          have C5_24 : Hid (Below w5.heap.size w5 w24) := C5_23.out.trans (hbx.mono C5_23.out.size)
          have C6_24 : Hid (Below w6.heap.size w6 w24) := C6_23.out.trans (hbx.mono C6_23.out.size)
          have C7_24 : Hid (Below w7.heap.size w7 w24) := C7_23.out.trans (hbx.mono C7_23.out.size)
          have C8_24 : Hid (Below w8.heap.size w8 w24) := C8_23.out.trans (hbx.mono C8_23.out.size)
          have C9_24 : Hid (Below w9.heap.size w9 w24) := C9_23.out.trans (hbx.mono C9_23.out.size)
          have C10_24 : Hid (Below w10.heap.size w10 w24) := C10_23.out.trans (hbx.mono C10_23.out.size)
          have C11_24 : Hid (Below w11.heap.size w11 w24) := C11_23.out.trans (hbx.mono C11_23.out.size)
          have C12_24 : Hid (Below w12.heap.size w12 w24) := C12_23.out.trans (hbx.mono C12_23.out.size)
          have C13_24 : Hid (Below w13.heap.size w13 w24) := C13_23.out.trans (hbx.mono C13_23.out.size)
          have C14_24 : Hid (Below w14.heap.size w14 w24) := C14_23.out.trans (hbx.mono C14_23.out.size)
          have C15_24 : Hid (Below w15.heap.size w15 w24) := C15_23.out.trans (hbx.mono C15_23.out.size)
          have C16_24 : Hid (Below w16.heap.size w16 w24) := C16_23.out.trans (hbx.mono C16_23.out.size)
          have C18_24 : Hid (Below w18.heap.size w18 w24) := C18_23.out.trans (hbx.mono C18_23.out.size)
          have C19_24 : Hid (Below w19.heap.size w19 w24) := C19_23.out.trans (hbx.mono C19_23.out.size)
          have C20_24 : Hid (Below w20.heap.size w20 w24) := C20_23.out.trans (hbx.mono C20_23.out.size)
          have C21_24 : Hid (Below w21.heap.size w21 w24) := C21_23.out.trans (hbx.mono C21_23.out.size)
          have C22_24 : Hid (Below w22.heap.size w22 w24) := C22_23.out.trans (hbx.mono C22_23.out.size)
          have C23_24 : Hid (Below w23.heap.size w23 w24) := hbx
          clear hbx
          have HWZ := Lib.hid (HS.out w24 C3_24.out).2.2.2
          go_wp2_with fail
          refine (awake14_any w24).mono ?_
          rintro e wz ⟨rfl, hbz⟩
          have HZ : Hid (Below w.heap.size w wz) := HWZ.out.trans (hbz.mono HWZ.out.size)
          clear hbz
          go_wp2_with fail
          go_ret
          exact ⟨rfl, HZ.out⟩

end Go.Proofs.Ytnfhbljhohjkhaa
