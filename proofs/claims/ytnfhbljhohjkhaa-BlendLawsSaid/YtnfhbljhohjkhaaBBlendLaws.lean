/- The law BlendLaws. -/
import Derived.Test.YtnfhbljhohjkhaaBLawPlain
set_option linter.unusedVariables false
set_option linter.unusedSimpArgs false
namespace Go.Proofs.Ytnfhbljhohjkhaa
open Go.RowKit Go.Deep

set_option maxRecDepth 100000 in
set_option maxHeartbeats 3200000 in
theorem blendLaws_any (A : Option Addr) (n c : Nat) (L : List (Int × Bytes × Bytes)) (A' : Option Addr) (n' c' : Nat) (L' : List (Int × Bytes × Bytes)) (w : World) (h : Ops w A n L) (h' : Ops w A' n' L') :
    Calls Try.prog 9 #[.slice A n c, .slice A' n' c'] w fun e w' => e = .returned (.bool true) ∧ Below w.heap.size w w' := by
  have HO := Lib.hid h
  have HO' := Lib.hid h'
  have HF := Lib.hid (fine_any A n c L 60 w h (by omega))
  clear h h'
  go_enter Try.func9, Try.ntmps9
  go_wp2_with fail
  refine HF.out.mono ?_
  rintro e w0 ⟨r, rfl, hr, hb0⟩
  have HB0 := Lib.hid hb0
  clear hb0
  cases r with
  | false =>
    clear hr
    go_wp2_with fail
    refine (awake14_any w0).mono ?_
    rintro e wz ⟨rfl, hbz⟩
    have HZ : Hid (Below w.heap.size w wz) := HB0.out.trans (hbz.mono HB0.out.size)
    clear hbz
    go_wp2_with fail
    go_ret
    exact ⟨rfl, HZ.out⟩
  | true =>
    have HFI := Lib.hid (hr rfl)
    clear hr
    have HF' := Lib.hid (fine_any A' n' c' L' 60 w0 (HO'.out.below HB0.out) (by omega))
    go_wp2_with fail
    refine HF'.out.mono ?_
    rintro e w1 ⟨r, rfl, hr, hb1⟩
    have HB1 : Hid (Below w.heap.size w w1) := HB0.out.trans (hb1.mono HB0.out.size)
    clear hb1
    cases r with
    | false =>
      clear hr
      go_wp2_with fail
      refine (awake14_any w1).mono ?_
      rintro e wz ⟨rfl, hbz⟩
      have HZ : Hid (Below w.heap.size w wz) := HB1.out.trans (hbz.mono HB1.out.size)
      clear hbz
      go_wp2_with fail
      go_ret
      exact ⟨rfl, HZ.out⟩
    | true =>
      have HFI' := Lib.hid (hr rfl)
      clear hr
      have hn1 : n ≤ 60 := by have := HFI.out.1; rw [HO.out.len] at this; exact this
      have hn2 : n' ≤ 60 := by have := HFI'.out.1; rw [HO'.out.len] at this; exact this
      have HMD := Lib.hid (made14_any A n c L w1 (HO.out.below HB1.out) ⟨by have := HFI.out.1; omega, HFI.out.2⟩)
      go_wp2_with fail
      refine HMD.out.mono ?_
      rintro e w2 ⟨ua, Aa, ca, TA, rfl, hIA⟩
      have HB2 : Hid (Below w.heap.size w w2) := HB1.out.trans (hIA.out.below.mono HB1.out.size)
      have HMD' := Lib.hid (made14_any A' n' c' L' w2 (HO'.out.below HB2.out) ⟨by have := HFI'.out.1; omega, HFI'.out.2⟩)
      go_wp2_with fail
      refine HMD'.out.mono ?_
      rintro e w3 ⟨ub, Ab, cb, TB, rfl, hIB⟩
      have HB3 : Hid (Below w.heap.size w w3) := HB2.out.trans (hIB.out.below.mono HB2.out.size)
      have hsa : TA.size ≤ 60 := by have := hIA.out.size; omega
      have hsb : TB.size ≤ 60 := by have := hIB.out.size; omega
      have HLA : Hid (TA.list.length = TA.size) := TA.size_list
      have HLB : Hid (TB.list.length = TB.size) := TB.size_list
      have hla : TA.list.length ≤ 60 := by have := HLA.out; omega
      have hlb : TB.list.length ≤ 60 := by have := HLB.out; omega
      have HE : Hid (TA.even ∧ TB.even ∧ Asc TA.list ∧ Asc TB.list ∧ (∀ p ∈ TA.list, p.1.length ≤ 100000) ∧ (∀ p ∈ TB.list, p.1.length ≤ 100000)) := ⟨hIA.out.even, hIB.out.even, hIA.out.asc, hIB.out.asc, hIA.out.keys, hIB.out.keys⟩
      have HS : Hid (∀ W, Below w3.heap.size w3 W → TIn All W (.pointer ua) TA ∧ MIn All W Aa TA.list.length TA.list ∧ TIn All W (.pointer ub) TB ∧ MIn All W Ab TB.list.length TB.list ∧ Below w.heap.size w W) := fun W hW =>
        ⟨(hIA.out.tin.below hIB.out.below).below hW, (hIA.out.min.below hIB.out.below).below hW, hIB.out.tin.below hW, hIB.out.min.below hW, HB3.out.trans (hW.mono HB3.out.size)⟩
      clear hIA hIB HMD HMD'
      have hnil : PT.nil.size = 0 := rfl
      have HL3 := Lib.hid (list_any TA (.pointer ua) w3 (HS.out w3 (Below.refl _ _)).1 (by omega))
      go_wp2_with fail
      refine HL3.out.mono ?_
      rintro e w4 ⟨A4, c4, rfl, q1, q2, q3⟩
      have C3_4 : Hid (Below w3.heap.size w3 w4) := q3
      have L4 : Hid (∀ W, Below w4.heap.size w4 W → LIn All W A4 TA.size TA.list) := fun W hW => (q2.imp fun _ _ _ => trivial).below hW
      clear q1 q2 q3
      have HU5 := Lib.hid (unionL_any TA .nil (.pointer ua) (.pointer none) w4 (HS.out w4 C3_4.out).1 rfl HE.out.1 trivial HE.out.2.2.1 List.Pairwise.nil (by omega))
      go_wp2_with fail
      refine HU5.out.mono ?_
      rintro e w5 ⟨u5, T5, rfl, h5⟩
      have C3_5 : Hid (Below w3.heap.size w3 w5) := C3_4.out.trans (h5.out.2.2.2.2.mono C3_4.out.size)
      have C4_5 : Hid (Below w4.heap.size w4 w5) := h5.out.2.2.2.2
      have z5 := h5.out.2.2.2.1
      have Q5 : Hid (T5.list = TA.list) := h5.out.2.2.1
      have hz5 : T5.size ≤ 240 := by omega
      have K5 : Hid (∀ W, Below w5.heap.size w5 W → TIn All W (.pointer u5) T5) := fun W hW => h5.out.2.1.below hW
      have V5 : Hid (T5.even ∧ Asc T5.list) := ⟨h5.out.1, by rw [Q5.out]; exact HE.out.2.2.1⟩
      have HLI5 := Lib.hid (list_any T5 (.pointer u5) w5 (K5.out w5 (Below.refl _ _)) (by omega))
      go_wp2_with fail
      refine HLI5.out.mono ?_
      rintro e w6 ⟨B6, d6, rfl, q1, q2, q3⟩
      have C3_6 : Hid (Below w3.heap.size w3 w6) := C3_5.out.trans (q3.mono C3_5.out.size)
      have C4_6 : Hid (Below w4.heap.size w4 w6) := C4_5.out.trans (q3.mono C4_5.out.size)
      have C5_6 : Hid (Below w5.heap.size w5 w6) := q3
      have HSM6 := Lib.hid (same_any T5.list TA.list B6 A4 T5.size TA.size d6 c4 w6 q2 (L4.out w6 C4_6.out) (by omega) (by omega))
      rw [decide_eq_true Q5.out] at HSM6
      clear q1 q2 q3
      go_wp2_with fail
      refine HSM6.out.mono ?_
      rintro e w7 ⟨rfl, hbx⟩
      have C3_7 : Hid (Below w3.heap.size w3 w7) := C3_6.out.trans (hbx.mono C3_6.out.size)
      have C4_7 : Hid (Below w4.heap.size w4 w7) := C4_6.out.trans (hbx.mono C4_6.out.size)
      have C5_7 : Hid (Below w5.heap.size w5 w7) := C5_6.out.trans (hbx.mono C5_6.out.size)
      clear hbx
      have HU8 := Lib.hid (unionL_any .nil TA (.pointer none) (.pointer ua) w7 rfl (HS.out w7 C3_7.out).1 trivial HE.out.1 List.Pairwise.nil HE.out.2.2.1 (by omega))
      go_wp2_with fail
      refine HU8.out.mono ?_
      rintro e w8 ⟨u8, T8, rfl, h8⟩
      have C3_8 : Hid (Below w3.heap.size w3 w8) := C3_7.out.trans (h8.out.2.2.2.2.mono C3_7.out.size)
      have C4_8 : Hid (Below w4.heap.size w4 w8) := C4_7.out.trans (h8.out.2.2.2.2.mono C4_7.out.size)
      have C5_8 : Hid (Below w5.heap.size w5 w8) := C5_7.out.trans (h8.out.2.2.2.2.mono C5_7.out.size)
      have z8 := h8.out.2.2.2.1
      have Q8 : Hid (T8.list = TA.list) := h8.out.2.2.1.trans (uniL_nil' _ HE.out.2.2.1)
      have hz8 : T8.size ≤ 240 := by omega
      have K8 : Hid (∀ W, Below w8.heap.size w8 W → TIn All W (.pointer u8) T8) := fun W hW => h8.out.2.1.below hW
      have V8 : Hid (T8.even ∧ Asc T8.list) := ⟨h8.out.1, by rw [Q8.out]; exact HE.out.2.2.1⟩
      have HLI8 := Lib.hid (list_any T8 (.pointer u8) w8 (K8.out w8 (Below.refl _ _)) (by omega))
      go_wp2_with fail
      refine HLI8.out.mono ?_
      rintro e w9 ⟨B9, d9, rfl, q1, q2, q3⟩
      have C3_9 : Hid (Below w3.heap.size w3 w9) := C3_8.out.trans (q3.mono C3_8.out.size)
      have C4_9 : Hid (Below w4.heap.size w4 w9) := C4_8.out.trans (q3.mono C4_8.out.size)
      have C5_9 : Hid (Below w5.heap.size w5 w9) := C5_8.out.trans (q3.mono C5_8.out.size)
      have C8_9 : Hid (Below w8.heap.size w8 w9) := q3
      have HSM9 := Lib.hid (same_any T8.list TA.list B9 A4 T8.size TA.size d9 c4 w9 q2 (L4.out w9 C4_9.out) (by omega) (by omega))
      rw [decide_eq_true Q8.out] at HSM9
      clear q1 q2 q3
      go_wp2_with fail
      refine HSM9.out.mono ?_
      rintro e w10 ⟨rfl, hbx⟩
      have C3_10 : Hid (Below w3.heap.size w3 w10) := C3_9.out.trans (hbx.mono C3_9.out.size)
      have C4_10 : Hid (Below w4.heap.size w4 w10) := C4_9.out.trans (hbx.mono C4_9.out.size)
      have C5_10 : Hid (Below w5.heap.size w5 w10) := C5_9.out.trans (hbx.mono C5_9.out.size)
      have C8_10 : Hid (Below w8.heap.size w8 w10) := C8_9.out.trans (hbx.mono C8_9.out.size)
      clear hbx
      have HU11 := Lib.hid (unionL_any TA TA (.pointer ua) (.pointer ua) w10 (HS.out w10 C3_10.out).1 (HS.out w10 C3_10.out).1 HE.out.1 HE.out.1 HE.out.2.2.1 HE.out.2.2.1 (by omega))
      go_wp2_with fail
      refine HU11.out.mono ?_
      rintro e w11 ⟨u11, T11, rfl, h11⟩
      have C3_11 : Hid (Below w3.heap.size w3 w11) := C3_10.out.trans (h11.out.2.2.2.2.mono C3_10.out.size)
      have C4_11 : Hid (Below w4.heap.size w4 w11) := C4_10.out.trans (h11.out.2.2.2.2.mono C4_10.out.size)
      have C5_11 : Hid (Below w5.heap.size w5 w11) := C5_10.out.trans (h11.out.2.2.2.2.mono C5_10.out.size)
      have C8_11 : Hid (Below w8.heap.size w8 w11) := C8_10.out.trans (h11.out.2.2.2.2.mono C8_10.out.size)
      have z11 := h11.out.2.2.2.1
      have Q11 : Hid (T11.list = TA.list) := h11.out.2.2.1.trans (uniL_self _ HE.out.2.2.1)
      have hz11 : T11.size ≤ 240 := by omega
      have K11 : Hid (∀ W, Below w11.heap.size w11 W → TIn All W (.pointer u11) T11) := fun W hW => h11.out.2.1.below hW
      have V11 : Hid (T11.even ∧ Asc T11.list) := ⟨h11.out.1, by rw [Q11.out]; exact HE.out.2.2.1⟩
      have HLI11 := Lib.hid (list_any T11 (.pointer u11) w11 (K11.out w11 (Below.refl _ _)) (by omega))
      go_wp2_with fail
      refine HLI11.out.mono ?_
      rintro e w12 ⟨B12, d12, rfl, q1, q2, q3⟩
      have C3_12 : Hid (Below w3.heap.size w3 w12) := C3_11.out.trans (q3.mono C3_11.out.size)
      have C4_12 : Hid (Below w4.heap.size w4 w12) := C4_11.out.trans (q3.mono C4_11.out.size)
      have C5_12 : Hid (Below w5.heap.size w5 w12) := C5_11.out.trans (q3.mono C5_11.out.size)
      have C8_12 : Hid (Below w8.heap.size w8 w12) := C8_11.out.trans (q3.mono C8_11.out.size)
      have C11_12 : Hid (Below w11.heap.size w11 w12) := q3
      have HSM12 := Lib.hid (same_any T11.list TA.list B12 A4 T11.size TA.size d12 c4 w12 q2 (L4.out w12 C4_12.out) (by omega) (by omega))
      rw [decide_eq_true Q11.out] at HSM12
      clear q1 q2 q3
      go_wp2_with fail
      refine HSM12.out.mono ?_
      rintro e w13 ⟨rfl, hbx⟩
      have C3_13 : Hid (Below w3.heap.size w3 w13) := C3_12.out.trans (hbx.mono C3_12.out.size)
      have C4_13 : Hid (Below w4.heap.size w4 w13) := C4_12.out.trans (hbx.mono C4_12.out.size)
      have C5_13 : Hid (Below w5.heap.size w5 w13) := C5_12.out.trans (hbx.mono C5_12.out.size)
      have C8_13 : Hid (Below w8.heap.size w8 w13) := C8_12.out.trans (hbx.mono C8_12.out.size)
      have C11_13 : Hid (Below w11.heap.size w11 w13) := C11_12.out.trans (hbx.mono C11_12.out.size)
      clear hbx
      have HU14 := Lib.hid (minusL_any TA TB (.pointer ua) (.pointer ub) w13 (HS.out w13 C3_13.out).1 (HS.out w13 C3_13.out).2.2.1 HE.out.1 HE.out.2.1 HE.out.2.2.1 HE.out.2.2.2.1 (by omega))
      go_wp2_with fail
      refine HU14.out.mono ?_
      rintro e w14 ⟨u14, T14, rfl, h14⟩
      have C3_14 : Hid (Below w3.heap.size w3 w14) := C3_13.out.trans (h14.out.2.2.2.2.mono C3_13.out.size)
      have C4_14 : Hid (Below w4.heap.size w4 w14) := C4_13.out.trans (h14.out.2.2.2.2.mono C4_13.out.size)
      have C5_14 : Hid (Below w5.heap.size w5 w14) := C5_13.out.trans (h14.out.2.2.2.2.mono C5_13.out.size)
      have C8_14 : Hid (Below w8.heap.size w8 w14) := C8_13.out.trans (h14.out.2.2.2.2.mono C8_13.out.size)
      have C11_14 : Hid (Below w11.heap.size w11 w14) := C11_13.out.trans (h14.out.2.2.2.2.mono C11_13.out.size)
      have z14 := h14.out.2.2.2.1
      have Q14 : Hid (T14.list = partL TA.list TB.list false) := h14.out.2.2.1
      have hz14 : T14.size ≤ 240 := by omega
      have K14 : Hid (∀ W, Below w14.heap.size w14 W → TIn All W (.pointer u14) T14) := fun W hW => h14.out.2.1.below hW
      have V14 : Hid (T14.even ∧ Asc T14.list) := ⟨h14.out.1, by rw [Q14.out]; exact partL_asc _ _ _ HE.out.2.2.1⟩
      have HU15 := Lib.hid (bothL_any TA TB (.pointer ua) (.pointer ub) w14 (HS.out w14 C3_14.out).1 (HS.out w14 C3_14.out).2.2.1 HE.out.1 HE.out.2.1 HE.out.2.2.1 HE.out.2.2.2.1 (by omega))
      go_wp2_with fail
      refine HU15.out.mono ?_
      rintro e w15 ⟨u15, T15, rfl, h15⟩
      have C3_15 : Hid (Below w3.heap.size w3 w15) := C3_14.out.trans (h15.out.2.2.2.2.mono C3_14.out.size)
      have C4_15 : Hid (Below w4.heap.size w4 w15) := C4_14.out.trans (h15.out.2.2.2.2.mono C4_14.out.size)
      have C5_15 : Hid (Below w5.heap.size w5 w15) := C5_14.out.trans (h15.out.2.2.2.2.mono C5_14.out.size)
      have C8_15 : Hid (Below w8.heap.size w8 w15) := C8_14.out.trans (h15.out.2.2.2.2.mono C8_14.out.size)
      have C11_15 : Hid (Below w11.heap.size w11 w15) := C11_14.out.trans (h15.out.2.2.2.2.mono C11_14.out.size)
      have C14_15 : Hid (Below w14.heap.size w14 w15) := h15.out.2.2.2.2
      have z15 := h15.out.2.2.2.1
      have Q15 : Hid (T15.list = partL TA.list TB.list true) := h15.out.2.2.1
      have hz15 : T15.size ≤ 240 := by omega
      have K15 : Hid (∀ W, Below w15.heap.size w15 W → TIn All W (.pointer u15) T15) := fun W hW => h15.out.2.1.below hW
      have V15 : Hid (T15.even ∧ Asc T15.list) := ⟨h15.out.1, by rw [Q15.out]; exact partL_asc _ _ _ HE.out.2.2.1⟩
      have hsum : T14.size + T15.size = TA.size := by
        have := part_len TB.list TA.list
        rw [← Q14.out, ← Q15.out, PT.size_list, PT.size_list, PT.size_list] at this
        exact this
      have HU16 := Lib.hid (unionL_any T14 T15 (.pointer u14) (.pointer u15) w15 (K14.out w15 C14_15.out) (K15.out w15 (Below.refl _ _)) V14.out.1 V15.out.1 V14.out.2 V15.out.2 (by omega))
      go_wp2_with fail
      refine HU16.out.mono ?_
      rintro e w16 ⟨u16, T16, rfl, h16⟩
      have C3_16 : Hid (Below w3.heap.size w3 w16) := C3_15.out.trans (h16.out.2.2.2.2.mono C3_15.out.size)
      have C4_16 : Hid (Below w4.heap.size w4 w16) := C4_15.out.trans (h16.out.2.2.2.2.mono C4_15.out.size)
      have C5_16 : Hid (Below w5.heap.size w5 w16) := C5_15.out.trans (h16.out.2.2.2.2.mono C5_15.out.size)
      have C8_16 : Hid (Below w8.heap.size w8 w16) := C8_15.out.trans (h16.out.2.2.2.2.mono C8_15.out.size)
      have C11_16 : Hid (Below w11.heap.size w11 w16) := C11_15.out.trans (h16.out.2.2.2.2.mono C11_15.out.size)
      have C14_16 : Hid (Below w14.heap.size w14 w16) := C14_15.out.trans (h16.out.2.2.2.2.mono C14_15.out.size)
      have C15_16 : Hid (Below w15.heap.size w15 w16) := h16.out.2.2.2.2
      have z16 := h16.out.2.2.2.1
      have Q16 : Hid (T16.list = TA.list) := (h16.out.2.2.1.trans (by rw [Q14.out, Q15.out]; exact part_join _ _ HE.out.2.2.1))
      have hz16 : T16.size ≤ 240 := by omega
      have K16 : Hid (∀ W, Below w16.heap.size w16 W → TIn All W (.pointer u16) T16) := fun W hW => h16.out.2.1.below hW
      have V16 : Hid (T16.even ∧ Asc T16.list) := ⟨h16.out.1, by rw [Q16.out]; exact HE.out.2.2.1⟩
      have HLI16 := Lib.hid (list_any T16 (.pointer u16) w16 (K16.out w16 (Below.refl _ _)) (by omega))
      go_wp2_with fail
      refine HLI16.out.mono ?_
      rintro e w17 ⟨B17, d17, rfl, q1, q2, q3⟩
      have C3_17 : Hid (Below w3.heap.size w3 w17) := C3_16.out.trans (q3.mono C3_16.out.size)
      have C4_17 : Hid (Below w4.heap.size w4 w17) := C4_16.out.trans (q3.mono C4_16.out.size)
      have C5_17 : Hid (Below w5.heap.size w5 w17) := C5_16.out.trans (q3.mono C5_16.out.size)
      have C8_17 : Hid (Below w8.heap.size w8 w17) := C8_16.out.trans (q3.mono C8_16.out.size)
      have C11_17 : Hid (Below w11.heap.size w11 w17) := C11_16.out.trans (q3.mono C11_16.out.size)
      have C14_17 : Hid (Below w14.heap.size w14 w17) := C14_16.out.trans (q3.mono C14_16.out.size)
      have C15_17 : Hid (Below w15.heap.size w15 w17) := C15_16.out.trans (q3.mono C15_16.out.size)
      have C16_17 : Hid (Below w16.heap.size w16 w17) := q3
      have HSM17 := Lib.hid (same_any T16.list TA.list B17 A4 T16.size TA.size d17 c4 w17 q2 (L4.out w17 C4_17.out) (by omega) (by omega))
      rw [decide_eq_true Q16.out] at HSM17
      clear q1 q2 q3
      go_wp2_with fail
      refine HSM17.out.mono ?_
      rintro e w18 ⟨rfl, hbx⟩
      have C3_18 : Hid (Below w3.heap.size w3 w18) := C3_17.out.trans (hbx.mono C3_17.out.size)
      have C4_18 : Hid (Below w4.heap.size w4 w18) := C4_17.out.trans (hbx.mono C4_17.out.size)
      have C5_18 : Hid (Below w5.heap.size w5 w18) := C5_17.out.trans (hbx.mono C5_17.out.size)
      have C8_18 : Hid (Below w8.heap.size w8 w18) := C8_17.out.trans (hbx.mono C8_17.out.size)
      have C11_18 : Hid (Below w11.heap.size w11 w18) := C11_17.out.trans (hbx.mono C11_17.out.size)
      have C14_18 : Hid (Below w14.heap.size w14 w18) := C14_17.out.trans (hbx.mono C14_17.out.size)
      have C15_18 : Hid (Below w15.heap.size w15 w18) := C15_17.out.trans (hbx.mono C15_17.out.size)
      have C16_18 : Hid (Below w16.heap.size w16 w18) := C16_17.out.trans (hbx.mono C16_17.out.size)
      clear hbx
      have HU19 := Lib.hid (bothL_any T14 T15 (.pointer u14) (.pointer u15) w18 (K14.out w18 C14_18.out) (K15.out w18 C15_18.out) V14.out.1 V15.out.1 V14.out.2 V15.out.2 (by omega))
      go_wp2_with fail
      refine HU19.out.mono ?_
      rintro e w19 ⟨u19, T19, rfl, h19⟩
      have C3_19 : Hid (Below w3.heap.size w3 w19) := C3_18.out.trans (h19.out.2.2.2.2.mono C3_18.out.size)
      have C4_19 : Hid (Below w4.heap.size w4 w19) := C4_18.out.trans (h19.out.2.2.2.2.mono C4_18.out.size)
      have C5_19 : Hid (Below w5.heap.size w5 w19) := C5_18.out.trans (h19.out.2.2.2.2.mono C5_18.out.size)
      have C8_19 : Hid (Below w8.heap.size w8 w19) := C8_18.out.trans (h19.out.2.2.2.2.mono C8_18.out.size)
      have C11_19 : Hid (Below w11.heap.size w11 w19) := C11_18.out.trans (h19.out.2.2.2.2.mono C11_18.out.size)
      have C14_19 : Hid (Below w14.heap.size w14 w19) := C14_18.out.trans (h19.out.2.2.2.2.mono C14_18.out.size)
      have C15_19 : Hid (Below w15.heap.size w15 w19) := C15_18.out.trans (h19.out.2.2.2.2.mono C15_18.out.size)
      have C16_19 : Hid (Below w16.heap.size w16 w19) := C16_18.out.trans (h19.out.2.2.2.2.mono C16_18.out.size)
      have z19 := h19.out.2.2.2.1
      have Q19 : Hid (T19.list = []) := (h19.out.2.2.1.trans (by rw [Q14.out, Q15.out]; exact both_none _ _ HE.out.2.2.1))
      have hz19 : T19.size ≤ 240 := by omega
      have K19 : Hid (∀ W, Below w19.heap.size w19 W → TIn All W (.pointer u19) T19) := fun W hW => h19.out.2.1.below hW
      have V19 : Hid (T19.even ∧ Asc T19.list) := ⟨h19.out.1, by rw [Q19.out]; exact List.Pairwise.nil⟩
      have hk0 : (T19.size : Int) = 0 := by have h := PT.size_of Q19.out; rw [h]; rfl
      go_wp2_with fail
      refine (tsize_any T19 (.pointer u19) w19 (K19.out w19 (Below.refl _ _))).mono ?_
      rintro e wq ⟨rfl, rfl⟩
      have hsz0 : IntKind.i64.wrap ((T14.size : Int) + (T15.size : Int)) = (TA.size : Int) := by rw [wsm _ (by omega)]; omega
      go_wp2_with fail
      refine (tsize_any T14 (.pointer u14) w19 (K14.out w19 C14_19.out)).mono ?_
      rintro e wq ⟨rfl, rfl⟩
      go_wp2_with fail
      refine (tsize_any T15 (.pointer u15) w19 (K15.out w19 C15_19.out)).mono ?_
      rintro e wq ⟨rfl, rfl⟩
      have HU20 := Lib.hid (unionL_any TA TB (.pointer ua) (.pointer ub) w19 (HS.out w19 C3_19.out).1 (HS.out w19 C3_19.out).2.2.1 HE.out.1 HE.out.2.1 HE.out.2.2.1 HE.out.2.2.2.1 (by omega))
      go_wp2_with fail
      refine HU20.out.mono ?_
      rintro e w20 ⟨u20, T20, rfl, h20⟩
      have C3_20 : Hid (Below w3.heap.size w3 w20) := C3_19.out.trans (h20.out.2.2.2.2.mono C3_19.out.size)
      have C4_20 : Hid (Below w4.heap.size w4 w20) := C4_19.out.trans (h20.out.2.2.2.2.mono C4_19.out.size)
      have C5_20 : Hid (Below w5.heap.size w5 w20) := C5_19.out.trans (h20.out.2.2.2.2.mono C5_19.out.size)
      have C8_20 : Hid (Below w8.heap.size w8 w20) := C8_19.out.trans (h20.out.2.2.2.2.mono C8_19.out.size)
      have C11_20 : Hid (Below w11.heap.size w11 w20) := C11_19.out.trans (h20.out.2.2.2.2.mono C11_19.out.size)
      have C14_20 : Hid (Below w14.heap.size w14 w20) := C14_19.out.trans (h20.out.2.2.2.2.mono C14_19.out.size)
      have C15_20 : Hid (Below w15.heap.size w15 w20) := C15_19.out.trans (h20.out.2.2.2.2.mono C15_19.out.size)
      have C16_20 : Hid (Below w16.heap.size w16 w20) := C16_19.out.trans (h20.out.2.2.2.2.mono C16_19.out.size)
      have C19_20 : Hid (Below w19.heap.size w19 w20) := h20.out.2.2.2.2
      have z20 := h20.out.2.2.2.1
      have Q20 : Hid (T20.list = uniL TA.list TB.list) := h20.out.2.2.1
      have hz20 : T20.size ≤ 240 := by omega
      have K20 : Hid (∀ W, Below w20.heap.size w20 W → TIn All W (.pointer u20) T20) := fun W hW => h20.out.2.1.below hW
      have V20 : Hid (T20.even ∧ Asc T20.list) := ⟨h20.out.1, by rw [Q20.out]; exact uniL_asc _ _ HE.out.2.2.1⟩
      clear hsz0 hk0
      have HSB20 := Lib.hid (subset_any TA T20 (.pointer ua) (.pointer u20) w20 (HS.out w20 C3_20.out).1 (K20.out w20 (Below.refl _ _)) HE.out.1 V20.out.1 HE.out.2.2.1 V20.out.2 (by omega) true ⟨fun _ => (by rw [Q20.out]; exact sub_first _ _ HE.out.2.2.1 HE.out.2.2.2.1), fun _ => rfl⟩)
      go_wp2_with fail
      refine HSB20.out.mono ?_
      rintro e w21 ⟨rfl, hbx⟩
      have C3_21 : Hid (Below w3.heap.size w3 w21) := C3_20.out.trans (hbx.mono C3_20.out.size)
      have C4_21 : Hid (Below w4.heap.size w4 w21) := C4_20.out.trans (hbx.mono C4_20.out.size)
      have C5_21 : Hid (Below w5.heap.size w5 w21) := C5_20.out.trans (hbx.mono C5_20.out.size)
      have C8_21 : Hid (Below w8.heap.size w8 w21) := C8_20.out.trans (hbx.mono C8_20.out.size)
      have C11_21 : Hid (Below w11.heap.size w11 w21) := C11_20.out.trans (hbx.mono C11_20.out.size)
      have C14_21 : Hid (Below w14.heap.size w14 w21) := C14_20.out.trans (hbx.mono C14_20.out.size)
      have C15_21 : Hid (Below w15.heap.size w15 w21) := C15_20.out.trans (hbx.mono C15_20.out.size)
      have C16_21 : Hid (Below w16.heap.size w16 w21) := C16_20.out.trans (hbx.mono C16_20.out.size)
      have C19_21 : Hid (Below w19.heap.size w19 w21) := C19_20.out.trans (hbx.mono C19_20.out.size)
      have C20_21 : Hid (Below w20.heap.size w20 w21) := hbx
      clear hbx
      have HSB21 := Lib.hid (subset_any TB T20 (.pointer ub) (.pointer u20) w21 (HS.out w21 C3_21.out).2.2.1 (K20.out w21 C20_21.out) HE.out.2.1 V20.out.1 HE.out.2.2.2.1 V20.out.2 (by omega) true ⟨fun _ => (by rw [Q20.out]; exact sub_second _ _ HE.out.2.2.1 HE.out.2.2.2.1), fun _ => rfl⟩)
      go_wp2_with fail
      refine HSB21.out.mono ?_
      rintro e w22 ⟨rfl, hbx⟩
      have C3_22 : Hid (Below w3.heap.size w3 w22) := C3_21.out.trans (hbx.mono C3_21.out.size)
      have C4_22 : Hid (Below w4.heap.size w4 w22) := C4_21.out.trans (hbx.mono C4_21.out.size)
      have C5_22 : Hid (Below w5.heap.size w5 w22) := C5_21.out.trans (hbx.mono C5_21.out.size)
      have C8_22 : Hid (Below w8.heap.size w8 w22) := C8_21.out.trans (hbx.mono C8_21.out.size)
      have C11_22 : Hid (Below w11.heap.size w11 w22) := C11_21.out.trans (hbx.mono C11_21.out.size)
      have C14_22 : Hid (Below w14.heap.size w14 w22) := C14_21.out.trans (hbx.mono C14_21.out.size)
      have C15_22 : Hid (Below w15.heap.size w15 w22) := C15_21.out.trans (hbx.mono C15_21.out.size)
      have C16_22 : Hid (Below w16.heap.size w16 w22) := C16_21.out.trans (hbx.mono C16_21.out.size)
      have C19_22 : Hid (Below w19.heap.size w19 w22) := C19_21.out.trans (hbx.mono C19_21.out.size)
      have C20_22 : Hid (Below w20.heap.size w20 w22) := C20_21.out.trans (hbx.mono C20_21.out.size)
      clear hbx
      have HSB22 := Lib.hid (subset_any T15 TA (.pointer u15) (.pointer ua) w22 (K15.out w22 C15_22.out) (HS.out w22 C3_22.out).1 V15.out.1 HE.out.1 V15.out.2 HE.out.2.2.1 (by omega) true ⟨fun _ => (by rw [Q15.out]; exact sub_both _ _ HE.out.2.2.1), fun _ => rfl⟩)
      go_wp2_with fail
      refine HSB22.out.mono ?_
      rintro e w23 ⟨rfl, hbx⟩
      have C3_23 : Hid (Below w3.heap.size w3 w23) := C3_22.out.trans (hbx.mono C3_22.out.size)
      have C4_23 : Hid (Below w4.heap.size w4 w23) := C4_22.out.trans (hbx.mono C4_22.out.size)
      have C5_23 : Hid (Below w5.heap.size w5 w23) := C5_22.out.trans (hbx.mono C5_22.out.size)
      have C8_23 : Hid (Below w8.heap.size w8 w23) := C8_22.out.trans (hbx.mono C8_22.out.size)
      have C11_23 : Hid (Below w11.heap.size w11 w23) := C11_22.out.trans (hbx.mono C11_22.out.size)
      have C14_23 : Hid (Below w14.heap.size w14 w23) := C14_22.out.trans (hbx.mono C14_22.out.size)
      have C15_23 : Hid (Below w15.heap.size w15 w23) := C15_22.out.trans (hbx.mono C15_22.out.size)
      have C16_23 : Hid (Below w16.heap.size w16 w23) := C16_22.out.trans (hbx.mono C16_22.out.size)
      have C19_23 : Hid (Below w19.heap.size w19 w23) := C19_22.out.trans (hbx.mono C19_22.out.size)
      have C20_23 : Hid (Below w20.heap.size w20 w23) := C20_22.out.trans (hbx.mono C20_22.out.size)
      clear hbx
      have HSB23 := Lib.hid (subset_any T15 TB (.pointer u15) (.pointer ub) w23 (K15.out w23 C15_23.out) (HS.out w23 C3_23.out).2.2.1 V15.out.1 HE.out.2.1 V15.out.2 HE.out.2.2.2.1 (by omega) true ⟨fun _ => (by rw [Q15.out]; exact sub_both' _ _ HE.out.2.2.1), fun _ => rfl⟩)
      go_wp2_with fail
      refine HSB23.out.mono ?_
      rintro e w24 ⟨rfl, hbx⟩
      have C3_24 : Hid (Below w3.heap.size w3 w24) := C3_23.out.trans (hbx.mono C3_23.out.size)
      have C4_24 : Hid (Below w4.heap.size w4 w24) := C4_23.out.trans (hbx.mono C4_23.out.size)
      have C5_24 : Hid (Below w5.heap.size w5 w24) := C5_23.out.trans (hbx.mono C5_23.out.size)
      have C8_24 : Hid (Below w8.heap.size w8 w24) := C8_23.out.trans (hbx.mono C8_23.out.size)
      have C11_24 : Hid (Below w11.heap.size w11 w24) := C11_23.out.trans (hbx.mono C11_23.out.size)
      have C14_24 : Hid (Below w14.heap.size w14 w24) := C14_23.out.trans (hbx.mono C14_23.out.size)
      have C15_24 : Hid (Below w15.heap.size w15 w24) := C15_23.out.trans (hbx.mono C15_23.out.size)
      have C16_24 : Hid (Below w16.heap.size w16 w24) := C16_23.out.trans (hbx.mono C16_23.out.size)
      have C19_24 : Hid (Below w19.heap.size w19 w24) := C19_23.out.trans (hbx.mono C19_23.out.size)
      have C20_24 : Hid (Below w20.heap.size w20 w24) := C20_23.out.trans (hbx.mono C20_23.out.size)
      clear hbx
      have hul : T20.size + T15.size = TA.size + TB.size := by
        have := union_len TA.list TB.list HE.out.2.2.1 HE.out.2.2.2.1
        rw [← Q20.out, ← Q15.out, PT.size_list, PT.size_list, PT.size_list, PT.size_list] at this
        exact this
      have hw1 : IntKind.i64.wrap ((TA.size : Int) + (TB.size : Int)) = (TA.size : Int) + (TB.size : Int) := wsm _ (by omega)
      have hw2 : IntKind.i64.wrap ((TA.size : Int) + (TB.size : Int) - (T15.size : Int)) = (T20.size : Int) := by rw [wsm _ (by omega)]; omega
      go_wp2_with fail
      refine (tsize_any T20 (.pointer u20) w24 (K20.out w24 C20_24.out)).mono ?_
      rintro e wq ⟨rfl, rfl⟩
      go_wp2_with fail
      refine (tsize_any TA (.pointer ua) w24 (HS.out w24 C3_24.out).1).mono ?_
      rintro e wq ⟨rfl, rfl⟩
      go_wp2_with fail
      refine (tsize_any TB (.pointer ub) w24 (HS.out w24 C3_24.out).2.2.1).mono ?_
      rintro e wq ⟨rfl, rfl⟩
      go_wp2_with fail
      refine (tsize_any T15 (.pointer u15) w24 (K15.out w24 C15_24.out)).mono ?_
      rintro e wq ⟨rfl, rfl⟩
      have HU25 := Lib.hid (minusL_any TA TA (.pointer ua) (.pointer ua) w24 (HS.out w24 C3_24.out).1 (HS.out w24 C3_24.out).1 HE.out.1 HE.out.1 HE.out.2.2.1 HE.out.2.2.1 (by omega))
      go_wp2_with fail
      refine HU25.out.mono ?_
      rintro e w25 ⟨u25, T25, rfl, h25⟩
      have C3_25 : Hid (Below w3.heap.size w3 w25) := C3_24.out.trans (h25.out.2.2.2.2.mono C3_24.out.size)
      have C4_25 : Hid (Below w4.heap.size w4 w25) := C4_24.out.trans (h25.out.2.2.2.2.mono C4_24.out.size)
      have C5_25 : Hid (Below w5.heap.size w5 w25) := C5_24.out.trans (h25.out.2.2.2.2.mono C5_24.out.size)
      have C8_25 : Hid (Below w8.heap.size w8 w25) := C8_24.out.trans (h25.out.2.2.2.2.mono C8_24.out.size)
      have C11_25 : Hid (Below w11.heap.size w11 w25) := C11_24.out.trans (h25.out.2.2.2.2.mono C11_24.out.size)
      have C14_25 : Hid (Below w14.heap.size w14 w25) := C14_24.out.trans (h25.out.2.2.2.2.mono C14_24.out.size)
      have C15_25 : Hid (Below w15.heap.size w15 w25) := C15_24.out.trans (h25.out.2.2.2.2.mono C15_24.out.size)
      have C16_25 : Hid (Below w16.heap.size w16 w25) := C16_24.out.trans (h25.out.2.2.2.2.mono C16_24.out.size)
      have C19_25 : Hid (Below w19.heap.size w19 w25) := C19_24.out.trans (h25.out.2.2.2.2.mono C19_24.out.size)
      have C20_25 : Hid (Below w20.heap.size w20 w25) := C20_24.out.trans (h25.out.2.2.2.2.mono C20_24.out.size)
      have z25 := h25.out.2.2.2.1
      have Q25 : Hid (T25.list = []) := h25.out.2.2.1.trans (sub_self _ HE.out.2.2.1)
      have hz25 : T25.size ≤ 240 := by omega
      have K25 : Hid (∀ W, Below w25.heap.size w25 W → TIn All W (.pointer u25) T25) := fun W hW => h25.out.2.1.below hW
      have V25 : Hid (T25.even ∧ Asc T25.list) := ⟨h25.out.1, by rw [Q25.out]; exact List.Pairwise.nil⟩
      have hk0 : (T25.size : Int) = 0 := by have h := PT.size_of Q25.out; rw [h]; rfl
      go_wp2_with fail
      refine (tsize_any T25 (.pointer u25) w25 (K25.out w25 (Below.refl _ _))).mono ?_
      rintro e wq ⟨rfl, rfl⟩
      have HWZ := Lib.hid (HS.out w25 C3_25.out).2.2.2.2
      go_wp2_with fail
      refine (awake14_any w25).mono ?_
      rintro e wz ⟨rfl, hbz⟩
      have HZ : Hid (Below w.heap.size w wz) := HWZ.out.trans (hbz.mono HWZ.out.size)
      clear hbz
      go_wp2_with fail
      go_ret
      exact ⟨rfl, HZ.out⟩

end Go.Proofs.Ytnfhbljhohjkhaa
