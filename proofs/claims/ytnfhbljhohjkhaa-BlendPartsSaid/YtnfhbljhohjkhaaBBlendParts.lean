/- The law BlendParts. -/
import Derived.Test.YtnfhbljhohjkhaaBOdd
set_option linter.unusedVariables false
set_option linter.unusedSimpArgs false
namespace Go.Proofs.Ytnfhbljhohjkhaa
open Go.RowKit Go.Deep

set_option maxRecDepth 100000 in
set_option maxHeartbeats 3200000 in
theorem blendParts_any (A : Option Addr) (n c : Nat) (L : List (Int × Bytes × Bytes)) (A' : Option Addr) (n' c' : Nat) (L' : List (Int × Bytes × Bytes)) (w : World) (h : Ops w A n L) (h' : Ops w A' n' L') :
    Calls Try.prog 8 #[.slice A n c, .slice A' n' c'] w fun e w' => e = .returned (.bool true) ∧ Below w.heap.size w w' := by
  have HO := Lib.hid h
  have HO' := Lib.hid h'
  have HF := Lib.hid (fine_any A n c L 60 w h (by omega))
  clear h h'
  go_enter Try.func8, Try.ntmps8
  go_wp2_with fail
  refine HF.out.mono ?_
  rintro e w0 ⟨r, rfl, hr, hb0⟩
  have HB0 := Lib.hid hb0
  clear hb0
  cases r with
  | false =>
    clear hr
    go_wp2_with fail
    refine (awake14_any w0).mono ?_
    rintro e wz ⟨rfl, hbz⟩
    have HZ : Hid (Below w.heap.size w wz) := HB0.out.trans (hbz.mono HB0.out.size)
    clear hbz
    go_wp2_with fail
    go_ret
    exact ⟨rfl, HZ.out⟩
  | true =>
    have HFI := Lib.hid (hr rfl)
    clear hr
    have HF' := Lib.hid (fine_any A' n' c' L' 60 w0 (HO'.out.below HB0.out) (by omega))
    go_wp2_with fail
    refine HF'.out.mono ?_
    rintro e w1 ⟨r, rfl, hr, hb1⟩
    have HB1 : Hid (Below w.heap.size w w1) := HB0.out.trans (hb1.mono HB0.out.size)
    clear hb1
    cases r with
    | false =>
      clear hr
      go_wp2_with fail
      refine (awake14_any w1).mono ?_
      rintro e wz ⟨rfl, hbz⟩
      have HZ : Hid (Below w.heap.size w wz) := HB1.out.trans (hbz.mono HB1.out.size)
      clear hbz
      go_wp2_with fail
      go_ret
      exact ⟨rfl, HZ.out⟩
    | true =>
      have HFI' := Lib.hid (hr rfl)
      clear hr
      have hn1 : n ≤ 60 := by have := HFI.out.1; rw [HO.out.len] at this; exact this
      have hn2 : n' ≤ 60 := by have := HFI'.out.1; rw [HO'.out.len] at this; exact this
      have HMD := Lib.hid (made14_any A n c L w1 (HO.out.below HB1.out) ⟨by have := HFI.out.1; omega, HFI.out.2⟩)
      go_wp2_with fail
      refine HMD.out.mono ?_
      rintro e w2 ⟨ua, Aa, ca, TA, rfl, hIA⟩
      have HB2 : Hid (Below w.heap.size w w2) := HB1.out.trans (hIA.out.below.mono HB1.out.size)
      have HMD' := Lib.hid (made14_any A' n' c' L' w2 (HO'.out.below HB2.out) ⟨by have := HFI'.out.1; omega, HFI'.out.2⟩)
      go_wp2_with fail
      refine HMD'.out.mono ?_
      rintro e w3 ⟨ub, Ab, cb, TB, rfl, hIB⟩
      have HB3 : Hid (Below w.heap.size w w3) := HB2.out.trans (hIB.out.below.mono HB2.out.size)
      have hsa : TA.size ≤ 60 := by have := hIA.out.size; omega
      have hsb : TB.size ≤ 60 := by have := hIB.out.size; omega
      have HLA : Hid (TA.list.length = TA.size) := TA.size_list
      have HLB : Hid (TB.list.length = TB.size) := TB.size_list
      have hla : TA.list.length ≤ 60 := by have := HLA.out; omega
      have hlb : TB.list.length ≤ 60 := by have := HLB.out; omega
      have HE : Hid (TA.even ∧ TB.even ∧ Asc TA.list ∧ Asc TB.list ∧ (∀ p ∈ TA.list, p.1.length ≤ 100000) ∧ (∀ p ∈ TB.list, p.1.length ≤ 100000)) := ⟨hIA.out.even, hIB.out.even, hIA.out.asc, hIB.out.asc, hIA.out.keys, hIB.out.keys⟩
      have HS : Hid (∀ W, Below w3.heap.size w3 W → TIn All W (.pointer ua) TA ∧ MIn All W Aa TA.list.length TA.list ∧ TIn All W (.pointer ub) TB ∧ MIn All W Ab TB.list.length TB.list ∧ Below w.heap.size w W) := fun W hW =>
        ⟨(hIA.out.tin.below hIB.out.below).below hW, (hIA.out.min.below hIB.out.below).below hW, hIB.out.tin.below hW, hIB.out.min.below hW, HB3.out.trans (hW.mono HB3.out.size)⟩
      clear hIA hIB HMD HMD'
      go_wp2_with fail
      refine (rpart_any TA.list TB.list Aa Ab TA.list.length TB.list.length ca cb false w3 (HS.out w3 (Below.refl _ _)).2.1 (HS.out w3 (Below.refl _ _)).2.2.2.1 (by omega) (by omega)).mono ?_
      rintro e w4 ⟨A4, c4, rfl, g1, g2, g3⟩
      have D4 : Hid (Below w3.heap.size w3 w4) := g3
      have M4 : Hid (∀ W, Below w4.heap.size w4 W → MIn All W A4 (partL TA.list TB.list false).length (partL TA.list TB.list false)) := fun W hW => (g2.imp fun _ _ _ => trivial).below hW
      have l1 : (partL TA.list TB.list false).length ≤ 60 := Nat.le_trans (partL_len _ _ _) hla
      clear g1 g2 g3
      go_wp2_with fail
      refine (rpart_any TA.list TB.list Aa Ab TA.list.length TB.list.length ca cb true w4 (HS.out w4 D4.out).2.1 (HS.out w4 D4.out).2.2.2.1 (by omega) (by omega)).mono ?_
      rintro e w5 ⟨A5, c5, rfl, g1, g2, g3⟩
      have D5 : Hid (Below w3.heap.size w3 w5) := D4.out.trans (g3.mono D4.out.size)
      have M5 : Hid (∀ W, Below w5.heap.size w5 W → MIn All W A5 (partL TA.list TB.list true).length (partL TA.list TB.list true)) := fun W hW => (g2.imp fun _ _ _ => trivial).below hW
      have D45 : Hid (Below w4.heap.size w4 w5) := g3
      have l2 : (partL TA.list TB.list true).length ≤ 60 := Nat.le_trans (partL_len _ _ _) hla
      clear g1 g2 g3
      have HU6 := Lib.hid (minusL_any TA TB (.pointer ua) (.pointer ub) w5 (HS.out w5 D5.out).1 (HS.out w5 D5.out).2.2.1 HE.out.1 HE.out.2.1 HE.out.2.2.1 HE.out.2.2.2.1 (by omega))
      go_wp2_with fail
      refine HU6.out.mono ?_
      rintro e w6 ⟨u6, T6, rfl, h6⟩
      have D6 : Hid (Below w3.heap.size w3 w6) := D5.out.trans (h6.out.2.2.2.2.mono D5.out.size)
      have z6 := h6.out.2.2.2.1
      have D46 : Hid (Below w4.heap.size w4 w6) := D45.out.trans (h6.out.2.2.2.2.mono D45.out.size)
      have D56 : Hid (Below w5.heap.size w5 w6) := h6.out.2.2.2.2
      have HI6 := Lib.hid (isT_any T6 (.pointer u6) A4 c4 (partL TA.list TB.list false) w6 h6.out.2.1 h6.out.1 (by rw [h6.out.2.2.1]; exact partL_asc _ _ _ HE.out.2.2.1) (M4.out w6 D46.out) h6.out.2.2.1 (by omega))
      go_wp2_with fail
      refine HI6.out.mono ?_
      rintro e w7 ⟨rfl, hb7⟩
      have D7 : Hid (Below w3.heap.size w3 w7) := D6.out.trans (hb7.mono D6.out.size)
      have D47 : Hid (Below w4.heap.size w4 w7) := D46.out.trans (hb7.mono D46.out.size)
      have D57 : Hid (Below w5.heap.size w5 w7) := D56.out.trans (hb7.mono D56.out.size)
      clear hb7
      have HU8 := Lib.hid (bothL_any TA TB (.pointer ua) (.pointer ub) w7 (HS.out w7 D7.out).1 (HS.out w7 D7.out).2.2.1 HE.out.1 HE.out.2.1 HE.out.2.2.1 HE.out.2.2.2.1 (by omega))
      go_wp2_with fail
      refine HU8.out.mono ?_
      rintro e w8 ⟨u8, T8, rfl, h8⟩
      have D8 : Hid (Below w3.heap.size w3 w8) := D7.out.trans (h8.out.2.2.2.2.mono D7.out.size)
      have z8 := h8.out.2.2.2.1
      have D48 : Hid (Below w4.heap.size w4 w8) := D47.out.trans (h8.out.2.2.2.2.mono D47.out.size)
      have D58 : Hid (Below w5.heap.size w5 w8) := D57.out.trans (h8.out.2.2.2.2.mono D57.out.size)
      have HI8 := Lib.hid (isT_any T8 (.pointer u8) A5 c5 (partL TA.list TB.list true) w8 h8.out.2.1 h8.out.1 (by rw [h8.out.2.2.1]; exact partL_asc _ _ _ HE.out.2.2.1) (M5.out w8 D58.out) h8.out.2.2.1 (by omega))
      go_wp2_with fail
      refine HI8.out.mono ?_
      rintro e w9 ⟨rfl, hb9⟩
      have D9 : Hid (Below w3.heap.size w3 w9) := D8.out.trans (hb9.mono D8.out.size)
      have D49 : Hid (Below w4.heap.size w4 w9) := D48.out.trans (hb9.mono D48.out.size)
      clear hb9
      go_wp2_with fail
      refine (rpart_any TB.list TA.list Ab Aa TB.list.length TA.list.length cb ca false w9 (HS.out w9 D9.out).2.2.2.1 (HS.out w9 D9.out).2.1 (by omega) (by omega)).mono ?_
      rintro e w10 ⟨A10, c10, rfl, g1, g2, g3⟩
      have D10 : Hid (Below w3.heap.size w3 w10) := D9.out.trans (g3.mono D9.out.size)
      have D410 : Hid (Below w4.heap.size w4 w10) := D49.out.trans (g3.mono D49.out.size)
      have l3 : (partL TB.list TA.list false).length ≤ 60 := Nat.le_trans (partL_len _ _ _) hlb
      have HU11 := Lib.hid (runion_any (partL TA.list TB.list false) (partL TB.list TA.list false) A4 A10 (partL TA.list TB.list false).length (partL TB.list TA.list false).length c4 c10 w10 (M4.out w10 D410.out) g2 (by omega) (partL_asc _ _ _ HE.out.2.2.1) (partL_keys _ _ _ HE.out.2.2.2.2.1) (partL_keys _ _ _ HE.out.2.2.2.2.2))
      clear g1 g2 g3
      go_wp2_with fail
      refine HU11.out.mono ?_
      rintro e w11 ⟨A11, c11, rfl, g1, g2, g3⟩
      have D11 : Hid (Below w3.heap.size w3 w11) := D10.out.trans (g3.mono D10.out.size)
      have M11 : Hid (∀ W, Below w11.heap.size w11 W → MIn All W A11 (uniL (partL TA.list TB.list false) (partL TB.list TA.list false)).length (uniL (partL TA.list TB.list false) (partL TB.list TA.list false))) := fun W hW => (g2.imp fun _ _ _ => trivial).below hW
      clear g1 g2 g3
      have HU12 := Lib.hid (odd_any TA TB (.pointer ua) (.pointer ub) w11 (HS.out w11 D11.out).1 (HS.out w11 D11.out).2.2.1 HE.out.1 HE.out.2.1 HE.out.2.2.1 HE.out.2.2.2.1 (by omega))
      go_wp2_with fail
      refine HU12.out.mono ?_
      rintro e w12 ⟨u12, T12, rfl, h12⟩
      have D12 : Hid (Below w3.heap.size w3 w12) := D11.out.trans (h12.out.2.2.2.2.mono D11.out.size)
      have z12 := h12.out.2.2.2.1
      have HI12 := Lib.hid (isT_any T12 (.pointer u12) A11 c11 (uniL (partL TA.list TB.list false) (partL TB.list TA.list false)) w12 h12.out.2.1 h12.out.1 (by rw [h12.out.2.2.1]; exact uniL_asc _ _ (partL_asc _ _ _ HE.out.2.2.1)) (M11.out w12 h12.out.2.2.2.2) h12.out.2.2.1 (by omega))
      go_wp2_with fail
      refine HI12.out.mono ?_
      rintro e w13 ⟨rfl, hb13⟩
      have D13 : Hid (Below w3.heap.size w3 w13) := D12.out.trans (hb13.mono D12.out.size)
      clear hb13
      by_cases hpe : (partL TA.list TB.list false) = []
      · have hp : (partL TA.list TB.list false) = [] := by assumption
        have hlz : ((partL TA.list TB.list false).length : Int) = 0 := by rw [hp]; rfl
        have HSB := Lib.hid (subset_any TA TB (.pointer ua) (.pointer ub) w13 (HS.out w13 D13.out).1 (HS.out w13 D13.out).2.2.1 HE.out.1 HE.out.2.1 HE.out.2.2.1 HE.out.2.2.2.1 (by omega) true ⟨fun _ => hp, fun _ => rfl⟩)
        clear hp hpe
        go_wp2_with fail
        refine HSB.out.mono ?_
        rintro e w14 ⟨rfl, hb14⟩
        have D14 : Hid (Below w3.heap.size w3 w14) := D13.out.trans (hb14.mono D13.out.size)
        clear hb14
        have HIA := Lib.hid (isT_any TA (.pointer ua) Aa ca TA.list w14 (HS.out w14 D14.out).1 HE.out.1 HE.out.2.2.1 (HS.out w14 D14.out).2.1 rfl (by omega))
        go_wp2_with fail
        refine HIA.out.mono ?_
        rintro e w15 ⟨rfl, hb15⟩
        have D15 : Hid (Below w3.heap.size w3 w15) := D14.out.trans (hb15.mono D14.out.size)
        clear hb15
        have HIB := Lib.hid (isT_any TB (.pointer ub) Ab cb TB.list w15 (HS.out w15 D15.out).2.2.1 HE.out.2.1 HE.out.2.2.2.1 (HS.out w15 D15.out).2.2.2.1 rfl (by omega))
        go_wp2_with fail
        refine HIB.out.mono ?_
        rintro e w16 ⟨rfl, hb16⟩
        have D16 : Hid (Below w3.heap.size w3 w16) := D15.out.trans (hb16.mono D15.out.size)
        clear hb16
        have HW16 := Lib.hid (HS.out w16 D16.out).2.2.2.2
        go_wp2_with fail
        refine (awake14_any w16).mono ?_
        rintro e wz ⟨rfl, hbz⟩
        have HZ : Hid (Below w.heap.size w wz) := HW16.out.trans (hbz.mono HW16.out.size)
        clear hbz
        go_wp2_with fail
        go_ret
        exact ⟨rfl, HZ.out⟩
      · have hp : ¬ (partL TA.list TB.list false) = [] := by assumption
        have hlz : ¬ ((partL TA.list TB.list false).length : Int) = 0 := fun e => hp (List.eq_nil_of_length_eq_zero (by omega))
        have hlz2 : (((partL TA.list TB.list false).length : Int) == 0) = false := beq_false_of_ne hlz
        have HSB := Lib.hid (subset_any TA TB (.pointer ua) (.pointer ub) w13 (HS.out w13 D13.out).1 (HS.out w13 D13.out).2.2.1 HE.out.1 HE.out.2.1 HE.out.2.2.1 HE.out.2.2.2.1 (by omega) false ⟨fun h => (by cases h), fun h => absurd h hp⟩)
        clear hp hpe
        go_wp2_with fail
        refine HSB.out.mono ?_
        rintro e w14 ⟨rfl, hb14⟩
        have D14 : Hid (Below w3.heap.size w3 w14) := D13.out.trans (hb14.mono D13.out.size)
        clear hb14
        have HIA := Lib.hid (isT_any TA (.pointer ua) Aa ca TA.list w14 (HS.out w14 D14.out).1 HE.out.1 HE.out.2.2.1 (HS.out w14 D14.out).2.1 rfl (by omega))
        go_wp2_with fail
        refine HIA.out.mono ?_
        rintro e w15 ⟨rfl, hb15⟩
        have D15 : Hid (Below w3.heap.size w3 w15) := D14.out.trans (hb15.mono D14.out.size)
        clear hb15
        have HIB := Lib.hid (isT_any TB (.pointer ub) Ab cb TB.list w15 (HS.out w15 D15.out).2.2.1 HE.out.2.1 HE.out.2.2.2.1 (HS.out w15 D15.out).2.2.2.1 rfl (by omega))
        go_wp2_with fail
        refine HIB.out.mono ?_
        rintro e w16 ⟨rfl, hb16⟩
        have D16 : Hid (Below w3.heap.size w3 w16) := D15.out.trans (hb16.mono D15.out.size)
        clear hb16
        have HW16 := Lib.hid (HS.out w16 D16.out).2.2.2.2
        go_wp2_with fail
        refine (awake14_any w16).mono ?_
        rintro e wz ⟨rfl, hbz⟩
        have HZ : Hid (Below w.heap.size w wz) := HW16.out.trans (hbz.mono HW16.out.size)
        clear hbz
        go_wp2_with fail
        go_ret
        exact ⟨rfl, HZ.out⟩

end Go.Proofs.Ytnfhbljhohjkhaa
