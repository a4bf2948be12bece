/- The law BlendUnion. -/
import Derived.Test.YtnfhbljhohjkhaaBAwake
set_option linter.unusedVariables false
set_option linter.unusedSimpArgs false
namespace Go.Proofs.Ytnfhbljhohjkhaa
open Go.RowKit Go.Deep

set_option maxRecDepth 100000 in
set_option maxHeartbeats 3200000 in
theorem blendUnion_any (A : Option Addr) (n c : Nat) (L : List (Int × Bytes × Bytes)) (A' : Option Addr) (n' c' : Nat) (L' : List (Int × Bytes × Bytes)) (w : World) (h : Ops w A n L) (h' : Ops w A' n' L') :
    Calls Try.prog 7 #[.slice A n c, .slice A' n' c'] w fun e w' => e = .returned (.bool true) ∧ Below w.heap.size w w' := by
  have HO := Lib.hid h
  have HO' := Lib.hid h'
  have HF := Lib.hid (fine_any A n c L 60 w h (by omega))
  clear h h'
  go_enter Try.func7, Try.ntmps7
  go_wp2_with fail
  refine HF.out.mono ?_
  rintro e w0 ⟨r, rfl, hr, hb0⟩
  have HB0 := Lib.hid hb0
  clear hb0
  cases r with
  | false =>
    clear hr
    go_wp2_with fail
    refine (awake14_any w0).mono ?_
    rintro e wz ⟨rfl, hbz⟩
    have HZ : Hid (Below w.heap.size w wz) := HB0.out.trans (hbz.mono HB0.out.size)
    clear hbz
    go_wp2_with fail
    go_ret
    exact ⟨rfl, HZ.out⟩
  | true =>
    have HFI := Lib.hid (hr rfl)
    clear hr
    have HF' := Lib.hid (fine_any A' n' c' L' 60 w0 (HO'.out.below HB0.out) (by omega))
    go_wp2_with fail
    refine HF'.out.mono ?_
    rintro e w1 ⟨r, rfl, hr, hb1⟩
    have HB1 : Hid (Below w.heap.size w w1) := HB0.out.trans (hb1.mono HB0.out.size)
    clear hb1
    cases r with
    | false =>
      clear hr
      go_wp2_with fail
      refine (awake14_any w1).mono ?_
      rintro e wz ⟨rfl, hbz⟩
      have HZ : Hid (Below w.heap.size w wz) := HB1.out.trans (hbz.mono HB1.out.size)
      clear hbz
      go_wp2_with fail
      go_ret
      exact ⟨rfl, HZ.out⟩
    | true =>
      have HFI' := Lib.hid (hr rfl)
      clear hr
      have hn1 : n ≤ 60 := by have := HFI.out.1; rw [HO.out.len] at this; exact this
      have hn2 : n' ≤ 60 := by have := HFI'.out.1; rw [HO'.out.len] at this; exact this
      have HMD := Lib.hid (made14_any A n c L w1 (HO.out.below HB1.out) ⟨by have := HFI.out.1; omega, HFI.out.2⟩)
      go_wp2_with fail
      refine HMD.out.mono ?_
      rintro e w2 ⟨ua, Aa, ca, TA, rfl, hIA⟩
      have HB2 : Hid (Below w.heap.size w w2) := HB1.out.trans (hIA.out.below.mono HB1.out.size)
      have HMD' := Lib.hid (made14_any A' n' c' L' w2 (HO'.out.below HB2.out) ⟨by have := HFI'.out.1; omega, HFI'.out.2⟩)
      go_wp2_with fail
      refine HMD'.out.mono ?_
      rintro e w3 ⟨ub, Ab, cb, TB, rfl, hIB⟩
      have HB3 : Hid (Below w.heap.size w w3) := HB2.out.trans (hIB.out.below.mono HB2.out.size)
      have hsa : TA.size ≤ 60 := by have := hIA.out.size; omega
      have hsb : TB.size ≤ 60 := by have := hIB.out.size; omega
      have HLA : Hid (TA.list.length = TA.size) := TA.size_list
      have HLB : Hid (TB.list.length = TB.size) := TB.size_list
      have hla : TA.list.length ≤ 60 := by have := HLA.out; omega
      have hlb : TB.list.length ≤ 60 := by have := HLB.out; omega
      have HE : Hid (TA.even ∧ TB.even ∧ Asc TA.list ∧ Asc TB.list ∧ (∀ p ∈ TA.list, p.1.length ≤ 100000) ∧ (∀ p ∈ TB.list, p.1.length ≤ 100000)) := ⟨hIA.out.even, hIB.out.even, hIA.out.asc, hIB.out.asc, hIA.out.keys, hIB.out.keys⟩
      have HS : Hid (∀ W, Below w3.heap.size w3 W → TIn All W (.pointer ua) TA ∧ MIn All W Aa TA.list.length TA.list ∧ TIn All W (.pointer ub) TB ∧ MIn All W Ab TB.list.length TB.list ∧ Below w.heap.size w W) := fun W hW =>
        ⟨(hIA.out.tin.below hIB.out.below).below hW, (hIA.out.min.below hIB.out.below).below hW, hIB.out.tin.below hW, hIB.out.min.below hW, HB3.out.trans (hW.mono HB3.out.size)⟩
      clear hIA hIB HMD HMD'
      have HU := Lib.hid (union_any TB TA (.pointer ua) (.pointer ub) w3 (HS.out w3 (Below.refl _ _)).1 (HS.out w3 (Below.refl _ _)).2.2.1 HE.out.1 HE.out.2.1 HE.out.2.2.1 HE.out.2.2.2.1 (by omega))
      go_wp2_with fail
      refine HU.out.mono ?_
      rintro e w4 ⟨u4, T4, rfl, h4⟩
      have D4 : Hid (Below w3.heap.size w3 w4) := h4.out.2.2.2.2
      have HE4 : Hid (T4.list = uniL TA.list TB.list) := blends_eq h4.out.2.2.1 (uniL_blends _ _ HE.out.2.2.1 HE.out.2.2.2.1)
      have hs4 := h4.out.2.2.2.1
      go_wp2_with fail
      refine (runion_any TA.list TB.list Aa Ab TA.list.length TB.list.length ca cb w4 (HS.out w4 D4.out).2.1 (HS.out w4 D4.out).2.2.2.1 (by omega) HE.out.2.2.1 HE.out.2.2.2.2.1 HE.out.2.2.2.2.2).mono ?_
      rintro e w5 ⟨A5, c5, rfl, g1, g2, g3⟩
      have D5 : Hid (Below w3.heap.size w3 w5) := D4.out.trans (g3.mono D4.out.size)
      have HI5 := Lib.hid (isT_any T4 (.pointer u4) A5 c5 (uniL TA.list TB.list) w5 (h4.out.2.1.below g3) h4.out.1 h4.out.2.2.1.1 g2 HE4.out (by omega))
      clear g1 g2 g3
      go_wp2_with fail
      refine HI5.out.mono ?_
      rintro e w6 ⟨rfl, hb6⟩
      have D6 : Hid (Below w3.heap.size w3 w6) := D5.out.trans (hb6.mono D5.out.size)
      clear hb6
      have HI6 := Lib.hid (isT_any TA (.pointer ua) Aa ca TA.list w6 (HS.out w6 D6.out).1 HE.out.1 HE.out.2.2.1 (HS.out w6 D6.out).2.1 rfl (by omega))
      go_wp2_with fail
      refine HI6.out.mono ?_
      rintro e w7 ⟨rfl, hb7⟩
      have D7 : Hid (Below w3.heap.size w3 w7) := D6.out.trans (hb7.mono D6.out.size)
      clear hb7
      have HI7 := Lib.hid (isT_any TB (.pointer ub) Ab cb TB.list w7 (HS.out w7 D7.out).2.2.1 HE.out.2.1 HE.out.2.2.2.1 (HS.out w7 D7.out).2.2.2.1 rfl (by omega))
      go_wp2_with fail
      refine HI7.out.mono ?_
      rintro e w8 ⟨rfl, hb8⟩
      have D8 : Hid (Below w3.heap.size w3 w8) := D7.out.trans (hb8.mono D7.out.size)
      clear hb8
      have HW8 := Lib.hid (HS.out w8 D8.out).2.2.2.2
      go_wp2_with fail
      refine (awake14_any w8).mono ?_
      rintro e wz ⟨rfl, hbz⟩
      have HZ : Hid (Below w.heap.size w wz) := HW8.out.trans (hbz.mono HW8.out.size)
      clear hbz
      go_wp2_with fail
      go_ret
      exact ⟨rfl, HZ.out⟩

end Go.Proofs.Ytnfhbljhohjkhaa
