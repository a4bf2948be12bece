/- The law PairFinds. -/
import Derived.Test.YtocideolihbnaaaCFind
set_option linter.unusedVariables false
set_option linter.unusedSimpArgs false
namespace Go.Proofs.Ytocideolihbnaaa
open Go.RowKit Go.Deep

set_option maxRecDepth 100000 in
set_option maxHeartbeats 3200000 in
theorem pairFinds_any (A : Option Addr) (n c : Nat) (L : Pairs) (A' : Option Addr) (n' c' : Nat) (K : Bytes) (w : World) (h : PRaw w A n L) (hc : n ≤ c) (hk : BRaw w (.slice A' n' c') K) :
    Calls Try.prog 5 #[.slice A n c, .slice A' n' c'] w fun e w' => e = .returned (.bool true) ∧ Below w.heap.size w w' := by
  have HO := Lib.hid h
  have HF := Lib.hid (small_any A n c L 60 w h (by omega))
  have HK := Lib.hid hk
  clear h hk
  go_enter Try.func5, Try.ntmps5
  go_wp2_with fail
  refine HF.out.mono ?_
  rintro e w1 ⟨r, rfl, hr, hb1⟩
  have HB1 := Lib.hid hb1
  clear hb1
  cases r with
  | false =>
    clear hr
    go_wp2_with fail
    refine (awake_any w1).mono ?_
    rintro e w2 ⟨rfl, hb2⟩
    have HB2 : Hid (Below w.heap.size w w2) := HB1.out.trans (hb2.mono HB1.out.size)
    clear hb2
    go_wp2_with fail
    go_ret
    exact ⟨rfl, HB2.out⟩
  | true =>
    have HFI := Lib.hid (hr rfl)
    clear hr
    by_cases hlen : 100 < n'
    · have hl2 : (100 : Int) < (n' : Int) := by omega
      go_wp2_with fail
      refine (awake_any w1).mono ?_
      rintro e w2 ⟨rfl, hb2⟩
      have HB2 : Hid (Below w.heap.size w w2) := HB1.out.trans (hb2.mono HB1.out.size)
      clear hb2
      go_wp2_with fail
      go_ret
      exact ⟨rfl, HB2.out⟩
    · have hl2 : ¬ (100 : Int) < (n' : Int) := by omega
      have hn80 : n ≤ 60 := by have := HFI.out.1; rw [HO.out.len] at this; exact this
      have HL1 : Hid (LIn (fun _ => True) w1 A n L) := (HO.out.fine HFI.out).below HB1.out
      have hkl : K.length = n' := by obtain ⟨_, _, _, e, _, _, hR⟩ := HK.out; cases e; exact hR.len
      have HK1 : Hid (BIn (fun _ => True) w1 (.slice A' n' c') K) := (HK.out.fine (by omega)).below HB1.out
      have hks : (strO K).size ≤ 100000 := by rw [strO_size]; omega
      clear hkl
      go_wp2_with fail
      refine (of_any L A n c w1 HL1.out (by omega)).mono ?_
      rintro e w4 ⟨A4, c4, rfl, h41, h42, h43⟩
      have HB4 : Hid (Below w1.heap.size w1 w4) := h43
      have HO4 : Hid (MIn (fun _ => True) w4 A4 L.length L) := h42.imp fun _ _ _ => trivial
      have hll : L.length ≤ 60 := HFI.out.1
      clear h41 h42 h43
      go_wp2_with fail
      refine (rcome_any L A4 L.length c4 w4 HO4.out (by omega) HFI.out.key).mono ?_
      rintro e w5 ⟨A5, c5, rfl, h51, h52, h53⟩
      have HB5 : Hid (Below w1.heap.size w1 w5) := HB4.out.trans (h53.mono HB4.out.size)
      have HM5 : Hid (MIn (fun _ => True) w5 A5 (comeL L).length (comeL L)) := h52.imp fun _ _ _ => trivial
      have hml : (comeL L).length ≤ 60 := HFI.out.come.1
      clear h51 h52 h53
      have hcv := conv_bytes (HK1.out.below HB5.out)
      obtain ⟨s, hs⟩ : ∃ s, strO K = s := ⟨_, rfl⟩
      have HSK : Hid (strL s = K) := by rw [← hs]; exact strL_strO K
      rw [hs] at hcv
      have HST := Lib.hid hs
      have HG := Lib.hid (mget_any (comeL L) A5 (comeL L).length c5 s w5 HM5.out (by omega))
      rw [HSK.out] at HG
      clear hs
      have HSM : Hid ((getM (comeL L) K).isSome = (getM (comeL L) K).isSome) := rfl
      rcases hgo : getM (comeL L) K with _ | x
      all_goals
        have HGO := Lib.hid hgo
        rw [hgo] at HG
        clear hgo
        simp only [gotM] at HG
        go_wp2_with fail
        refine HG.out.mono ?_
        rintro e w6 ⟨rfl, hb6⟩
        have HB6 : Hid (Below w1.heap.size w1 w6 ∧ Below w5.heap.size w5 w6) := ⟨HB5.out.trans (hb6.mono HB5.out.size), hb6⟩
        clear hb6 hcv
        go_wp2_with fail
        refine (Come_any L A n c w6 (HL1.out.below HB6.out.1) (by omega) hc).mono ?_
        rintro e w7 hcame
        obtain ⟨A2, c2, M, rfl, hM⟩ := hcame.parts HO.out.len
        have HMM : Hid (M = comeL L) := hM.out.2.2.2.2.1
        have HA : Hid (Asc M) := hM.out.2.2.1
        have HL7 : Hid (LIn (fun _ => True) w7 A2 M.length M) := hM.out.2.1.imp fun _ _ _ => trivial
        have HB7 : Hid (Below w1.heap.size w1 w7 ∧ Below w5.heap.size w5 w7) := ⟨HB6.out.1.trans (hM.out.2.2.2.2.2.1.mono HB6.out.1.size), HB6.out.2.trans (hM.out.2.2.2.2.2.1.mono HB6.out.2.size)⟩
        have hml2 : M.length ≤ 60 := by have := hM.out.2.2.2.1; omega
        clear hcame hM
        go_wp2_with fail
        refine (find_any M A2 M.length c2 (.slice A' n' c') K w7 HL7.out (HK1.out.below HB7.out.1) HA.out (by omega)).mono ?_
        rintro e w8 ⟨p, r, rfl, hf⟩
        have HB8 : Hid (Below w1.heap.size w1 w8 ∧ Below w5.heap.size w5 w8) := ⟨HB7.out.1.trans (hf.out.2.2.mono HB7.out.1.size), HB7.out.2.trans (hf.out.2.2.mono HB7.out.2.size)⟩
        have HRK : Hid (belowM (comeL L) K = p) := by rw [← HMM.out]; exact hf.out.1.rank
        have hrv := hf.out.2.1.trans (hf.out.1.found HA.out)
        rw [HMM.out, HGO.out] at hrv
        have hcv8 := conv_bytes (HK1.out.below HB8.out.1)
        rw [HST.out] at hcv8
        have HRA := Lib.hid (mrank_any (comeL L) A5 (comeL L).length c5 s w8 (HM5.out.below HB8.out.2) (by omega) HFI.out.come.key)
        rw [HSK.out, HRK.out] at HRA
        clear hf
      · obtain rfl : r = false := by
          cases r with
          | false => rfl
          | true => exact absurd (hrv.1 rfl) (by simp)
        clear hrv
        go_wp2_with fail
        refine HRA.out.mono ?_
        rintro e w9 ⟨rfl, hb9⟩
        have HB9 : Hid (Below w.heap.size w w9) := (HB1.out.trans (HB8.out.1.mono HB1.out.size)).trans (hb9.mono (Nat.le_trans HB1.out.size HB8.out.1.size))
        clear hb9
        go_wp2_with fail
        refine (awake_any w9).mono ?_
        rintro e w10 ⟨rfl, hb10⟩
        have H10 : Hid (Below w.heap.size w w10) := HB9.out.trans (hb10.mono HB9.out.size)
        clear hb10
        go_wp2_with fail
        go_ret
        exact ⟨rfl, H10.out⟩
      · obtain rfl : r = true := hrv.2 rfl
        clear hrv
        go_wp2_with fail
        refine HRA.out.mono ?_
        rintro e w9 ⟨rfl, hb9⟩
        have HB9 : Hid (Below w.heap.size w w9) := (HB1.out.trans (HB8.out.1.mono HB1.out.size)).trans (hb9.mono (Nat.le_trans HB1.out.size HB8.out.1.size))
        clear hb9
        go_wp2_with fail
        refine (awake_any w9).mono ?_
        rintro e w10 ⟨rfl, hb10⟩
        have H10 : Hid (Below w.heap.size w w10) := HB9.out.trans (hb10.mono HB9.out.size)
        clear hb10
        go_wp2_with fail
        go_ret
        exact ⟨rfl, H10.out⟩

end Go.Proofs.Ytocideolihbnaaa
