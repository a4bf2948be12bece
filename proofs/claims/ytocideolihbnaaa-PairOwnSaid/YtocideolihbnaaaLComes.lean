/- The law PairComes. -/
import Derived.Test.YtocideolihbnaaaCAwake
set_option linter.unusedVariables false
set_option linter.unusedSimpArgs false
namespace Go.Proofs.Ytocideolihbnaaa
open Go.RowKit Go.Deep

theorem come_self (M : Pairs) (h : Asc M) : comeL M = M := by
  refine asc_ext _ _ (comeL_asc M) h fun k => ?_
  rcases last_index M k with hn | ⟨t, ht, rfl, hl⟩
  · rw [getM_none' M k hn]
    have := come_none M [] k List.Pairwise.nil hn
    exact this
  · rw [come_last M t ht hl]
    refine (getM_mem M _ _ h ?_).symm
    rw [List.getD_eq_getElem?_getD, List.getElem?_eq_getElem ht, Option.getD_some]
    exact List.getElem_mem ht
theorem FineP.come {L : Pairs} {m : Nat} (h : FineP L m) : FineP (comeL L) m := ⟨Nat.le_trans (comeL_len L) h.1, fun p hp => h.2 p (comeL_mem L p hp)⟩
theorem FineP.key {L : Pairs} {m : Nat} (h : FineP L m) : ∀ p ∈ L, p.1.length ≤ 100000 := fun p hp => by have := h.2 p hp; omega
theorem FineP.small {L : Pairs} {m : Nat} (h : FineP L m) (i : Nat) : ¬ bigP (L.getD i ([], [])) := by
  unfold bigP
  rw [List.getD_eq_getElem?_getD]
  rcases Nat.lt_or_ge i L.length with hi | hi
  · rw [List.getElem?_eq_getElem hi, Option.getD_some]
    have := h.2 _ (List.getElem_mem hi)
    omega
  · rw [List.getElem?_eq_none hi, Option.getD_none]; simp
theorem mapped_asc {M : Pairs} {m n i : Nat} {er : Int} (h : Mapped M n i er) (hn : n = M.length) (ha : Asc M) (hf : FineP M m) : i = n ∧ er = 0 := by
  rcases h with ⟨hlt, _, he, hz⟩ | ⟨h1, h2, _⟩
  · exfalso
    apply hz
    rw [he, mapAt, if_neg (hf.small i)]
    by_cases h0 : i = 0
    · rw [if_pos h0]
    · rw [if_neg h0]
      subst hn
      have hc : cmp (M.getD (i - 1) ([], [])).1 (M.getD i ([], [])).1 = -1 := by
        have h1 : i - 1 < M.length := by omega
        rw [List.getD_eq_getElem?_getD, List.getD_eq_getElem?_getD, List.getElem?_eq_getElem h1, List.getElem?_eq_getElem hlt]
        exact List.pairwise_iff_getElem.1 ha (i - 1) i h1 hlt (by omega)
      rw [if_neg (cmp_ne hc), hc, if_neg (by decide)]
  · exact ⟨h1, h2⟩

set_option maxRecDepth 100000 in
set_option maxHeartbeats 3200000 in
theorem pairComes_any (A : Option Addr) (n c : Nat) (L : Pairs) (w : World) (h : PRaw w A n L) (hc : n ≤ c) :
    Calls Try.prog 8 #[.slice A n c] w fun e w' => e = .returned (.bool true) ∧ Below w.heap.size w w' := by
  have HO := Lib.hid h
  have HF := Lib.hid (small_any A n c L 60 w h (by omega))
  clear h
  go_enter Try.func8, Try.ntmps8
  go_wp2_with fail
  refine HF.out.mono ?_
  rintro e w1 ⟨r, rfl, hr, hb1⟩
  have HB1 := Lib.hid hb1
  clear hb1
  cases r with
  | false =>
    clear hr
    go_wp2_with fail
    refine (awake_any w1).mono ?_
    rintro e w2 ⟨rfl, hb2⟩
    have HB2 : Hid (Below w.heap.size w w2) := HB1.out.trans (hb2.mono HB1.out.size)
    clear hb2
    go_wp2_with fail
    go_ret
    exact ⟨rfl, HB2.out⟩
  | true =>
    have HFI := Lib.hid (hr rfl)
    have hn80 : n ≤ 60 := by have := (hr rfl).1; rw [HO.out.len] at this; exact this
    clear hr
    have HL1 : Hid (LIn (fun _ => True) w1 A n L) := (HO.out.fine HFI.out).below HB1.out
    have HC := Lib.hid (Come_any L A n c w1 HL1.out (by omega) hc)
    go_wp2_with fail
    refine HC.out.mono ?_
    rintro e w2 hcame
    obtain ⟨A2, c2, M, rfl, hM⟩ := hcame.parts HO.out.len
    have HB2 : Hid (Below w.heap.size w w2) := HB1.out.trans (hM.out.2.2.2.2.2.1.mono HB1.out.size)
    have HMM : Hid (M = comeL L) := hM.out.2.2.2.2.1
    have HFM : Hid (FineP M 60) := by rw [HMM.out]; exact HFI.out.come
    have HL2 : Hid (LIn (fun _ => True) w2 A n L) := HL1.out.below hM.out.2.2.2.2.2.1
    have HM2 : Hid (LIn (fun _ => True) w2 A2 M.length M) := hM.out.2.1.imp fun _ _ _ => trivial
    have HCA : Hid (M.length ≤ c2 ∧ Asc M) := ⟨hM.out.1, hM.out.2.2.1⟩
    have hml : M.length ≤ 60 := by have := hM.out.2.2.2.1; omega
    clear hcame hM
    go_wp2_with fail
    refine (map_any M A2 M.length c2 w2 HM2.out (by omega)).mono ?_
    rintro e w3 ⟨i, er, rfl, hmap⟩
    obtain ⟨hi, her⟩ := mapped_asc hmap.out.1 rfl HCA.out.2 HFM.out
    subst hi her
    have HB3 : Hid (Below w2.heap.size w2 w3) := hmap.out.2
    clear hmap
    go_wp2_with fail
    refine (of_any L A n c w3 (HL2.out.below HB3.out) (by omega)).mono ?_
    rintro e w4 ⟨A4, c4, rfl, h41, h42, h43⟩
    have HB4 : Hid (Below w2.heap.size w2 w4) := HB3.out.trans (h43.mono HB3.out.size)
    have HO4 : Hid (MIn (fun _ => True) w4 A4 L.length L) := h42.imp fun _ _ _ => trivial
    have hll : L.length ≤ 60 := HFI.out.1
    clear h41 h42 h43
    go_wp2_with fail
    refine (rcome_any L A4 L.length c4 w4 HO4.out (by omega) HFI.out.key).mono ?_
    rintro e w5 ⟨A5, c5, rfl, h51, h52, h53⟩
    have HB5 : Hid (Below w2.heap.size w2 w5) := HB4.out.trans (h53.mono HB4.out.size)
    have HIS := Lib.hid (is_any M (comeL L) A2 A5 M.length (comeL L).length c2 c5 w5 (HM2.out.below HB5.out) h52 (by omega) (by rw [← HMM.out]; omega))
    rw [decide_eq_true HMM.out] at HIS
    clear h51 h52 h53
    go_wp2_with fail
    refine HIS.out.mono ?_
    rintro e w6 ⟨rfl, hb6⟩
    have HB6 : Hid (Below w2.heap.size w2 w6) := HB5.out.trans (hb6.mono HB5.out.size)
    clear hb6
    go_wp2_with fail
    refine (Come_any M A2 M.length c2 w6 (HM2.out.below HB6.out) (by omega) HCA.out.1).mono ?_
    rintro e w7 hcame
    obtain ⟨A7, c7, M7, rfl, h7⟩ := hcame.parts rfl
    have HB7 : Hid (Below w2.heap.size w2 w7) := HB6.out.trans (h7.out.2.2.2.2.2.1.mono HB6.out.size)
    have hM7 : M7 = M := by rw [h7.out.2.2.2.2.1]; exact come_self M HCA.out.2
    subst hM7
    have HS := Lib.hid (same_any M7 M7 A7 A2 M7.length M7.length c7 c2 w7 h7.out.2.1 (HM2.out.below HB7.out) (by omega) (by omega))
    rw [decide_eq_true rfl] at HS
    clear hcame h7
    go_wp2_with fail
    refine HS.out.mono ?_
    rintro e w8 ⟨rfl, hb8⟩
    have HB8 : Hid (Below w.heap.size w w8) := (HB2.out.trans (HB7.out.mono HB2.out.size)).trans (hb8.mono (Nat.le_trans HB2.out.size HB7.out.size))
    clear hb8
    go_wp2_with fail
    refine (awake_any w8).mono ?_
    rintro e w9 ⟨rfl, hb9⟩
    have H9 : Hid (Below w.heap.size w w9) := HB8.out.trans (hb9.mono HB8.out.size)
    clear hb9
    go_wp2_with fail
    go_ret
    exact ⟨rfl, H9.out⟩

end Go.Proofs.Ytocideolihbnaaa
