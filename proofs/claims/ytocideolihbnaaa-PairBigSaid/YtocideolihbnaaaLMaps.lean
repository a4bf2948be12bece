/- The law PairMaps. -/
import Derived.Test.YtocideolihbnaaaLComes
set_option linter.unusedVariables false
set_option linter.unusedSimpArgs false
namespace Go.Proofs.Ytocideolihbnaaa
open Go.RowKit Go.Deep

theorem mapped_at {L : Pairs} {n i j : Nat} {er v : Int} (h : Mapped L n i er) (hj : j < n) (hz : ∀ i, i < j → mapAt L i = 0) (hv : mapAt L j = v) (h0 : v ≠ 0) : i = j ∧ er = v := by
  rcases h with ⟨h1, h2, h3, h4⟩ | ⟨h1, h2, h3⟩
  · rcases Nat.lt_trichotomy i j with h | h | h
    · exact absurd (h3.trans (hz i h)) h4
    · subst h; exact ⟨rfl, h3.trans hv⟩
    · exact absurd (hv.symm.trans (h2 j h)) h0
  · exact absurd (hv.symm.trans (h3 j hj)) h0
theorem mapped_end {L : Pairs} {n i : Nat} {er : Int} (h : Mapped L n i er) (hz : ∀ i, i < n → mapAt L i = 0) : i = n ∧ er = 0 := by
  rcases h with ⟨h1, h2, h3, h4⟩ | ⟨h1, h2, h3⟩
  · exact absurd (h3.trans (hz i h1)) h4
  · exact ⟨h1, h2⟩

set_option maxRecDepth 100000 in
set_option maxHeartbeats 3200000 in
theorem pairMaps_any (A : Option Addr) (n c : Nat) (L : Pairs) (w : World) (h : PRaw w A n L) (hc : n ≤ c) :
    Calls Try.prog 6 #[.slice A n c] w fun e w' => e = .returned (.bool true) ∧ Below w.heap.size w w' := by
  have HO := Lib.hid h
  have HF := Lib.hid (small_any A n c L 60 w h (by omega))
  clear h
  go_enter Try.func6, Try.ntmps6
  go_wp2_with fail
  refine HF.out.mono ?_
  rintro e w1 ⟨r, rfl, hr, hb1⟩
  have HB1 := Lib.hid hb1
  clear hb1
  cases r with
  | false =>
    clear hr
    go_wp2_with fail
    refine (awake_any w1).mono ?_
    rintro e w2 ⟨rfl, hb2⟩
    have HB2 : Hid (Below w.heap.size w w2) := HB1.out.trans (hb2.mono HB1.out.size)
    clear hb2
    go_wp2_with fail
    go_ret
    exact ⟨rfl, HB2.out⟩
  | true =>
    have HFI := Lib.hid (hr rfl)
    have hn80 : n ≤ 60 := by have := (hr rfl).1; rw [HO.out.len] at this; exact this
    clear hr
    have HL1 : Hid (LIn (fun _ => True) w1 A n L) := (HO.out.fine HFI.out).below HB1.out
    go_wp2_with fail
    refine (map_any L A n c w1 HL1.out (by omega)).mono ?_
    rintro e w3 ⟨I, er, rfl, hmap⟩
    have HMP : Hid (Mapped L n I er) := hmap.out.1
    have HB3 : Hid (Below w.heap.size w w3) := HB1.out.trans (hmap.out.2.mono HB1.out.size)
    have HL3 : Hid (LIn (fun _ => True) w3 A n L) := HL1.out.below hmap.out.2
    clear hmap
    go_wp2_with fail
    go_loopw [5] (fun v wr => ∃ j : Nat, v = .int .i64 (j : Int) ∧ 1 ≤ j ∧ j ≤ n + 1 ∧ Hid ((∀ i, i < j → mapAt L i = 0) ∧ Below w3.heap.size w3 wr)) (fun v _ => n - (intOf v).toNat)
    case atStart =>
      refine ⟨1, rfl, by omega, by omega, Lib.hid ⟨fun i hi => ?_, Below.refl _ _⟩⟩
      obtain rfl : i = 0 := by omega
      rw [mapAt, if_neg (HFI.out.small 0), if_pos rfl]
    case round =>
      obtain ⟨j, rfl, hj1, hj, hI⟩ := hrel
      by_cases hlt : j < n
      · obtain ⟨b, o, rfl, hbl, hSb, hc2⟩ := (HL3.out.below hI.out.2).cell (by omega)
        obtain ⟨j0, hj0e⟩ : ∃ j0, j0 + 1 = j := ⟨j - 1, by omega⟩
        obtain ⟨kv, xv, c0, c1, hk, hx⟩ := hc2 j hlt
        obtain ⟨kv2, xv2, d0, d1, hk2, hx2⟩ := hc2 j0 (by omega)
        obtain ⟨Ak, nk, ck, rfl⟩ := hk.slice
        obtain ⟨Ak2, nk2, ck2, rfl⟩ := hk2.slice
        have q1 := fun i => conv_bytes (hk.below (below_drewN' i))
        have q2 := fun i => conv_bytes (hk2.below (below_drewN' i))
        have hnk : nk2 ≤ 1000000 := by obtain ⟨_, _, _, e, hh, _⟩ := hk2; cases e; omega
        obtain ⟨sk, hsk⟩ : ∃ sk, strO (L.getD j ([], [])).1 = sk := ⟨_, rfl⟩
        obtain ⟨tk, htk⟩ : ∃ sk, strO (L.getD j0 ([], [])).1 = sk := ⟨_, rfl⟩
        have hsz : sk.size ≤ 1000000 := by rw [← hsk, strO_size, BIn.length_eq hk]; obtain ⟨_, _, _, e, hh, _⟩ := hk; cases e; omega
        have hKS : (L.getD j ([], [])).1 = strL sk := by rw [← hsk, strL_strO]
        have hKT : (L.getD j0 ([], [])).1 = strL tk := by rw [← htk, strL_strO]
        simp only [hsk] at q1
        simp only [htk] at q2
        have HV : Hid (mapAt L j = if strL tk = strL sk then 6 else if cmp (strL tk) (strL sk) = 1 then 5 else 0) := by
          unfold mapAt; rw [if_neg (HFI.out.small j), if_neg (by omega), show j - 1 = j0 by omega, hKS, hKT]; exact rfl
        have HLS := Lib.hid (fun W => less_any sk tk W hsz)
        have HB := Lib.hid (fun i => hI.out.2.trans ((below_drewN' (w := wr) i).mono hI.out.2.size))
        have al : (0 : Int) ≤ (j : Int) := by omega
        have al3 : (j : Int) < (n : Int) := by omega
        have al5 : (0 : Int) ≤ (j0 : Int) := by omega
        have al6 : (j0 : Int) < (n : Int) := by omega
        have wj : IntKind.i64.wrap ((j : Int) - 1) = (j0 : Int) := by rw [wsm _ (by omega)]; omega
        clear hc2 hk hx hk2 hx2 hsk htk hsz hKS hKT hj0e hnk
        by_cases he : tk = sk
        · have HM : Hid (mapAt L j = 6) := by rw [HV.out, if_pos (by rw [he])]; exact rfl
          obtain ⟨h1, h2⟩ := mapped_at HMP.out hlt hI.out.1 HM.out (by decide)
          subst h1 h2 he
          go_wp2_with fail
          go_quiet (fail)
          go_wp2_with fail
          refine (awake_any _).mono ?_
          rintro e w9 ⟨rfl, hb9⟩
          have H9 : Hid (Below w.heap.size w w9) := (HB3.out.trans ((HB.out nq).mono HB3.out.size)).trans (hb9.mono (Nat.le_trans HB3.out.size (HB.out nq).size))
          clear hb9
          go_wp2_with fail
          go_ret
          exact ⟨rfl, H9.out⟩
        · have hne := text_ne he
          have HNE : Hid (¬ strL tk = strL sk) := fun e => he (by rw [← strO_strL tk, e, strO_strL])
          clear he
          go_wp2_with fail
          go_quiet (fail)
          clear wj
          go_wp2_with fail
          refine (HLS.out _).mono ?_
          rintro e w2 ⟨rfl, q, rfl⟩
          have HB5 : Hid (Below w3.heap.size w3 ((wr.drewN nq).drewN q)) := (HB.out nq).trans ((below_drewN' q).mono (HB.out nq).size)
          generalize (wr.drewN nq).drewN q = Y at *
          rcases cmp_cases (strL tk) (strL sk) with hlt' | heq | hgt
          · have HM : Hid (mapAt L j = 0) := by rw [HV.out, if_neg HNE.out, if_neg (by rw [hlt']; decide)]; exact rfl
            have hd : ¬ cmp (strL sk) (strL tk) = -1 := by rw [show cmp (strL sk) (strL tk) = - cmp (strL tk) (strL sk) from cmp_neg _ _, hlt']; decide
            rw [decide_eq_false hd]
            clear hlt' hd
            go_wp2_with fail
            go_roundw
            case rel => exact ⟨j + 1, by go_num, by omega, by omega, Lib.hid ⟨fun i hi => by
              rcases Nat.lt_succ_iff_lt_or_eq.1 hi with h' | rfl
              · exact hI.out.1 i h'
              · exact HM.out, HB5.out⟩⟩
            case measure => simp [intOf]; omega
          · exact absurd heq HNE.out
          · have h5 : cmp (strL tk) (strL sk) = 1 := by rw [show cmp (strL tk) (strL sk) = - cmp (strL sk) (strL tk) from cmp_neg _ _, hgt]; decide
            have HM : Hid (mapAt L j = 5) := by rw [HV.out, if_neg HNE.out, if_pos h5]; exact rfl
            rw [decide_eq_true hgt]
            clear hgt h5
            obtain ⟨h1, h2⟩ := mapped_at HMP.out hlt hI.out.1 HM.out (by decide)
            subst h1 h2
            go_wp2_with fail
            refine (awake_any _).mono ?_
            rintro e w9 ⟨rfl, hb9⟩
            have H9 : Hid (Below w.heap.size w w9) := (HB3.out.trans (HB5.out.mono HB3.out.size)).trans (hb9.mono (Nat.le_trans HB3.out.size HB5.out.size))
            clear hb9
            go_wp2_with fail
            go_ret
            exact ⟨rfl, H9.out⟩
      · obtain ⟨h1, h2⟩ := mapped_end HMP.out (fun i hi => hI.out.1 i (by omega))
        subst h1 h2
        have hlt2 : ¬ (j : Int) < (I : Int) := by omega
        go_wp2_with fail
        refine (awake_any _).mono ?_
        rintro e w9 ⟨rfl, hb9⟩
        have H9 : Hid (Below w.heap.size w w9) := (HB3.out.trans (hI.out.2.mono HB3.out.size)).trans (hb9.mono (Nat.le_trans HB3.out.size hI.out.2.size))
        clear hb9
        go_wp2_with fail
        go_ret
        exact ⟨rfl, H9.out⟩

end Go.Proofs.Ytocideolihbnaaa
