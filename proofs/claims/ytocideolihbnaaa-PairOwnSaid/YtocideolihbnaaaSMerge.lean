/- The merge of a stable sort over a row of pairs; the sort. -/
import Derived.Test.YtocideolihbnaaaSOne
import Derived.Deep.DeepCutAuto
set_option linter.unusedVariables false
set_option linter.unusedSimpArgs false
namespace Go.Proofs.Ytocideolihbnaaa
open Go.RowKit Stab

theorem wsm (x : Int) (h : -10000000 ≤ x ∧ x ≤ 10000000) : IntKind.i64.wrap x = x := i64_small (by omega)

set_option maxRecDepth 100000 in
set_option maxHeartbeats 3200000 in
theorem symMerge_any (g n c : Nat) (vals : Vals) (key : Nat → Bytes) (w : World) (he : Env g n c vals key w) : ∀ (N : Nat) (f : Nat → Nat) (a m b : Nat) (W : World), b - a < N → On g n vals f w W → Pre (lt key) a m b f → a < m → m < b → b ≤ n →
    Calls Try.prog 37 #[.slice (some ⟨g, 0, none⟩) n c, .int .i64 (a : Int), .int .i64 (m : Int), .int .i64 (b : Int), fnC] W fun e W' => e = .returned (.tuple #[]) ∧ ∃ f', On g n vals f' w W' ∧ Post (lt key) a b f f' := by
  intro N
  induction N with
  | zero => intro f a m b W h; omega
  | succ N ih =>
    intro f a m b W hN h hp ham hmb hb
    by_cases h1 : m = a + 1
    · exact symLeft_any g n c vals key f a m b w W he h hp ham hmb hb h1
    by_cases h2 : b = m + 1
    · exact symRight_any g n c vals key f a m b w W he h hp ham hmb hb h1 h2
    have HE := Lib.hid he
    have H0 := Lib.hid h
    have HP := Lib.hid hp
    have IH := Lib.hid ih
    have hn := he.hn
    have hc := he.hc
    obtain ⟨mid, hmid⟩ : ∃ mid, (a + b) / 2 = mid := ⟨_, rfl⟩
    have HM : Hid (mid = (a + b) / 2) := hmid.symm
    obtain ⟨b1, b2, b3, b4, b5, b6⟩ := cut3_bounds ham hmb hmid.symm
    have HB := Lib.hid (And.intro b1 (And.intro b2 (And.intro b3 (And.intro b4 (And.intro b5 b6)))))
    have HLH : Hid ((mid < m → lo0 a m b mid = mid + m - b ∧ hi0 m mid = mid) ∧ (¬ mid < m → lo0 a m b mid = a ∧ hi0 m mid = m)) := ⟨fun h => ⟨if_pos h, if_pos h⟩, fun h => ⟨if_neg h, if_neg h⟩⟩
    have HC0 : Hid (Cut3 (less key) f a m b mid (lo0 a m b mid) (hi0 m mid)) := Cut3.start ham hmb hmid.symm
    have hmidz : ((a : Int) + (b : Int)) / 2 = (mid : Int) := by omega
    have hmb2 : a ≤ mid ∧ mid < b := by omega
    obtain ⟨nn, hnn⟩ : ∃ nn, mid + m = nn := ⟨_, rfl⟩
    obtain ⟨pp, hpp⟩ : ∃ pp, nn - 1 = pp := ⟨_, rfl⟩
    have HNP : Hid (mid + m = nn ∧ nn - 1 = pp ∧ mid + m - 1 = pp ∧ nn ≤ 200000 ∧ 0 < nn) := ⟨hnn, hpp, by omega, by omega, by omega⟩
    have hnnz : (mid : Int) + (m : Int) = (nn : Int) := by omega
    have hppz : (nn : Int) - 1 = (pp : Int) := by omega
    have h1' : ¬ (m : Int) - (a : Int) = 1 := by omega
    have h2' : ¬ (b : Int) - (m : Int) = 1 := by omega
    have HNN := Lib.hid hN
    clear he h hp ih b1 b2 b3 b4 b5 b6 hmid hN hnn hpp
    generalize lo0 a m b mid = s0 at *
    generalize hi0 m mid = r0 at *
    unfold fnC
    go_enter Try.func37, Try.ntmps37
    go_upto_region 24 with fail
    generalize ((m : Int) - (a : Int) == 1) = bm at *
    obtain rfl : bm = false := by assumption
    generalize ((b : Int) - (m : Int) == 1) = bn at *
    obtain rfl : bn = false := by assumption
    clear h1 h2 h1' h2'
    go_upto_if 140 with fail
    go_cut [20, 21] (fun u v wx => u = .int .i64 (s0 : Int) ∧ v = .int .i64 (r0 : Int) ∧ wx = W)
    case first =>
      by_cases hgt : mid < m
      · have hgt' : (mid : Int) < (m : Int) := by omega
        obtain ⟨e1, e2⟩ := HLH.out.1 hgt
        go_wp2_with fail
        go_meet
        exact ⟨by rw [e1]; congr 1; have := HM.out; have := HNP.out; omega, by rw [e2], rfl⟩
      · have hgt' : ¬ (mid : Int) < (m : Int) := by omega
        obtain ⟨e1, e2⟩ := HLH.out.2 hgt
        go_wp2_with fail
        go_meet
        exact ⟨by rw [e1], by rw [e2], rfl⟩
    case rest =>
      obtain ⟨rfl, rfl, rfl⟩ := hcut
      go_wp2_with fail
      clear hppz hnnz
      go_loopw [20, 21] (fun u v wr => ∃ (s r : Nat), u = .int .i64 (s : Int) ∧ v = .int .i64 (r : Int) ∧ s0 ≤ s ∧ r ≤ r0 ∧ Hid (On g n vals f w wr ∧ Cut3 (less key) f a m b mid s r)) (fun u v _ => (intOf v).toNat - (intOf u).toNat)
      case atStart => exact ⟨s0, r0, rfl, rfl, Nat.le_refl _, Nat.le_refl _, Lib.hid ⟨H0.out, HC0.out⟩⟩
      case round =>
        obtain ⟨i, j, rfl, rfl, him, hjb, hI⟩ := hrel
        by_cases hlt : i < j
        · have hlt' : (i : Int) < (j : Int) := by omega
          obtain ⟨h, hh⟩ : ∃ h, (i + j) / 2 = h := ⟨_, rfl⟩
          have hhi : ((i : Int) + (j : Int)) / 2 = (h : Int) := by omega
          have hh1 : i ≤ h := by omega
          have hh2 : h < j := by omega
          clear hh
          have HO1 : Hid (On g n vals f w wr) := hI.out.1
          have b5h := HB.out.2.2.2.2.1 h (by omega) (by omega)
          have b3h := HB.out.2.2.1
          have b4h := HB.out.2.2.2.1
          have hij2 : i + j ≤ 200000 := by omega
          have hnp := HNP.out
          obtain ⟨pc, hpc⟩ : ∃ pc, mid + m - 1 - h = pc := ⟨_, rfl⟩
          have HPC := Lib.hid hpc
          have wpc : IntKind.i64.wrap ((pp : Int) - (h : Int)) = (pc : Int) := by rw [wsm _ (by omega)]; omega
          have whi : IntKind.i64.wrap ((i : Int) + (j : Int)) = (i : Int) + (j : Int) := wsm _ (by omega)
          have l1 : (pc : Int) < (n : Int) := by omega
          have l2 : (h : Int) < (n : Int) := by omega
          have l3 : (0 : Int) ≤ (pc : Int) := by omega
          have l4 : (0 : Int) ≤ (h : Int) := by omega
          rw [hpc] at b5h
          clear hpc hnp
          have HC0 := fun p : BelowBy wr => HE.out.cmp (HO1.out.below p.below) (f pc) (f h)
          have q0 := fun p : BelowBy wr => ((HO1.out.below p.below).row.cells (show pc < n by omega)).1
          have q1 := fun p : BelowBy wr => ((HO1.out.below p.below).row.cells (show pc < n by omega)).2
          have q2 := fun p : BelowBy wr => ((HO1.out.below p.below).row.cells (show h < n by omega)).1
          have q3 := fun p : BelowBy wr => ((HO1.out.below p.below).row.cells (show h < n by omega)).2
          obtain ⟨A1, n1, c1, e1⟩ := (HE.out.hv (f pc)).1
          obtain ⟨A2, n2, c2, e2⟩ := (HE.out.hv (f pc)).2
          obtain ⟨A3, n3, c3, e3⟩ := (HE.out.hv (f h)).1
          obtain ⟨A4, n4, c4, e4⟩ := (HE.out.hv (f h)).2
          simp only [e1, e2, e3, e4] at HC0 q0 q1 q2 q3
          obtain ⟨cv, hcv⟩ : ∃ cv, cmp (key (f pc)) (key (f h)) = cv := ⟨_, rfl⟩
          rw [hcv] at HC0
          have HC := Lib.hid HC0
          have HCV := Lib.hid hcv
          clear e1 e2 e3 e4 HC0 hcv
          have HL : Hid (less key (f pc) (f h) = decide (cv < 0)) := less_neg HCV.out
          clear b3h b4h b5h
          by_cases hz : cv < 0
          · go_upto_region 35 with fail
            refine wp_region_quiet_below (by kernel_rfl) (by kernel_rfl) ?_
            repeat (quiet_step (first | (go_at_call 25; with_reducible refine Calls.below_of (HC.out _))))
            refine wpQuiet_nil ?_
            intro _ hw'
            obtain ⟨pb, rfl⟩ := hw'
            clear q0 q1 q2 q3
            have HO2 : Hid (On g n vals f w pb.W) := HO1.out.below pb.below
            have HCT := Lib.hid (hI.out.2.dn (ord key) (irr key) HP.out ham hmb HM.out hh1 hh2 (by rw [HPC.out, HL.out]; exact decide_eq_true hz))
            go_wp2_with fail
            go_roundw
            case rel => exact ⟨i, h, by go_num, by go_num, by omega, by omega, Lib.hid ⟨HO2.out, HCT.out⟩⟩
            case measure => simp [intOf]; omega
          · go_upto_region 35 with fail
            refine wp_region_quiet_below (by kernel_rfl) (by kernel_rfl) ?_
            repeat (quiet_step (first | (go_at_call 25; with_reducible refine Calls.below_of (HC.out _))))
            refine wpQuiet_nil ?_
            intro _ hw'
            obtain ⟨pb, rfl⟩ := hw'
            clear q0 q1 q2 q3
            have HO2 : Hid (On g n vals f w pb.W) := HO1.out.below pb.below
            have HCT := Lib.hid (hI.out.2.up (ord key) (irr key) HP.out ham hmb HM.out hh1 hh2 (by rw [HPC.out, HL.out]; exact decide_eq_false hz))
            go_wp2_with fail
            go_roundw
            case rel => exact ⟨h + 1, j, by go_num, by go_num, by omega, by omega, Lib.hid ⟨HO2.out, HCT.out⟩⟩
            case measure => simp [intOf]; omega
        · have hij : i = j := by have := hI.out.2.le; omega
          subst hij
          obtain ⟨e, hee⟩ : ∃ e, mid + m - i = e := ⟨_, rfl⟩
          obtain ⟨hsm, hme, hH⟩ := hI.out.2.done (ord key) HP.out ham hmb HM.out hee.symm
          have HON := Lib.hid hI.out.1
          have HH := Lib.hid hH
          have b2i := HB.out.2.1
          have b6i := HB.out.2.2.2.2.2
          have b4i := HB.out.2.2.2.1
          have hnp := HNP.out
          have hez : (nn : Int) - (i : Int) = (e : Int) := by omega
          have hba : a ≤ i ∧ i ≤ mid ∧ mid ≤ e ∧ e ≤ b := by omega
          clear hI hH b2i b6i b4i hnp
          have hee2 : mid + m - i = e := hee
          by_cases hM : i < m
          · by_cases hD : i < mid
            · by_cases hA : a < i
              · by_cases hE : e < b
                · as_aux_lemma =>
                    have m1 : (i : Int) < (m : Int) := by omega
                    have m2 : (mid : Int) < (e : Int) := by omega
                    have d1 : (m : Int) < (e : Int) := by omega
                    have d2 : (i : Int) < (mid : Int) := by omega
                    have a1 : (a : Int) < (i : Int) := by omega
                    have e1 : (e : Int) < (b : Int) := by omega
                    have HR := Lib.hid (rotate_any g n c vals key fnC f i m e w wr HE.out HON.out (by omega) (by omega) (by omega))
                    unfold fnC at HR
                    clear hee
                    go_wp2_with fail
                    refine HR.out.mono ?_
                    rintro x w1 ⟨rfl, hO⟩
                    have HO := Lib.hid hO
                    clear hO
                    have HR2 := Lib.hid (IH.out (rot f i m e) a i mid w1 (by have := HNN.out; omega) HO.out HH.out.fst (by omega) (by omega) (by omega))
                    unfold fnC at HR2
                    go_wp2_with fail
                    refine HR2.out.mono ?_
                    rintro x w2 ⟨rfl, f1, hO1, hP1⟩
                    have HO1 := Lib.hid (And.intro hO1 hP1)
                    clear hO1 hP1
                    have HPR : Hid (Pre (lt key) mid e b f1) := HH.out.right HO1.out.2.1
                    have HR3 := Lib.hid (IH.out f1 mid e b w2 (by have := HNN.out; omega) HO1.out.1 HPR.out (by omega) (by omega) hb)
                    unfold fnC at HR3
                    go_wp2_with fail
                    refine HR3.out.mono ?_
                    rintro x w3 ⟨rfl, f2, hO2, hP2⟩
                    have HO2 : Hid (On g n vals f2 w w3 ∧ Post (lt key) a b f f2) := ⟨hO2, HH.out.done HO1.out.2 hP2⟩
                    clear hO2 hP2
                    go_wp2_with fail
                    exact bodyPost_end (results_none rfl _ _ _) rfl ⟨rfl, f2, HO2.out⟩
                · as_aux_lemma =>
                    have m1 : (i : Int) < (m : Int) := by omega
                    have m2 : (mid : Int) < (e : Int) := by omega
                    have d1 : (m : Int) < (e : Int) := by omega
                    have d2 : (i : Int) < (mid : Int) := by omega
                    have a1 : (a : Int) < (i : Int) := by omega
                    have e1 : ¬ (e : Int) < (b : Int) := by omega
                    have HR := Lib.hid (rotate_any g n c vals key fnC f i m e w wr HE.out HON.out (by omega) (by omega) (by omega))
                    unfold fnC at HR
                    clear hee
                    go_wp2_with fail
                    refine HR.out.mono ?_
                    rintro x w1 ⟨rfl, hO⟩
                    have HO := Lib.hid hO
                    clear hO
                    have HR2 := Lib.hid (IH.out (rot f i m e) a i mid w1 (by have := HNN.out; omega) HO.out HH.out.fst (by omega) (by omega) (by omega))
                    unfold fnC at HR2
                    go_wp2_with fail
                    refine HR2.out.mono ?_
                    rintro x w2 ⟨rfl, f1, hO1, hP1⟩
                    have HO1 := Lib.hid (And.intro hO1 hP1)
                    clear hO1 hP1
                    have HPR : Hid (Pre (lt key) mid e b f1) := HH.out.right HO1.out.2.1
                    have HO2 : Hid (Post (lt key) a b f f1) := HH.out.done HO1.out.2 (HPR.out.one (by omega))
                    go_wp2_with fail
                    exact bodyPost_end (results_none rfl _ _ _) rfl ⟨rfl, f1, HO1.out.1, HO2.out⟩
              · by_cases hE : e < b
                · as_aux_lemma =>
                    have m1 : (i : Int) < (m : Int) := by omega
                    have m2 : (mid : Int) < (e : Int) := by omega
                    have d1 : (m : Int) < (e : Int) := by omega
                    have d2 : (i : Int) < (mid : Int) := by omega
                    have a1 : ¬ (a : Int) < (i : Int) := by omega
                    have e1 : (e : Int) < (b : Int) := by omega
                    have HR := Lib.hid (rotate_any g n c vals key fnC f i m e w wr HE.out HON.out (by omega) (by omega) (by omega))
                    unfold fnC at HR
                    clear hee
                    go_wp2_with fail
                    refine HR.out.mono ?_
                    rintro x w1 ⟨rfl, hO⟩
                    have HO := Lib.hid hO
                    clear hO
                    have HO1 := Lib.hid (And.intro HO.out (HH.out.fst.one (by omega)))
                    have HPR : Hid (Pre (lt key) mid e b (rot f i m e)) := HH.out.right HO1.out.2.1
                    have HR3 := Lib.hid (IH.out (rot f i m e) mid e b w1 (by have := HNN.out; omega) HO1.out.1 HPR.out (by omega) (by omega) hb)
                    unfold fnC at HR3
                    go_wp2_with fail
                    refine HR3.out.mono ?_
                    rintro x w3 ⟨rfl, f2, hO2, hP2⟩
                    have HO2 : Hid (On g n vals f2 w w3 ∧ Post (lt key) a b f f2) := ⟨hO2, HH.out.done HO1.out.2 hP2⟩
                    clear hO2 hP2
                    go_wp2_with fail
                    exact bodyPost_end (results_none rfl _ _ _) rfl ⟨rfl, f2, HO2.out⟩
                · as_aux_lemma =>
                    have m1 : (i : Int) < (m : Int) := by omega
                    have m2 : (mid : Int) < (e : Int) := by omega
                    have d1 : (m : Int) < (e : Int) := by omega
                    have d2 : (i : Int) < (mid : Int) := by omega
                    have a1 : ¬ (a : Int) < (i : Int) := by omega
                    have e1 : ¬ (e : Int) < (b : Int) := by omega
                    have HR := Lib.hid (rotate_any g n c vals key fnC f i m e w wr HE.out HON.out (by omega) (by omega) (by omega))
                    unfold fnC at HR
                    clear hee
                    go_wp2_with fail
                    refine HR.out.mono ?_
                    rintro x w1 ⟨rfl, hO⟩
                    have HO := Lib.hid hO
                    clear hO
                    have HO1 := Lib.hid (And.intro HO.out (HH.out.fst.one (by omega)))
                    have HPR : Hid (Pre (lt key) mid e b (rot f i m e)) := HH.out.right HO1.out.2.1
                    have HO2 : Hid (Post (lt key) a b f (rot f i m e)) := HH.out.done HO1.out.2 (HPR.out.one (by omega))
                    go_wp2_with fail
                    exact bodyPost_end (results_none rfl _ _ _) rfl ⟨rfl, (rot f i m e), HO1.out.1, HO2.out⟩
            · by_cases hA : a < i
              · by_cases hE : e < b
                · as_aux_lemma =>
                    have m1 : (i : Int) < (m : Int) := by omega
                    have m2 : (mid : Int) < (e : Int) := by omega
                    have d1 : ¬ (m : Int) < (e : Int) := by omega
                    have d2 : ¬ (i : Int) < (mid : Int) := by omega
                    have a1 : (a : Int) < (i : Int) := by omega
                    have e1 : (e : Int) < (b : Int) := by omega
                    have HO : Hid (On g n vals (rot f i m e) w wr) := by rw [rot_id (by omega) hsm hme]; exact HON
                    clear hee
                    have HO1 := Lib.hid (And.intro HO.out (HH.out.fst.one (by omega)))
                    have HPR : Hid (Pre (lt key) mid e b (rot f i m e)) := HH.out.right HO1.out.2.1
                    have HR3 := Lib.hid (IH.out (rot f i m e) mid e b wr (by have := HNN.out; omega) HO1.out.1 HPR.out (by omega) (by omega) hb)
                    unfold fnC at HR3
                    go_wp2_with fail
                    refine HR3.out.mono ?_
                    rintro x w3 ⟨rfl, f2, hO2, hP2⟩
                    have HO2 : Hid (On g n vals f2 w w3 ∧ Post (lt key) a b f f2) := ⟨hO2, HH.out.done HO1.out.2 hP2⟩
                    clear hO2 hP2
                    go_wp2_with fail
                    exact bodyPost_end (results_none rfl _ _ _) rfl ⟨rfl, f2, HO2.out⟩
                · as_aux_lemma =>
                    have m1 : (i : Int) < (m : Int) := by omega
                    have m2 : (mid : Int) < (e : Int) := by omega
                    have d1 : ¬ (m : Int) < (e : Int) := by omega
                    have d2 : ¬ (i : Int) < (mid : Int) := by omega
                    have a1 : (a : Int) < (i : Int) := by omega
                    have e1 : ¬ (e : Int) < (b : Int) := by omega
                    have HO : Hid (On g n vals (rot f i m e) w wr) := by rw [rot_id (by omega) hsm hme]; exact HON
                    clear hee
                    have HO1 := Lib.hid (And.intro HO.out (HH.out.fst.one (by omega)))
                    have HPR : Hid (Pre (lt key) mid e b (rot f i m e)) := HH.out.right HO1.out.2.1
                    have HO2 : Hid (Post (lt key) a b f (rot f i m e)) := HH.out.done HO1.out.2 (HPR.out.one (by omega))
                    go_wp2_with fail
                    exact bodyPost_end (results_none rfl _ _ _) rfl ⟨rfl, (rot f i m e), HO1.out.1, HO2.out⟩
              · by_cases hE : e < b
                · as_aux_lemma =>
                    have m1 : (i : Int) < (m : Int) := by omega
                    have m2 : (mid : Int) < (e : Int) := by omega
                    have d1 : ¬ (m : Int) < (e : Int) := by omega
                    have d2 : ¬ (i : Int) < (mid : Int) := by omega
                    have a1 : ¬ (a : Int) < (i : Int) := by omega
                    have e1 : (e : Int) < (b : Int) := by omega
                    have HO : Hid (On g n vals (rot f i m e) w wr) := by rw [rot_id (by omega) hsm hme]; exact HON
                    clear hee
                    have HO1 := Lib.hid (And.intro HO.out (HH.out.fst.one (by omega)))
                    have HPR : Hid (Pre (lt key) mid e b (rot f i m e)) := HH.out.right HO1.out.2.1
                    have HR3 := Lib.hid (IH.out (rot f i m e) mid e b wr (by have := HNN.out; omega) HO1.out.1 HPR.out (by omega) (by omega) hb)
                    unfold fnC at HR3
                    go_wp2_with fail
                    refine HR3.out.mono ?_
                    rintro x w3 ⟨rfl, f2, hO2, hP2⟩
                    have HO2 : Hid (On g n vals f2 w w3 ∧ Post (lt key) a b f f2) := ⟨hO2, HH.out.done HO1.out.2 hP2⟩
                    clear hO2 hP2
                    go_wp2_with fail
                    exact bodyPost_end (results_none rfl _ _ _) rfl ⟨rfl, f2, HO2.out⟩
                · as_aux_lemma =>
                    have m1 : (i : Int) < (m : Int) := by omega
                    have m2 : (mid : Int) < (e : Int) := by omega
                    have d1 : ¬ (m : Int) < (e : Int) := by omega
                    have d2 : ¬ (i : Int) < (mid : Int) := by omega
                    have a1 : ¬ (a : Int) < (i : Int) := by omega
                    have e1 : ¬ (e : Int) < (b : Int) := by omega
                    have HO : Hid (On g n vals (rot f i m e) w wr) := by rw [rot_id (by omega) hsm hme]; exact HON
                    clear hee
                    have HO1 := Lib.hid (And.intro HO.out (HH.out.fst.one (by omega)))
                    have HPR : Hid (Pre (lt key) mid e b (rot f i m e)) := HH.out.right HO1.out.2.1
                    have HO2 : Hid (Post (lt key) a b f (rot f i m e)) := HH.out.done HO1.out.2 (HPR.out.one (by omega))
                    go_wp2_with fail
                    exact bodyPost_end (results_none rfl _ _ _) rfl ⟨rfl, (rot f i m e), HO1.out.1, HO2.out⟩
          · by_cases hD : i < mid
            · by_cases hA : a < i
              · as_aux_lemma =>
                  have m1 : ¬ (i : Int) < (m : Int) := by omega
                  have m2 : ¬ (mid : Int) < (e : Int) := by omega
                  have d1 : (m : Int) < (e : Int) := by omega
                  have d2 : (i : Int) < (mid : Int) := by omega
                  have a1 : (a : Int) < (i : Int) := by omega
                  have HO : Hid (On g n vals (rot f i m e) w wr) := by rw [rot_id (by omega) hsm hme]; exact HON
                  clear hee
                  have HR2 := Lib.hid (IH.out (rot f i m e) a i mid wr (by have := HNN.out; omega) HO.out HH.out.fst (by omega) (by omega) (by omega))
                  unfold fnC at HR2
                  go_wp2_with fail
                  refine HR2.out.mono ?_
                  rintro x w2 ⟨rfl, f1, hO1, hP1⟩
                  have HO1 := Lib.hid (And.intro hO1 hP1)
                  clear hO1 hP1
                  have HPR : Hid (Pre (lt key) mid e b f1) := HH.out.right HO1.out.2.1
                  have HO2 : Hid (Post (lt key) a b f f1) := HH.out.done HO1.out.2 (HPR.out.one (by omega))
                  go_wp2_with fail
                  exact bodyPost_end (results_none rfl _ _ _) rfl ⟨rfl, f1, HO1.out.1, HO2.out⟩
              · as_aux_lemma =>
                  have m1 : ¬ (i : Int) < (m : Int) := by omega
                  have m2 : ¬ (mid : Int) < (e : Int) := by omega
                  have d1 : (m : Int) < (e : Int) := by omega
                  have d2 : (i : Int) < (mid : Int) := by omega
                  have a1 : ¬ (a : Int) < (i : Int) := by omega
                  have HO : Hid (On g n vals (rot f i m e) w wr) := by rw [rot_id (by omega) hsm hme]; exact HON
                  clear hee
                  have HO1 := Lib.hid (And.intro HO.out (HH.out.fst.one (by omega)))
                  have HPR : Hid (Pre (lt key) mid e b (rot f i m e)) := HH.out.right HO1.out.2.1
                  have HO2 : Hid (Post (lt key) a b f (rot f i m e)) := HH.out.done HO1.out.2 (HPR.out.one (by omega))
                  go_wp2_with fail
                  exact bodyPost_end (results_none rfl _ _ _) rfl ⟨rfl, (rot f i m e), HO1.out.1, HO2.out⟩
            · by_cases hA : a < i
              · as_aux_lemma =>
                  have m1 : ¬ (i : Int) < (m : Int) := by omega
                  have m2 : ¬ (mid : Int) < (e : Int) := by omega
                  have d1 : ¬ (m : Int) < (e : Int) := by omega
                  have d2 : ¬ (i : Int) < (mid : Int) := by omega
                  have a1 : (a : Int) < (i : Int) := by omega
                  have HO : Hid (On g n vals (rot f i m e) w wr) := by rw [rot_id (by omega) hsm hme]; exact HON
                  clear hee
                  have HO1 := Lib.hid (And.intro HO.out (HH.out.fst.one (by omega)))
                  have HPR : Hid (Pre (lt key) mid e b (rot f i m e)) := HH.out.right HO1.out.2.1
                  have HO2 : Hid (Post (lt key) a b f (rot f i m e)) := HH.out.done HO1.out.2 (HPR.out.one (by omega))
                  go_wp2_with fail
                  exact bodyPost_end (results_none rfl _ _ _) rfl ⟨rfl, (rot f i m e), HO1.out.1, HO2.out⟩
              · as_aux_lemma =>
                  have m1 : ¬ (i : Int) < (m : Int) := by omega
                  have m2 : ¬ (mid : Int) < (e : Int) := by omega
                  have d1 : ¬ (m : Int) < (e : Int) := by omega
                  have d2 : ¬ (i : Int) < (mid : Int) := by omega
                  have a1 : ¬ (a : Int) < (i : Int) := by omega
                  have HO : Hid (On g n vals (rot f i m e) w wr) := by rw [rot_id (by omega) hsm hme]; exact HON
                  clear hee
                  have HO1 := Lib.hid (And.intro HO.out (HH.out.fst.one (by omega)))
                  have HPR : Hid (Pre (lt key) mid e b (rot f i m e)) := HH.out.right HO1.out.2.1
                  have HO2 : Hid (Post (lt key) a b f (rot f i m e)) := HH.out.done HO1.out.2 (HPR.out.one (by omega))
                  go_wp2_with fail
                  exact bodyPost_end (results_none rfl _ _ _) rfl ⟨rfl, (rot f i m e), HO1.out.1, HO2.out⟩

end Go.Proofs.Ytocideolihbnaaa
