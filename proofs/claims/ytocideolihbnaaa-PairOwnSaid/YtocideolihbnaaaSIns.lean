/- Insertion sort over a row of pairs. -/
import Derived.Test.YtocideolihbnaaaSRow
set_option linter.unusedVariables false
set_option linter.unusedSimpArgs false
namespace Go.Proofs.Ytocideolihbnaaa
open Go.RowKit Stab

set_option maxRecDepth 100000 in
set_option maxHeartbeats 3200000 in
theorem insertion_any (g n c : Nat) (vals : Vals) (key : Nat → Bytes) (f : Nat → Nat) (a b : Nat) (w W : World) (he : Env g n c vals key w) (h : On g n vals f w W) (hab : a ≤ b) (hb : b ≤ n) (hinc : ∀ p q, a ≤ p → p < q → q < b → f p < f q) :
    Calls Try.prog 36 #[.slice (some ⟨g, 0, none⟩) n c, .int .i64 (a : Int), .int .i64 (b : Int), fnC] W fun e W' => e = .returned (.tuple #[]) ∧ ∃ f', On g n vals f' w W' ∧ Post (lt key) a b f f' := by
  have HE := Lib.hid he
  have H0 := Lib.hid h
  have HI := Lib.hid hinc
  have hn := he.hn
  have hc := he.hc
  clear he h hinc
  unfold fnC
  go_enter Try.func36, Try.ntmps36
  go_wp2_with fail
  go_loopw [8] (fun v wr => ∃ (i : Nat) (fk : Nat → Nat), v = .int .i64 (i : Int) ∧ a < i ∧ i ≤ b + 1 ∧ Hid (On g n vals fk w wr ∧ Mix a (min i b) f fk ∧ Asc' (lt key) a (min i b) fk)) (fun v _ => b - (intOf v).toNat)
  case atStart => exact ⟨a + 1, f, by go_num, by omega, by omega, Lib.hid ⟨H0.out, Mix.refl _ _ _, fun p q h1 h2 h3 => by omega⟩⟩
  case round =>
    obtain ⟨i, fk, rfl, hai, hib, hI⟩ := hrel
    by_cases hlt : i < b
    · have hlt' : (i : Int) < (b : Int) := by omega
      have HS : Hid (Ins (lt key) a i i f fk) := by
        have h1 := hI.out.2.1
        have h2 := hI.out.2.2
        rw [Nat.min_eq_left (by omega)] at h1 h2
        exact Ins.start h1 h2 (by omega)
      have HON := Lib.hid hI.out.1
      clear hI
      go_wp2_with fail
      go_loopw [9] (fun v wr2 => ∃ (j : Nat) (fj : Nat → Nat), v = .int .i64 (j : Int) ∧ a ≤ j ∧ j ≤ i ∧ Hid (On g n vals fj w wr2 ∧ Ins (lt key) a i j f fj)) (fun v _ => (intOf v).toNat)
      case atStart => exact ⟨i, fk, rfl, by omega, Nat.le_refl _, Lib.hid ⟨HON.out, HS.out⟩⟩
      case round =>
        obtain ⟨j, fj, rfl, haj, hji, hJ⟩ := hrel
        by_cases hja : a < j
        · have hja' : (a : Int) < (j : Int) := by omega
          obtain ⟨jm, hjm⟩ : ∃ jm, j - 1 = jm := ⟨_, rfl⟩
          have HO1 : Hid (On g n vals fj w _) := hJ.out.1
          have wj : IntKind.i64.wrap ((j : Int) - 1) = (jm : Int) := by rw [i64_small (by omega)]; omega
          have l1 : (j : Int) < (n : Int) := by omega
          have l2 : (jm : Int) < (n : Int) := by omega
          have l3 : (0 : Int) ≤ (j : Int) := by omega
          have l4 : (0 : Int) ≤ (jm : Int) := by omega
          have HJM := Lib.hid hjm
          have hne : ¬ j = jm := by omega
          have hne2 : ¬ jm = j := by omega
          have HC0 := fun p : BelowBy _ => HE.out.cmp (HO1.out.below p.below) (fj j) (fj jm)
          have q0 := fun p : BelowBy _ => ((HO1.out.below p.below).row.cells (show j < n by omega)).1
          have q1 := fun p : BelowBy _ => ((HO1.out.below p.below).row.cells (show j < n by omega)).2
          have q2 := fun p : BelowBy _ => ((HO1.out.below p.below).row.cells (show jm < n by omega)).1
          have q3 := fun p : BelowBy _ => ((HO1.out.below p.below).row.cells (show jm < n by omega)).2
          obtain ⟨A1, n1, c1, e1⟩ := (HE.out.hv (fj j)).1
          obtain ⟨A2, n2, c2, e2⟩ := (HE.out.hv (fj j)).2
          obtain ⟨A3, n3, c3, e3⟩ := (HE.out.hv (fj jm)).1
          obtain ⟨A4, n4, c4, e4⟩ := (HE.out.hv (fj jm)).2
          simp only [e1, e2, e3, e4] at HC0 q0 q1 q2 q3
          obtain ⟨cv, hcv⟩ : ∃ cv, cmp (key (fj j)) (key (fj jm)) = cv := ⟨_, rfl⟩
          rw [hcv] at HC0
          have HC := Lib.hid HC0
          have HCV := Lib.hid hcv
          clear e1 e2 e3 e4 HC0 hcv
          have HL : Hid (less key (fj j) (fj (j - 1)) = decide (cv < 0)) := by rw [HJM.out]; exact less_neg HCV.out
          clear hjm
          by_cases hz : cv < 0
          · go_upto_region 4 with fail
            refine wp_region_quiet_below (by kernel_rfl) (by kernel_rfl) ?_
            repeat (quiet_step (first | (go_at_call 25; with_reducible refine Calls.below_of (HC.out _))))
            refine wpQuiet_nil ?_
            intro _ hw'
            obtain ⟨pb, rfl⟩ := hw'
            clear q0 q1 q2 q3
            have HO2 : Hid (On g n vals fj w pb.W) := HO1.out.below pb.below
            have HST : Hid (Ins (lt key) a i (j - 1) f (swp fj j (j - 1))) := hJ.out.2.step (ord key) hja (by rw [HL.out]; exact decide_eq_true hz)
            generalize pb.W = V at *
            clear HC HCV HL
            obtain ⟨p0, p1⟩ := HO2.out.row.cells (show j < n by omega)
            obtain ⟨q0, q1⟩ := HO2.out.row.cells (show jm < n by omega)
            have f0 := HO2.out.row.free (show j * 2 < n * 2 by omega)
            have f1 := HO2.out.row.free (show j * 2 + 1 < n * 2 by omega)
            have f2 := HO2.out.row.free (show jm * 2 < n * 2 by omega)
            have f3 := HO2.out.row.free (show jm * 2 + 1 < n * 2 by omega)
            have HN := Lib.hid ((HO2.out.swp (show j < n by omega) (show jm < n by omega)).below (below_drew2 (Below.refl _ _)))
            obtain ⟨A1, n1, c1, e1⟩ := (HE.out.hv (fj j)).1
            obtain ⟨A2, n2, c2, e2⟩ := (HE.out.hv (fj j)).2
            obtain ⟨A3, n3, c3, e3⟩ := (HE.out.hv (fj jm)).1
            obtain ⟨A4, n4, c4, e4⟩ := (HE.out.hv (fj jm)).2
            rw [e1] at p0 HN
            rw [e2] at p1 HN
            rw [e3] at q0 HN
            rw [e4] at q1 HN
            clear e1 e2 e3 e4
            go_upto_region 6 with fail
            go_region
            go_wp2_with fail
            go_roundw
            case rel => have := HJM.out; exact ⟨jm, _, by go_num, by omega, by omega, Lib.hid ⟨HN.out, by rw [← HJM.out]; exact HST.out⟩⟩
            case measure => have := HJM.out; simp [intOf]; omega
          · go_upto_region 4 with fail
            refine wp_region_quiet_below (by kernel_rfl) (by kernel_rfl) ?_
            repeat (quiet_step (first | (go_at_call 25; with_reducible refine Calls.below_of (HC.out _))))
            refine wpQuiet_nil ?_
            intro _ hw'
            obtain ⟨pb, rfl⟩ := hw'
            clear q0 q1 q2 q3
            have HO2 : Hid (On g n vals fj w pb.W) := HO1.out.below pb.below
            have HST : Hid (Mix a (i + 1) f fj ∧ Asc' (lt key) a (i + 1) fj) := hJ.out.2.done (ord key) HI.out hlt (fun _ => by rw [HL.out]; exact decide_eq_false hz)
            go_wp2_with fail
            go_roundw
            case rel => exact ⟨i + 1, fj, by go_num, by omega, by omega, Lib.hid ⟨HO2.out, by rw [Nat.min_eq_left (by omega)]; exact HST.out⟩⟩
            case measure => simp [intOf]; omega
        · obtain rfl : j = a := by omega
          have hja' : ¬ (j : Int) < (j : Int) := by omega
          have HST : Hid (Mix j (i + 1) f fj ∧ Asc' (lt key) j (i + 1) fj) := hJ.out.2.done (ord key) HI.out hlt (fun h => absurd h hja)
          go_upto_region 4 with fail
          go_quiet (fail)
          have HO2 : Hid (On g n vals fj w (wr.drewN nq)) := hJ.out.1.below (below_drewN' nq)
          go_wp2_with fail
          go_roundw
          case rel => exact ⟨i + 1, fj, by go_num, by omega, by omega, Lib.hid ⟨HO2.out, by rw [Nat.min_eq_left (by omega)]; exact HST.out⟩⟩
          case measure => simp [intOf]; omega
    · have HST : Hid (Post (lt key) a b f fk) := by
        have h1 := hI.out.2.1
        have h2 := hI.out.2.2
        rw [Nat.min_eq_right (by omega)] at h1 h2
        exact ⟨h1, h2⟩
      go_wp2_with fail
      exact bodyPost_end (results_none rfl _ _ _) rfl ⟨rfl, fk, hI.out.1, HST.out⟩

end Go.Proofs.Ytocideolihbnaaa
