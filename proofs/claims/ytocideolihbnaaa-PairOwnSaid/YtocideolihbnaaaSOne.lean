/- The merge of a stable sort over a row of pairs: where one side is a single pair. -/
import Derived.Test.YtocideolihbnaaaSIns
set_option linter.unusedVariables false
set_option linter.unusedSimpArgs false
namespace Go.Proofs.Ytocideolihbnaaa
open Go.RowKit Stab

set_option maxRecDepth 100000 in
set_option maxHeartbeats 3200000 in
theorem symLeft_any (g n c : Nat) (vals : Vals) (key : Nat → Bytes) (f : Nat → Nat) (a m b : Nat) (w W : World) (he : Env g n c vals key w) (h : On g n vals f w W) (hp : Pre (lt key) a m b f) (ham : a < m) (hmb : m < b) (hb : b ≤ n) (h1 : m = a + 1) :
    Calls Try.prog 37 #[.slice (some ⟨g, 0, none⟩) n c, .int .i64 (a : Int), .int .i64 (m : Int), .int .i64 (b : Int), fnC] W fun e W' => e = .returned (.tuple #[]) ∧ ∃ f', On g n vals f' w W' ∧ Post (lt key) a b f f' := by
  have HE := Lib.hid he
  have H0 := Lib.hid h
  have HP := Lib.hid hp
  have hn := he.hn
  have hc := he.hc
  clear he h hp
  unfold fnC
  have h1' : (m : Int) - (a : Int) = 1 := by omega
  have H1 := Lib.hid h1
  clear h1
  go_enter Try.func37, Try.ntmps37
  go_wp2_with fail
  go_loopw [10, 11] (fun u v wr => ∃ (i j : Nat), u = .int .i64 (i : Int) ∧ v = .int .i64 (j : Int) ∧ m ≤ i ∧ j ≤ b ∧ Hid (On g n vals f w wr ∧ Cut1 (less key) f a m b i j)) (fun u v _ => (intOf v).toNat - (intOf u).toNat)
  case atStart => exact ⟨m, b, rfl, rfl, by omega, by omega, Lib.hid ⟨H0.out, Cut1.start (by omega)⟩⟩
  case round =>
    obtain ⟨i, j, rfl, rfl, him, hjb, hI⟩ := hrel
    by_cases hlt : i < j
    · have hlt' : (i : Int) < (j : Int) := by omega
      obtain ⟨h, hh⟩ : ∃ h, (i + j) / 2 = h := ⟨_, rfl⟩
      have hhi : ((i : Int) + (j : Int)) / 2 = (h : Int) := by omega
      have hh1 : i ≤ h := by omega
      have hh2 : h < j := by omega
      clear hh
      have HO1 : Hid (On g n vals f w wr) := hI.out.1
      have l1 : (h : Int) < (n : Int) := by omega
      have l2 : (a : Int) < (n : Int) := by omega
      have l3 : (0 : Int) ≤ (h : Int) := by omega
      have l4 : (0 : Int) ≤ (a : Int) := by omega
      have HC0 := fun p : BelowBy wr => HE.out.cmp (HO1.out.below p.below) (f h) (f a)
      have q0 := fun p : BelowBy wr => ((HO1.out.below p.below).row.cells (show h < n by omega)).1
      have q1 := fun p : BelowBy wr => ((HO1.out.below p.below).row.cells (show h < n by omega)).2
      have q2 := fun p : BelowBy wr => ((HO1.out.below p.below).row.cells (show a < n by omega)).1
      have q3 := fun p : BelowBy wr => ((HO1.out.below p.below).row.cells (show a < n by omega)).2
      obtain ⟨A1, n1, c1, e1⟩ := (HE.out.hv (f h)).1
      obtain ⟨A2, n2, c2, e2⟩ := (HE.out.hv (f h)).2
      obtain ⟨A3, n3, c3, e3⟩ := (HE.out.hv (f a)).1
      obtain ⟨A4, n4, c4, e4⟩ := (HE.out.hv (f a)).2
      simp only [e1, e2, e3, e4] at HC0 q0 q1 q2 q3
      obtain ⟨cv, hcv⟩ : ∃ cv, cmp (key (f h)) (key (f a)) = cv := ⟨_, rfl⟩
      rw [hcv] at HC0
      have HC := Lib.hid HC0
      have HCV := Lib.hid hcv
      clear e1 e2 e3 e4 HC0 hcv
      have HL : Hid (less key (f h) (f a) = decide (cv < 0)) := less_neg HCV.out
      by_cases hz : cv < 0
      · go_upto_region 5 with fail
        refine wp_region_quiet_below (by kernel_rfl) (by kernel_rfl) ?_
        repeat (quiet_step (first | (go_at_call 25; with_reducible refine Calls.below_of (HC.out _))))
        refine wpQuiet_nil ?_
        intro _ hw'
        obtain ⟨pb, rfl⟩ := hw'
        clear q0 q1 q2 q3
        have HO2 : Hid (On g n vals f w pb.W) := HO1.out.below pb.below
        have HCT := Lib.hid (hI.out.2.up (ord key) (irr key) HP.out ham hh1 hh2 (by rw [HL.out]; exact decide_eq_true hz))
        go_wp2_with fail
        go_roundw
        case rel => exact ⟨h + 1, j, by go_num, by go_num, by omega, by omega, Lib.hid ⟨HO2.out, HCT.out⟩⟩
        case measure => simp [intOf]; omega
      · go_upto_region 5 with fail
        refine wp_region_quiet_below (by kernel_rfl) (by kernel_rfl) ?_
        repeat (quiet_step (first | (go_at_call 25; with_reducible refine Calls.below_of (HC.out _))))
        refine wpQuiet_nil ?_
        intro _ hw'
        obtain ⟨pb, rfl⟩ := hw'
        clear q0 q1 q2 q3
        have HO2 : Hid (On g n vals f w pb.W) := HO1.out.below pb.below
        have HCT := Lib.hid (hI.out.2.dn (ord key) (irr key) HP.out ham hh1 hh2 (by rw [HL.out]; exact decide_eq_false hz))
        go_wp2_with fail
        go_roundw
        case rel => exact ⟨i, h, by go_num, by go_num, by omega, by omega, Lib.hid ⟨HO2.out, HCT.out⟩⟩
        case measure => simp [intOf]; omega
    · have hij : i = j := by have := hI.out.2.le; omega
      subst hij
      have HD : Hid (Post (lt key) a b f (mvr f a (i - 1))) := hI.out.2.done (ord key) HP.out H1.out
      have HON := Lib.hid hI.out.1
      clear hI
      obtain ⟨im, him2⟩ : ∃ im, i - 1 = im := ⟨_, rfl⟩
      rw [him2] at HD
      have him3 : (i : Int) - 1 = (im : Int) := by omega
      have him4 : a ≤ im ∧ im < b := by omega
      go_wp2_with fail
      go_loopw [13] (fun v wr => ∃ k : Nat, v = .int .i64 (k : Int) ∧ a ≤ k ∧ k ≤ im ∧ Hid (On g n vals (mvr f a k) w wr)) (fun v _ => im - (intOf v).toNat)
      case atStart => exact ⟨a, rfl, by omega, by omega, by rw [mvr_zero]; exact HON⟩
      case round =>
        obtain ⟨k, rfl, hk1, hk2, hO⟩ := hrel
        by_cases hlt : k < im
        · have hlt' : (k : Int) < (im : Int) := by omega
          have HS := Lib.hid (mvr_succ f a k hk1)
          obtain ⟨k1, hk⟩ : ∃ k1, k + 1 = k1 := ⟨_, rfl⟩
          rw [hk] at HS
          obtain ⟨p0, p1⟩ := hO.out.row.cells (show k < n by omega)
          obtain ⟨q0, q1⟩ := hO.out.row.cells (show k1 < n by omega)
          have f0 := hO.out.row.free (show k * 2 < n * 2 by omega)
          have f1 := hO.out.row.free (show k * 2 + 1 < n * 2 by omega)
          have f2 := hO.out.row.free (show k1 * 2 < n * 2 by omega)
          have f3 := hO.out.row.free (show k1 * 2 + 1 < n * 2 by omega)
          have HN := Lib.hid ((hO.out.swp (show k < n by omega) (show k1 < n by omega)).below (below_drew2 (Below.refl _ _)))
          obtain ⟨A1, n1, c1, e1⟩ := (HE.out.hv ((mvr f a k) k)).1
          obtain ⟨A2, n2, c2, e2⟩ := (HE.out.hv ((mvr f a k) k)).2
          obtain ⟨A3, n3, c3, e3⟩ := (HE.out.hv ((mvr f a k) k1)).1
          obtain ⟨A4, n4, c4, e4⟩ := (HE.out.hv ((mvr f a k) k1)).2
          rw [e1] at p0 HN
          rw [e2] at p1 HN
          rw [e3] at q0 HN
          rw [e4] at q1 HN
          clear e1 e2 e3 e4
          have wk : IntKind.i64.wrap ((k : Int) + 1) = (k1 : Int) := by rw [i64_small (by omega)]; omega
          have l1 : (k : Int) < (n : Int) := by omega
          have l2 : (k1 : Int) < (n : Int) := by omega
          have l3 : (0 : Int) ≤ (k : Int) := by omega
          have l4 : (0 : Int) ≤ (k1 : Int) := by omega
          have hne : ¬ k = k1 := by omega
          have hne2 : ¬ k1 = k := by omega
          have HK := Lib.hid hk
          clear hk
          go_upto_region 11 with fail
          go_region
          go_wp2_with fail
          go_roundw
          case rel => have := HK.out; exact ⟨k1, by go_num, by omega, by omega, by rw [← HS.out]; exact HN⟩
          case measure => have := HK.out; simp [intOf]; omega
        · obtain rfl : k = im := by omega
          go_wp2_with fail
          exact bodyPost_ret (results_none rfl _ _ _) rfl ⟨rfl, _, hO.out, HD.out⟩

set_option maxRecDepth 100000 in
set_option maxHeartbeats 3200000 in
theorem symRight_any (g n c : Nat) (vals : Vals) (key : Nat → Bytes) (f : Nat → Nat) (a m b : Nat) (w W : World) (he : Env g n c vals key w) (h : On g n vals f w W) (hp : Pre (lt key) a m b f) (ham : a < m) (hmb : m < b) (hb : b ≤ n) (h1 : ¬ m = a + 1) (h2 : b = m + 1) :
    Calls Try.prog 37 #[.slice (some ⟨g, 0, none⟩) n c, .int .i64 (a : Int), .int .i64 (m : Int), .int .i64 (b : Int), fnC] W fun e W' => e = .returned (.tuple #[]) ∧ ∃ f', On g n vals f' w W' ∧ Post (lt key) a b f f' := by
  have HE := Lib.hid he
  have H0 := Lib.hid h
  have HP := Lib.hid hp
  have hn := he.hn
  have hc := he.hc
  clear he h hp
  unfold fnC
  have h1' : ¬ (m : Int) - (a : Int) = 1 := by omega
  have h2' : (b : Int) - (m : Int) = 1 := by omega
  have H2 := Lib.hid h2
  clear h1 h2
  go_enter Try.func37, Try.ntmps37
  go_wp2_with fail
  clear h1' h2'
  generalize ((m : Int) - (a : Int) == 1) = bm at *
  obtain rfl : bm = false := by assumption
  go_loopw [14, 15] (fun u v wr => ∃ (i j : Nat), u = .int .i64 (i : Int) ∧ v = .int .i64 (j : Int) ∧ a ≤ i ∧ j ≤ m ∧ Hid (On g n vals f w wr ∧ Cut2 (less key) f a m i j)) (fun u v _ => (intOf v).toNat - (intOf u).toNat)
  case atStart => exact ⟨a, m, rfl, rfl, by omega, by omega, Lib.hid ⟨H0.out, Cut2.start (by omega)⟩⟩
  case round =>
    obtain ⟨i, j, rfl, rfl, him, hjb, hI⟩ := hrel
    by_cases hlt : i < j
    · have hlt' : (i : Int) < (j : Int) := by omega
      obtain ⟨h, hh⟩ : ∃ h, (i + j) / 2 = h := ⟨_, rfl⟩
      have hhi : ((i : Int) + (j : Int)) / 2 = (h : Int) := by omega
      have hh1 : i ≤ h := by omega
      have hh2 : h < j := by omega
      clear hh
      have HO1 : Hid (On g n vals f w wr) := hI.out.1
      have l1 : (h : Int) < (n : Int) := by omega
      have l2 : (m : Int) < (n : Int) := by omega
      have l3 : (0 : Int) ≤ (h : Int) := by omega
      have l4 : (0 : Int) ≤ (m : Int) := by omega
      have HC0 := fun p : BelowBy wr => HE.out.cmp (HO1.out.below p.below) (f m) (f h)
      have q0 := fun p : BelowBy wr => ((HO1.out.below p.below).row.cells (show m < n by omega)).1
      have q1 := fun p : BelowBy wr => ((HO1.out.below p.below).row.cells (show m < n by omega)).2
      have q2 := fun p : BelowBy wr => ((HO1.out.below p.below).row.cells (show h < n by omega)).1
      have q3 := fun p : BelowBy wr => ((HO1.out.below p.below).row.cells (show h < n by omega)).2
      obtain ⟨A1, n1, c1, e1⟩ := (HE.out.hv (f m)).1
      obtain ⟨A2, n2, c2, e2⟩ := (HE.out.hv (f m)).2
      obtain ⟨A3, n3, c3, e3⟩ := (HE.out.hv (f h)).1
      obtain ⟨A4, n4, c4, e4⟩ := (HE.out.hv (f h)).2
      simp only [e1, e2, e3, e4] at HC0 q0 q1 q2 q3
      obtain ⟨cv, hcv⟩ : ∃ cv, cmp (key (f m)) (key (f h)) = cv := ⟨_, rfl⟩
      rw [hcv] at HC0
      have HC := Lib.hid HC0
      have HCV := Lib.hid hcv
      clear e1 e2 e3 e4 HC0 hcv
      have HL : Hid (less key (f m) (f h) = decide (cv < 0)) := less_neg HCV.out
      by_cases hz : cv < 0
      · go_upto_region 17 with fail
        refine wp_region_quiet_below (by kernel_rfl) (by kernel_rfl) ?_
        repeat (quiet_step (first | (go_at_call 25; with_reducible refine Calls.below_of (HC.out _))))
        refine wpQuiet_nil ?_
        intro _ hw'
        obtain ⟨pb, rfl⟩ := hw'
        clear q0 q1 q2 q3
        have HO2 : Hid (On g n vals f w pb.W) := HO1.out.below pb.below
        have HCT := Lib.hid (hI.out.2.dn (ord key) (irr key) HP.out hmb hh1 hh2 (by rw [HL.out]; exact decide_eq_true hz))
        go_wp2_with fail
        go_roundw
        case rel => exact ⟨i, h, by go_num, by go_num, by omega, by omega, Lib.hid ⟨HO2.out, HCT.out⟩⟩
        case measure => simp [intOf]; omega
      · go_upto_region 17 with fail
        refine wp_region_quiet_below (by kernel_rfl) (by kernel_rfl) ?_
        repeat (quiet_step (first | (go_at_call 25; with_reducible refine Calls.below_of (HC.out _))))
        refine wpQuiet_nil ?_
        intro _ hw'
        obtain ⟨pb, rfl⟩ := hw'
        clear q0 q1 q2 q3
        have HO2 : Hid (On g n vals f w pb.W) := HO1.out.below pb.below
        have HCT := Lib.hid (hI.out.2.up (ord key) (irr key) HP.out hmb hh1 hh2 (by rw [HL.out]; exact decide_eq_false hz))
        go_wp2_with fail
        go_roundw
        case rel => exact ⟨h + 1, j, by go_num, by go_num, by omega, by omega, Lib.hid ⟨HO2.out, HCT.out⟩⟩
        case measure => simp [intOf]; omega
    · have hij : i = j := by have := hI.out.2.le; omega
      subst hij
      have HD : Hid (Post (lt key) a b f (mvl f m i)) := hI.out.2.done (ord key) HP.out H2.out
      have HON := Lib.hid hI.out.1
      clear hI
      go_wp2_with fail
      go_loopw [17] (fun v wr => ∃ k : Nat, v = .int .i64 (k : Int) ∧ i ≤ k ∧ k ≤ m ∧ Hid (On g n vals (mvl f m k) w wr)) (fun v _ => (intOf v).toNat)
      case atStart => exact ⟨m, rfl, by omega, by omega, by rw [mvl_zero]; exact HON⟩
      case round =>
        obtain ⟨k, rfl, hk1, hk2, hO⟩ := hrel
        by_cases hlt : i < k
        · have hlt' : (i : Int) < (k : Int) := by omega
          have HS := Lib.hid (mvl_succ f m k hk2 (by omega))
          obtain ⟨k1, hk⟩ : ∃ k1, k - 1 = k1 := ⟨_, rfl⟩
          rw [hk] at HS
          obtain ⟨p0, p1⟩ := hO.out.row.cells (show k < n by omega)
          obtain ⟨q0, q1⟩ := hO.out.row.cells (show k1 < n by omega)
          have f0 := hO.out.row.free (show k * 2 < n * 2 by omega)
          have f1 := hO.out.row.free (show k * 2 + 1 < n * 2 by omega)
          have f2 := hO.out.row.free (show k1 * 2 < n * 2 by omega)
          have f3 := hO.out.row.free (show k1 * 2 + 1 < n * 2 by omega)
          have HN := Lib.hid ((hO.out.swp (show k < n by omega) (show k1 < n by omega)).below (below_drew2 (Below.refl _ _)))
          obtain ⟨A1, n1, c1, e1⟩ := (HE.out.hv ((mvl f m k) k)).1
          obtain ⟨A2, n2, c2, e2⟩ := (HE.out.hv ((mvl f m k) k)).2
          obtain ⟨A3, n3, c3, e3⟩ := (HE.out.hv ((mvl f m k) k1)).1
          obtain ⟨A4, n4, c4, e4⟩ := (HE.out.hv ((mvl f m k) k1)).2
          rw [e1] at p0 HN
          rw [e2] at p1 HN
          rw [e3] at q0 HN
          rw [e4] at q1 HN
          clear e1 e2 e3 e4
          have wk : IntKind.i64.wrap ((k : Int) - 1) = (k1 : Int) := by rw [i64_small (by omega)]; omega
          have l1 : (k : Int) < (n : Int) := by omega
          have l2 : (k1 : Int) < (n : Int) := by omega
          have l3 : (0 : Int) ≤ (k : Int) := by omega
          have l4 : (0 : Int) ≤ (k1 : Int) := by omega
          have hne : ¬ k = k1 := by omega
          have hne2 : ¬ k1 = k := by omega
          have HK := Lib.hid hk
          clear hk
          go_upto_region 23 with fail
          go_region
          go_wp2_with fail
          go_roundw
          case rel => have := HK.out; exact ⟨k1, by go_num, by omega, by omega, by rw [← HS.out]; exact HN⟩
          case measure => have := HK.out; simp [intOf]; omega
        · obtain rfl : k = i := by omega
          go_wp2_with fail
          exact bodyPost_ret (results_none rfl _ _ _) rfl ⟨rfl, _, hO.out, HD.out⟩

end Go.Proofs.Ytocideolihbnaaa
