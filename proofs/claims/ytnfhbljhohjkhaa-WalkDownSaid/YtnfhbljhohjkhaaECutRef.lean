/- The reference's stretches: Ref, In, Cut. -/
import Derived.Test.YtnfhbljhohjkhaaECut
set_option linter.unusedVariables false
set_option linter.unusedSimpArgs false
namespace Go.Proofs.Ytnfhbljhohjkhaa
open Go.RowKit

theorem info45 : (Try.prog.info? 45).map (·.size) = some 3 := by kernel_rfl
set_option maxHeartbeats 1600000 in
theorem ref_any {S : Nat → Prop} (v : Value) (f t : Bytes) (cl : Bool) (w : World) (h : SIn S w v f t cl) :
    Calls Try.prog 25 #[v] w fun e w' => e = .returned (.agg #[.string (strO f), .string (strO t), .bool cl]) ∧ Below w.heap.size w w' := by
  obtain ⟨fv, tv, rfl, hf, ht⟩ := h
  obtain ⟨A, n, c, rfl⟩ := hf.slice
  obtain ⟨A', n', c', rfl⟩ := ht.slice
  have hb := (Below.refl _ w).alloc (Nat.le_refl _) (.cells #[.slice A n c, .slice A' n' c', .bool cl] 42)
  have hb2 := hb.alloc hb.size (.cells #[.string ⟨#[]⟩, .string ⟨#[]⟩, .bool false] 45)
  have hf2 := conv_bytes (hf.below hb2)
  have ht2 := conv_bytes (ht.below hb2)
  have hz : (w.alloc (.cells #[.slice A n c, .slice A' n' c', .bool cl] 42)).heap.size = w.heap.size + 1 := by simp
  have hT0 : Tri 42 ((w.alloc (.cells #[.slice A n c, .slice A' n' c', .bool cl] 42)).alloc (.cells #[.string ⟨#[]⟩, .string ⟨#[]⟩, .bool false] 45)) w.heap.size (.slice A n c) (.slice A' n' c') (.bool cl) := heap_old _ (heap_new w _)
  obtain ⟨b0, b1, b2⟩ := hT0.cells
  have HF : Hid (((w.alloc (.cells #[.slice A n c, .slice A' n' c', .bool cl] 42)).alloc (.cells #[.string (strO f), .string (strO t), .bool cl] 45)).heap[w.heap.size + 1]? = some (.cells #[.string (strO f), .string (strO t), .bool cl] 45 (0, 0))) := by
    have := heap_new (w.alloc (.cells #[.slice A n c, .slice A' n' c', .bool cl] 42)) (.cells #[.string (strO f), .string (strO t), .bool cl] 45)
    rw [hz] at this
    exact this
  have HB2 := Lib.hid (hb.alloc hb.size (.cells #[.string (strO f), .string (strO t), .bool cl] 45))
  clear hb hb2 hf ht hT0 hz
  go_enter Try.func25, Try.ntmps25
  go_wp2_with fail
  exact bodyPost_ret (results_cell_row rfl _ _ (w.heap.size + 1) 45 _ (0, 0) _ (by rfl) HF.out Try.underlying45 rfl info45) rfl ⟨rfl, HB2.out⟩

set_option maxHeartbeats 1600000 in
theorem in_any (f t k : ByteArray) (cl : Bool) (w : World) (hk : k.size ≤ 1000000) :
    Calls Try.prog 67 #[.agg #[.string f, .string t, .bool cl], .string k] w fun e w' => e = .returned (.bool (inB (strL f) (strL t) cl (strL k))) ∧ Below w.heap.size w w' := by
  have HV : Hid (inB (strL f) (strL t) cl (strL k) = (!decide (cmp (strL k) (strL f) = -1) && (!cl || decide (cmp (strL k) (strL t) = -1)))) := rfl
  have HL1 := Lib.hid (fun W => less_any k f W hk)
  have HL2 := Lib.hid (fun W => less_any k t W hk)
  have HC := Lib.hid (Tri.all (T := 45) (w := w) (u := .string f) (v := .string t) (x := .bool cl))
  have HB := Lib.hid ((Below.refl _ w).alloc (Nat.le_refl _) (.cells #[.string f, .string t, .bool cl] 45))
  go_enter Try.func67, Try.ntmps67
  go_upto_region 1 with fail
  generalize w.alloc (.cells #[.string f, .string t, .bool cl] 45) = X at *
  obtain ⟨b0, b1, b2⟩ := HC.out X (Below.refl _ _)
  go_wp2_with fail
  refine (HL1.out _).mono ?_
  rintro e w1 ⟨rfl, q, rfl⟩
  clear b0 b1 b2
  obtain ⟨b0, b1, b2⟩ := HC.out (X.drewN q) (below_drewN' q)
  have HB1 : Hid (Below w.heap.size w (X.drewN q)) := below_drewN HB.out q
  by_cases h1 : cmp (strL k) (strL f) = -1
  · have HH : Hid (inB (strL f) (strL t) cl (strL k) = false) := by rw [HV.out, decide_eq_true h1]; exact (rfl : (!true && (!cl || decide (cmp (strL k) (strL t) = -1))) = false)
    rw [decide_eq_true h1]
    clear h1
    go_wp2_with fail
    go_ret
    exact ⟨by rw [HH.out]; rfl, HB1.out⟩
  · have HV2 : Hid (inB (strL f) (strL t) cl (strL k) = (!cl || decide (cmp (strL k) (strL t) = -1))) := by rw [HV.out, decide_eq_false h1]; exact (rfl : (!false && (!cl || decide (cmp (strL k) (strL t) = -1))) = _)
    rw [decide_eq_false h1]
    clear h1 HV
    cases cl with
    | false =>
      go_wp2_with fail
      go_ret
      exact ⟨by rw [HV2.out]; rfl, HB1.out⟩
    | true =>
      go_wp2_with fail
      refine (HL2.out _).mono ?_
      rintro e w1 ⟨rfl, q2, rfl⟩
      clear b0 b1 b2
      have HB3 : Hid (Below w.heap.size w (X.drewN (q + q2))) := below_drewN HB.out (q + q2)
      by_cases h2 : cmp (strL k) (strL t) = -1
      · have HH : Hid (inB (strL f) (strL t) true (strL k) = true) := by rw [HV2.out, decide_eq_true h2]; exact (rfl : (!true || true) = true)
        rw [decide_eq_true h2]
        clear h2
        go_wp2_with fail
        go_ret
        exact ⟨by rw [HH.out]; rfl, HB3.out⟩
      · have HH : Hid (inB (strL f) (strL t) true (strL k) = false) := by rw [HV2.out, decide_eq_false h2]; exact (rfl : (!true || false) = false)
        rw [decide_eq_false h2]
        clear h2
        go_wp2_with fail
        go_ret
        exact ⟨by rw [HH.out]; rfl, HB3.out⟩

set_option maxHeartbeats 3200000 in
theorem mcut_any {S : Nat → Prop} (M : Pairs) (A : Option Addr) (n c : Nat) (f t : ByteArray) (cl bw : Bool) (w : World) (hM : MIn S w A n M) (hn : n ≤ 1000000) (hk : ∀ p ∈ M, p.1.length ≤ 100000) :
    Calls Try.prog 24 #[.slice A n c, .agg #[.string f, .string t, .bool cl], .bool bw] w fun e w' => GotMap w w' e (cutM M (strL f) (strL t) cl bw) := by
  obtain ⟨i0, hi, hz0, hz1, hz2⟩ := info_parts info73b
  have HC := Lib.hid (Tri.all (T := 45) (w := w) (u := .string f) (v := .string t) (x := .bool cl))
  have hb0 := (Below.refl _ w).alloc (Nat.le_refl _) (.cells #[.string f, .string t, .bool cl] 45)
  have HM := Lib.hid (hM.below hb0)
  have HML := Lib.hid hM.len
  have HB := Lib.hid hb0
  have HKL := Lib.hid hk
  have HP : Hid (∀ j, cutM (M.take j) (strL f) (strL t) cl bw = (M.take j).filter fun q => inB (strL f) (strL t) cl q.1 == bw) := fun _ => rfl
  clear hM hk hb0
  go_enter Try.func24, Try.ntmps24
  go_upto_region 1 with fail
  generalize w.alloc (.cells #[.string f, .string t, .bool cl] 45) = X0 at *
  go_wp2_with fail
  go_loopw [7, 12] (fun u v wr => ∃ j : Nat, v = .int .i64 (j : Int) ∧ j ≤ n ∧ Hid (OwnM X0.heap.size wr u (cutM (M.take j) (strL f) (strL t) cl bw) ∧ Below X0.heap.size X0 wr)) (fun _ v _ => n - (intOf v).toNat)
  case atStart => exact ⟨0, rfl, by omega, Lib.hid ⟨by simp only [List.take_zero]; exact World.ownsRow_nil _ _ _ _, Below.refl _ _⟩⟩
  case round =>
    obtain ⟨j, rfl, hj, hI⟩ := hrel
    by_cases hlt : j < n
    · obtain ⟨b, o, rfl, hbl, hSb, hc⟩ := (HM.out.below hI.out.2).cell (by omega)
      obtain ⟨c0, c1⟩ := hc j hlt
      have hjl : j < M.length := by rw [HML.out]; exact hlt
      have HT := Lib.hid (filter_take M (fun q => inB (strL f) (strL t) cl q.1 == bw) j hjl)
      have hle : (cutM (M.take j) (strL f) (strL t) cl bw).length ≤ j := by rw [HP.out]; exact filter_len M _ j
      have hks : (strO (M.getD j ([], [])).1).size ≤ 1000000 := by
        rw [strO_size]
        have : M.getD j ([], []) ∈ M := by
          rw [List.getD_eq_getElem?_getD, List.getElem?_eq_getElem hjl, Option.getD_some]; exact List.getElem_mem hjl
        have := HKL.out _ this
        omega
      obtain ⟨sk, hsk⟩ : ∃ sk, strO (M.getD j ([], [])).1 = sk := ⟨_, rfl⟩
      obtain ⟨sx, hsx⟩ : ∃ sx, strO (M.getD j ([], [])).2 = sx := ⟨_, rfl⟩
      have HSK := Lib.hid hsk
      have HSX := Lib.hid hsx
      have HKE : Hid ((M.getD j ([], [])).1 = strL sk) := (by rw [← hsk, strL_strO] : (M.getD j ([], [])).1 = strL sk)
      simp only [bs, hsk, hsx] at c0 c1
      rw [hsk] at hks
      have HIN := Lib.hid (fun W => in_any f t sk cl W (by assumption))
      have al : (0 : Int) ≤ (j : Int) := by omega
      have al3 : (j : Int) < (n : Int) := by omega
      have hb0 := (Below.refl _ wr).alloc (Nat.le_refl _) (.cells #[.string sk, .string sx] 91)
      have HO := Lib.hid (And.intro (hI.out.1.below hb0) (hI.out.2.alloc hI.out.2.size (.cells #[.string sk, .string sx] 91)))
      have htw : (wr.alloc (.cells #[.string sk, .string sx] 91)).heap[wr.heap.size]? = some (.cells #[.string sk, .string sx] 91 (0, 0)) := heap_new wr _
      have HTW := Lib.hid htw
      clear hc hsk hsx hks hb0 htw
      go_upto_region 5 with fail
      have hgl : Hid (wr.heap.size < (wr.alloc (.cells #[.string sk, .string sx] 91)).heap.size) := (by simp : wr.heap.size < (wr.alloc (.cells #[.string sk, .string sx] 91)).heap.size)
      clear c0 c1
      generalize wr.heap.size = g at *
      generalize wr.alloc (.cells #[.string sk, .string sx] 91) = X at *
      have HCX : Hid (∀ W, Below X.heap.size X W → W.cell? ⟨g, 0, none⟩ = some (.string sk) ∧ W.cell? ⟨g, 1, none⟩ = some (.string sx)) := fun W h => by
        have h2 := (h.block g hgl.out).trans HTW.out
        exact ⟨cell_of_row W g 0 _ _ _ h2, cell_of_row W g 1 _ _ _ h2⟩
      obtain ⟨b0, b1⟩ := HCX.out X (Below.refl _ _)
      obtain ⟨s0, s1, s2⟩ := HC.out X HO.out.2
      go_wp2_with fail
      refine (HIN.out _).mono ?_
      rintro e w2 ⟨rfl, hb2⟩
      have HB2 : Hid (Below X.heap.size X w2) := hb2
      clear b0 b1 s0 s1 s2 hb2
      obtain ⟨b0, b1⟩ := HCX.out w2 HB2.out
      have HO2 : Hid (OwnM X0.heap.size w2 _ (cutM (M.take j) (strL f) (strL t) cl bw) ∧ Below X0.heap.size X0 w2) := ⟨HO.out.1.below HB2.out, HO.out.2.trans (HB2.out.mono HO.out.2.size)⟩
      obtain ⟨ib, hib⟩ : ∃ ib, inB (strL f) (strL t) cl (strL sk) = ib := ⟨_, rfl⟩
      have HIB := Lib.hid hib
      rw [hib]
      clear hib
      by_cases hc : (ib == bw) = true
      · have HE : Hid (cutM (M.take (j + 1)) (strL f) (strL t) cl bw = cutM (M.take j) (strL f) (strL t) cl bw ++ [M.getD j ([], [])]) := by
          rw [HP.out, HT.out, HP.out, if_pos (by rw [HKE.out, HIB.out]; exact hc)]; exact (rfl : (M.take j).filter (fun q => inB (strL f) (strL t) cl q.1 == bw) ++ [M.getD j ([], [])] = _)
        go_wp2_with (at_builtin; refine wpList_append_own _ rfl _ _ 27 rfl X0.heap.size 91 i0 (.agg #[.string ⟨#[]⟩, .string ⟨#[]⟩]) 2 32 Try.underlying27 hi hz0 hz1 hz2 rfl (by decide) _ _ _ rfl (HO2.out.1.alloc _) ⟨w2.heap.size, 0, none⟩ 1 1 [.string sk, .string sx] ?c1 rfl ?c2 (two_cells _ _) ?c3 ?c4 ?c5 ?_)
        case c1 => simp [Act.eval]
        case c2 =>
          have := World.news_of_block (heap_new w2 (.cells #[.string sk, .string sx] 91))
          simpa using this
        case c3 => unfold maxLen; omega
        case c4 => omega
        case c5 => have := HO2.out.2.size; simp; omega
        intro v' w1 hown1 hgrow _
        have HN : Hid (OwnM X0.heap.size w1 v' (cutM (M.take (j + 1)) (strL f) (strL t) cl bw) ∧ Below X0.heap.size X0 w1) := by
          refine ⟨?_, (HO2.out.2.alloc HO2.out.2.size _).grown hgrow (by have := HO2.out.2.size; simp; omega) (fun k e => (HO2.out.1.lt k e).1)⟩
          rw [HE.out, OwnM, List.length_append, mvals_append]
          simp only [mvals, bs, HSK.out, HSX.out]
          exact hown1
        clear hown1 hgrow b0 b1
        go_wp2_with fail
        go_roundw
        case rel => exact ⟨j + 1, by go_num, by omega, HN⟩
        case measure => simp [intOf]; omega
      · have HE : Hid (cutM (M.take (j + 1)) (strL f) (strL t) cl bw = cutM (M.take j) (strL f) (strL t) cl bw) := by
          rw [HP.out, HT.out, HP.out, if_neg (by rw [HKE.out, HIB.out]; exact hc), List.append_nil]
          exact (rfl : (M.take j).filter (fun q => inB (strL f) (strL t) cl q.1 == bw) = _)
        rw [Bool.not_eq_true] at hc
        go_wp2_with fail
        go_roundw
        case rel => exact ⟨j + 1, by go_num, by omega, by rw [HE.out]; exact HO2⟩
        case measure => simp [intOf]; omega
    · obtain rfl : j = n := by omega
      have HE : Hid (M.take j = M) := List.take_of_length_le (by rw [HML.out]; exact Nat.le_refl _)
      have hown := hI.out.1
      rw [HE.out] at hown
      obtain ⟨A1, c1, rfl, h1, h2⟩ := hown.reads
      have HF : Hid (GotMap w wr (.returned (.slice A1 (cutM M (strL f) (strL t) cl bw).length c1)) (cutM M (strL f) (strL t) cl bw)) := ⟨A1, c1, rfl, h1, h2.imp (fun b _ hb => Nat.le_trans HB.out.size hb), HB.out.trans (hI.out.2.mono HB.out.size)⟩
      clear hown h1 h2
      go_wp2_with fail
      go_ret
      exact HF.out

end Go.Proofs.Ytnfhbljhohjkhaa
