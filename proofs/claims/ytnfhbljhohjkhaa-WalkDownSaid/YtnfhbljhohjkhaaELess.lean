/- The reference's Less: what of a map is less than a key, or more. -/
import Derived.Test.YtnfhbljhohjkhaaEMade
set_option linter.unusedVariables false
set_option linter.unusedSimpArgs false
namespace Go.Proofs.Ytnfhbljhohjkhaa
open Go.RowKit

def lessM (M : Pairs) (key : Bytes) : Pairs := M.filter fun q => decide (cmp q.1 key = -1)
def moreM (M : Pairs) (key : Bytes) : Pairs := M.filter fun q => decide (cmp key q.1 = -1)
theorem filter_take (M : Pairs) (p : Bytes × Bytes → Bool) (j : Nat) (h : j < M.length) : (M.take (j + 1)).filter p = (M.take j).filter p ++ (if p (M.getD j ([], [])) = true then [M.getD j ([], [])] else []) := by
  rw [List.take_succ_eq_append_getElem h, List.filter_append]
  congr 1
  rw [List.getD_eq_getElem?_getD, List.getElem?_eq_getElem h, Option.getD_some]
  by_cases hp : p M[j] = true
  · rw [if_pos hp]; simp [hp]
  · rw [if_neg hp]; simp [hp]
theorem filter_len (M : Pairs) (p : Bytes × Bytes → Bool) (j : Nat) : ((M.take j).filter p).length ≤ j := Nat.le_trans (List.length_filter_le _ _) (by simp; omega)

set_option maxHeartbeats 3200000 in
theorem mless_any {S : Nat → Prop} (M : Pairs) (A : Option Addr) (n c : Nat) (s : ByteArray) (w : World) (hM : MIn S w A n M) (hn : n ≤ 1000000) (hk : ∀ p ∈ M, p.1.length ≤ 100000) (hs : s.size ≤ 1000000) :
    Calls Try.prog 21 #[.slice A n c, .string s, .bool false] w fun e w' => GotMap w w' e (lessM M (strL s)) := by
  obtain ⟨i0, hi, hz0, hz1, hz2⟩ := info_parts info73b
  have HM := Lib.hid hM
  have HKL := Lib.hid hk
  have HP : Hid (∀ j, lessM (M.take j) (strL s) = (M.take j).filter fun q => decide (cmp q.1 (strL s) = -1)) := fun _ => rfl
  clear hM hk
  go_enter Try.func21, Try.ntmps21
  go_wp2_with fail
  go_loopw [7, 12] (fun u v wr => ∃ j : Nat, v = .int .i64 (j : Int) ∧ j ≤ n ∧ Hid (OwnM w.heap.size wr u (lessM (M.take j) (strL s)) ∧ Below w.heap.size w wr)) (fun _ v _ => n - (intOf v).toNat)
  case atStart => exact ⟨0, rfl, by omega, Lib.hid ⟨by simp only [List.take_zero]; exact World.ownsRow_nil _ _ _ _, Below.refl _ _⟩⟩
  case round =>
    obtain ⟨j, rfl, hj, hI⟩ := hrel
    by_cases hlt : j < n
    · obtain ⟨b, o, rfl, hbl, hSb, hc⟩ := (HM.out.below hI.out.2).cell (by omega)
      obtain ⟨c0, c1⟩ := hc j hlt
      have hjl : j < M.length := by rw [HM.out.len]; exact hlt
      have HT := Lib.hid (filter_take M (fun q => decide (cmp q.1 (strL s) = -1)) j hjl)
      have hle : (lessM (M.take j) (strL s)).length ≤ j := by rw [HP.out]; exact filter_len M _ j
      have hks : (strO (M.getD j ([], [])).1).size ≤ 1000000 := by
        rw [strO_size]
        have : M.getD j ([], []) ∈ M := by
          rw [List.getD_eq_getElem?_getD, List.getElem?_eq_getElem hjl, Option.getD_some]; exact List.getElem_mem hjl
        have := HKL.out _ this
        omega
      obtain ⟨sk, hsk⟩ : ∃ sk, strO (M.getD j ([], [])).1 = sk := ⟨_, rfl⟩
      obtain ⟨sx, hsx⟩ : ∃ sx, strO (M.getD j ([], [])).2 = sx := ⟨_, rfl⟩
      have HSK := Lib.hid hsk
      have HSX := Lib.hid hsx
      have HKE : Hid ((M.getD j ([], [])).1 = strL sk) := (by rw [← hsk, strL_strO] : (M.getD j ([], [])).1 = strL sk)
      simp only [bs, hsk, hsx] at c0 c1
      rw [hsk] at hks
      have HLS := Lib.hid (fun W => less_any sk s W (by assumption))
      have al : (0 : Int) ≤ (j : Int) := by omega
      have al3 : (j : Int) < (n : Int) := by omega
      have hb0 := (Below.refl _ wr).alloc (Nat.le_refl _) (.cells #[.string sk, .string sx] 91)
      have HO := Lib.hid (And.intro (hI.out.1.below hb0) (hI.out.2.alloc hI.out.2.size (.cells #[.string sk, .string sx] 91)))
      have htw : (wr.alloc (.cells #[.string sk, .string sx] 91)).heap[wr.heap.size]? = some (.cells #[.string sk, .string sx] 91 (0, 0)) := heap_new wr _
      have HTW := Lib.hid htw
      clear hc hsk hsx hks hb0 htw
      go_upto_region 5 with fail
      have hgl : Hid (wr.heap.size < (wr.alloc (.cells #[.string sk, .string sx] 91)).heap.size) := (by simp : wr.heap.size < (wr.alloc (.cells #[.string sk, .string sx] 91)).heap.size)
      clear c0 c1
      generalize wr.heap.size = g at *
      generalize wr.alloc (.cells #[.string sk, .string sx] 91) = X at *
      have HC : Hid (∀ W, Below X.heap.size X W → W.cell? ⟨g, 0, none⟩ = some (.string sk) ∧ W.cell? ⟨g, 1, none⟩ = some (.string sx)) := fun W h => by
        have h2 := (h.block g hgl.out).trans HTW.out
        exact ⟨cell_of_row W g 0 _ _ _ h2, cell_of_row W g 1 _ _ _ h2⟩
      obtain ⟨b0, b1⟩ := HC.out X (Below.refl _ _)
      go_wp2_with fail
      refine (HLS.out _).mono ?_
      rintro e w2 ⟨rfl, q, rfl⟩
      clear b0 b1
      obtain ⟨b0, b1⟩ := HC.out _ (below_drewN' q)
      have HO2 : Hid (OwnM w.heap.size (X.drewN q) _ (lessM (M.take j) (strL s)) ∧ Below w.heap.size w (X.drewN q)) := ⟨HO.out.1.below (below_drewN' q), below_drewN HO.out.2 q⟩
      by_cases hc : cmp (strL sk) (strL s) = -1
      · have HE : Hid (lessM (M.take (j + 1)) (strL s) = lessM (M.take j) (strL s) ++ [M.getD j ([], [])]) := by
          rw [HP.out, HT.out, HP.out, if_pos (by rw [HKE.out]; exact decide_eq_true hc)]; exact (rfl : (M.take j).filter (fun q => decide (cmp q.1 (strL s) = -1)) ++ [M.getD j ([], [])] = _)
        rw [decide_eq_true hc]
        clear hc
        generalize X.drewN q = V at *
        go_wp2_with (at_builtin; refine wpList_append_own _ rfl _ _ 27 rfl w.heap.size 91 i0 (.agg #[.string ⟨#[]⟩, .string ⟨#[]⟩]) 2 32 Try.underlying27 hi hz0 hz1 hz2 rfl (by decide) _ _ _ rfl (HO2.out.1.alloc _) ⟨V.heap.size, 0, none⟩ 1 1 [.string sk, .string sx] ?c1 rfl ?c2 (two_cells _ _) ?c3 ?c4 ?c5 ?_)
        case c1 => simp [Act.eval]
        case c2 =>
          have := World.news_of_block (heap_new V (.cells #[.string sk, .string sx] 91))
          simpa using this
        case c3 => unfold maxLen; omega
        case c4 => omega
        case c5 => have := HO2.out.2.size; simp; omega
        intro v' w1 hown1 hgrow _
        have HN : Hid (OwnM w.heap.size w1 v' (lessM (M.take (j + 1)) (strL s)) ∧ Below w.heap.size w w1) := by
          refine ⟨?_, (HO2.out.2.alloc HO2.out.2.size _).grown hgrow (by have := HO2.out.2.size; simp; omega) (fun k e => (HO2.out.1.lt k e).1)⟩
          rw [HE.out, OwnM, List.length_append, mvals_append]
          simp only [mvals, bs, HSK.out, HSX.out]
          exact hown1
        clear hown1 hgrow b0 b1
        go_wp2_with fail
        go_roundw
        case rel => exact ⟨j + 1, by go_num, by omega, HN⟩
        case measure => simp [intOf]; omega
      · have HE : Hid (lessM (M.take (j + 1)) (strL s) = lessM (M.take j) (strL s)) := by
          rw [HP.out, HT.out, HP.out, if_neg (by rw [HKE.out, decide_eq_false hc]; decide), List.append_nil]
          exact (rfl : (M.take j).filter (fun q => decide (cmp q.1 (strL s) = -1)) = _)
        rw [decide_eq_false hc]
        clear hc
        go_wp2_with fail
        go_roundw
        case rel => exact ⟨j + 1, by go_num, by omega, by rw [HE.out]; exact HO2⟩
        case measure => simp [intOf]; omega
    · obtain rfl : j = n := by omega
      have HE : Hid (M.take j = M) := List.take_of_length_le (by rw [HM.out.len]; exact Nat.le_refl _)
      have hown := hI.out.1
      rw [HE.out] at hown
      obtain ⟨A1, c1, rfl, h1, h2⟩ := hown.reads
      have HF : Hid (GotMap w wr (.returned (.slice A1 (lessM M (strL s)).length c1)) (lessM M (strL s))) := ⟨A1, c1, rfl, h1, h2, hI.out.2⟩
      clear hown h1 h2
      go_wp2_with fail
      go_ret
      exact HF.out

set_option maxHeartbeats 3200000 in
theorem mmore_any {S : Nat → Prop} (M : Pairs) (A : Option Addr) (n c : Nat) (s : ByteArray) (w : World) (hM : MIn S w A n M) (hn : n ≤ 1000000) (hk : ∀ p ∈ M, p.1.length ≤ 100000) (hs : s.size ≤ 1000000) :
    Calls Try.prog 21 #[.slice A n c, .string s, .bool true] w fun e w' => GotMap w w' e (moreM M (strL s)) := by
  obtain ⟨i0, hi, hz0, hz1, hz2⟩ := info_parts info73b
  have HM := Lib.hid hM
  have HKL := Lib.hid hk
  have HP : Hid (∀ j, moreM (M.take j) (strL s) = (M.take j).filter fun q => decide (cmp (strL s) q.1 = -1)) := fun _ => rfl
  clear hM hk
  go_enter Try.func21, Try.ntmps21
  go_wp2_with fail
  go_loopw [7, 12] (fun u v wr => ∃ j : Nat, v = .int .i64 (j : Int) ∧ j ≤ n ∧ Hid (OwnM w.heap.size wr u (moreM (M.take j) (strL s)) ∧ Below w.heap.size w wr)) (fun _ v _ => n - (intOf v).toNat)
  case atStart => exact ⟨0, rfl, by omega, Lib.hid ⟨by simp only [List.take_zero]; exact World.ownsRow_nil _ _ _ _, Below.refl _ _⟩⟩
  case round =>
    obtain ⟨j, rfl, hj, hI⟩ := hrel
    by_cases hlt : j < n
    · obtain ⟨b, o, rfl, hbl, hSb, hc⟩ := (HM.out.below hI.out.2).cell (by omega)
      obtain ⟨c0, c1⟩ := hc j hlt
      have hjl : j < M.length := by rw [HM.out.len]; exact hlt
      have HT := Lib.hid (filter_take M (fun q => decide (cmp (strL s) q.1 = -1)) j hjl)
      have hle : (moreM (M.take j) (strL s)).length ≤ j := by rw [HP.out]; exact filter_len M _ j
      have hks : (strO (M.getD j ([], [])).1).size ≤ 1000000 := by
        rw [strO_size]
        have : M.getD j ([], []) ∈ M := by
          rw [List.getD_eq_getElem?_getD, List.getElem?_eq_getElem hjl, Option.getD_some]; exact List.getElem_mem hjl
        have := HKL.out _ this
        omega
      obtain ⟨sk, hsk⟩ : ∃ sk, strO (M.getD j ([], [])).1 = sk := ⟨_, rfl⟩
      obtain ⟨sx, hsx⟩ : ∃ sx, strO (M.getD j ([], [])).2 = sx := ⟨_, rfl⟩
      have HSK := Lib.hid hsk
      have HSX := Lib.hid hsx
      have HKE : Hid ((M.getD j ([], [])).1 = strL sk) := (by rw [← hsk, strL_strO] : (M.getD j ([], [])).1 = strL sk)
      simp only [bs, hsk, hsx] at c0 c1
      rw [hsk] at hks
      have HLS := Lib.hid (fun W => less_any s sk W (by assumption))
      have al : (0 : Int) ≤ (j : Int) := by omega
      have al3 : (j : Int) < (n : Int) := by omega
      have hb0 := (Below.refl _ wr).alloc (Nat.le_refl _) (.cells #[.string sk, .string sx] 91)
      have HO := Lib.hid (And.intro (hI.out.1.below hb0) (hI.out.2.alloc hI.out.2.size (.cells #[.string sk, .string sx] 91)))
      have htw : (wr.alloc (.cells #[.string sk, .string sx] 91)).heap[wr.heap.size]? = some (.cells #[.string sk, .string sx] 91 (0, 0)) := heap_new wr _
      have HTW := Lib.hid htw
      clear hc hsk hsx hks hb0 htw
      go_upto_region 5 with fail
      have hgl : Hid (wr.heap.size < (wr.alloc (.cells #[.string sk, .string sx] 91)).heap.size) := (by simp : wr.heap.size < (wr.alloc (.cells #[.string sk, .string sx] 91)).heap.size)
      clear c0 c1
      generalize wr.heap.size = g at *
      generalize wr.alloc (.cells #[.string sk, .string sx] 91) = X at *
      have HC : Hid (∀ W, Below X.heap.size X W → W.cell? ⟨g, 0, none⟩ = some (.string sk) ∧ W.cell? ⟨g, 1, none⟩ = some (.string sx)) := fun W h => by
        have h2 := (h.block g hgl.out).trans HTW.out
        exact ⟨cell_of_row W g 0 _ _ _ h2, cell_of_row W g 1 _ _ _ h2⟩
      obtain ⟨b0, b1⟩ := HC.out X (Below.refl _ _)
      go_wp2_with fail
      refine (HLS.out _).mono ?_
      rintro e w2 ⟨rfl, q, rfl⟩
      clear b0 b1
      obtain ⟨b0, b1⟩ := HC.out _ (below_drewN' q)
      have HO2 : Hid (OwnM w.heap.size (X.drewN q) _ (moreM (M.take j) (strL s)) ∧ Below w.heap.size w (X.drewN q)) := ⟨HO.out.1.below (below_drewN' q), below_drewN HO.out.2 q⟩
      by_cases hc : cmp (strL s) (strL sk) = -1
      · have HE : Hid (moreM (M.take (j + 1)) (strL s) = moreM (M.take j) (strL s) ++ [M.getD j ([], [])]) := by
          rw [HP.out, HT.out, HP.out, if_pos (by rw [HKE.out]; exact decide_eq_true hc)]; exact (rfl : (M.take j).filter (fun q => decide (cmp (strL s) q.1 = -1)) ++ [M.getD j ([], [])] = _)
        rw [decide_eq_true hc]
        clear hc
        generalize X.drewN q = V at *
        go_wp2_with (at_builtin; refine wpList_append_own _ rfl _ _ 27 rfl w.heap.size 91 i0 (.agg #[.string ⟨#[]⟩, .string ⟨#[]⟩]) 2 32 Try.underlying27 hi hz0 hz1 hz2 rfl (by decide) _ _ _ rfl (HO2.out.1.alloc _) ⟨V.heap.size, 0, none⟩ 1 1 [.string sk, .string sx] ?c1 rfl ?c2 (two_cells _ _) ?c3 ?c4 ?c5 ?_)
        case c1 => simp [Act.eval]
        case c2 =>
          have := World.news_of_block (heap_new V (.cells #[.string sk, .string sx] 91))
          simpa using this
        case c3 => unfold maxLen; omega
        case c4 => omega
        case c5 => have := HO2.out.2.size; simp; omega
        intro v' w1 hown1 hgrow _
        have HN : Hid (OwnM w.heap.size w1 v' (moreM (M.take (j + 1)) (strL s)) ∧ Below w.heap.size w w1) := by
          refine ⟨?_, (HO2.out.2.alloc HO2.out.2.size _).grown hgrow (by have := HO2.out.2.size; simp; omega) (fun k e => (HO2.out.1.lt k e).1)⟩
          rw [HE.out, OwnM, List.length_append, mvals_append]
          simp only [mvals, bs, HSK.out, HSX.out]
          exact hown1
        clear hown1 hgrow b0 b1
        go_wp2_with fail
        go_roundw
        case rel => exact ⟨j + 1, by go_num, by omega, HN⟩
        case measure => simp [intOf]; omega
      · have HE : Hid (moreM (M.take (j + 1)) (strL s) = moreM (M.take j) (strL s)) := by
          rw [HP.out, HT.out, HP.out, if_neg (by rw [HKE.out, decide_eq_false hc]; decide), List.append_nil]
          exact (rfl : (M.take j).filter (fun q => decide (cmp (strL s) q.1 = -1)) = _)
        rw [decide_eq_false hc]
        clear hc
        go_wp2_with fail
        go_roundw
        case rel => exact ⟨j + 1, by go_num, by omega, by rw [HE.out]; exact HO2⟩
        case measure => simp [intOf]; omega
    · obtain rfl : j = n := by omega
      have HE : Hid (M.take j = M) := List.take_of_length_le (by rw [HM.out.len]; exact Nat.le_refl _)
      have hown := hI.out.1
      rw [HE.out] at hown
      obtain ⟨A1, c1, rfl, h1, h2⟩ := hown.reads
      have HF : Hid (GotMap w wr (.returned (.slice A1 (moreM M (strL s)).length c1)) (moreM M (strL s))) := ⟨A1, c1, rfl, h1, h2, hI.out.2⟩
      clear hown h1 h2
      go_wp2_with fail
      go_ret
      exact HF.out

end Go.Proofs.Ytnfhbljhohjkhaa
