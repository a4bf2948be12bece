/- Texts put together: FRefG FQuietR. -/
import Derived.Test.YtphjaebkcimklaaGreatDoorMe
import Derived.Test.YtphjaebkcimklaaGreatDoorMr
import Derived.Test.YtphjaebkcimklaaGreatDoorTBase
import Derived.Sort.QuietIn
import Derived.OwnWalkIn
/- ref23.Groups. -/
set_option linter.unusedVariables false
set_option linter.unusedSimpArgs false
namespace Go.Proofs.YtphjaebkcimklaaGreatDoor
open Go.RowKit
attribute [local go_sem] Oper.semAt_some

theorem info52 : (Tryz.prog.info? 52).map (fun i => (i.zero, i.size, i.bytes)) = some (some (.agg #[.string ⟨#[]⟩, .int .i64 0]), 2, 24) := by kernel_rfl
/-- The cells of a list of groups. -/
def gvals : Grps → List Value
  | [] => []
  | (k, n) :: r => bs k :: .int .i64 (n : Int) :: gvals r
theorem gvals_len : ∀ G, (gvals G).length = G.length * 2
  | [] => rfl
  | (k, n) :: r => by simp only [gvals, List.length_cons, gvals_len r]; omega
theorem gvals_append : ∀ G H, gvals (G ++ H) = gvals G ++ gvals H
  | [], H => rfl
  | (k, n) :: r, H => by simp only [gvals, List.cons_append, gvals_append r H]
theorem gvals_last (G : Grps) (l : Bytes) (n : Nat) : (gvals (G ++ [(l, n)]))[G.length * 2]? = some (bs l) ∧ (gvals (G ++ [(l, n)]))[G.length * 2 + 1]? = some (.int .i64 (n : Int)) := by
  rw [gvals_append, List.getElem?_append_right (by rw [gvals_len]; omega), List.getElem?_append_right (by rw [gvals_len]; omega), gvals_len]
  simp [gvals]
theorem gvals_set (G : Grps) (l : Bytes) (n m : Nat) : (gvals (G ++ [(l, n)])).set (G.length * 2 + 1) (.int .i64 (m : Int)) = gvals (G ++ [(l, m)]) := by
  rw [gvals_append, gvals_append, List.set_append_right _ _ (by rw [gvals_len]; omega), gvals_len]
  simp [gvals]
theorem gvals_get (G : Grps) (j : Nat) (h : j < G.length) : (gvals G)[j * 2]? = some (bs (G[j]'h).1) ∧ (gvals G)[j * 2 + 1]? = some (.int .i64 ((G[j]'h).2 : Int)) := by
  induction G generalizing j with
  | nil => simp at h
  | cons p r ih =>
    obtain ⟨k, n⟩ := p
    cases j with
    | zero => simp [gvals]
    | succ j =>
      have := ih j (by simpa using h)
      simp only [gvals, List.getElem_cons_succ, show (j + 1) * 2 = j * 2 + 1 + 1 by omega, show (j + 1) * 2 + 1 = j * 2 + 1 + 1 + 1 by omega, List.getElem?_cons_succ]
      exact this
def OwnG (base : Nat) (w : World) (v : Value) (G : Grps) : Prop := w.ownsRow base 52 2 v G.length (gvals G)
theorem grps_step (wd : Nat) (M : Pairs) (j : Nat) (h : j < M.length) : grps wd (M.take (j + 1)) = match (gRun wd (M.take j)).2 with
    | none => grps wd (M.take j) ++ [((M.getD j ([], [])).1.take wd, 1)]
    | some (l, n) => if (M.getD j ([], [])).1.take wd = l then (gRun wd (M.take j)).1 ++ [(l, n + 1)] else grps wd (M.take j) ++ [((M.getD j ([], [])).1.take wd, 1)] := by
  unfold grps
  rw [gRun_take wd M j h]
  generalize gRun wd (M.take j) = s
  obtain ⟨em, cur⟩ := s
  cases cur with
  | none => simp [gAdd]
  | some q =>
    obtain ⟨l, n⟩ := q
    simp only [gAdd]
    split <;> simp
theorem strL_take (s : ByteArray) (k : Nat) (h : k ≤ s.size) : strL (s.extract 0 k) = (strL s).take k := by
  have e : s = ByteArray.mk s.data.toList.toArray := by cases s; simp
  have e2 : ∀ l : Bytes, strL (ByteArray.mk l.toArray) = l := fun l => by simp [strL, ByteArray.toList_eq]
  rw [e, ByteArray.extract_mk, e2, e2, List.drop_zero, Nat.sub_zero]

set_option maxRecDepth 100000 in
set_option maxHeartbeats 3200000 in
theorem rgroups_any {S : Nat → Prop} (M : Pairs) (A : Option Addr) (n c wn : Nat) (w : World) (hM : MIn S w A n M) (hn : n ≤ 100000) (hk : ∀ p ∈ M, p.1.length ≤ 100000) :
    Calls Tryz.prog 11 #[.slice A n c, .int .i64 (wn : Int)] w fun e w' => ∃ v, e = .returned v ∧ OwnG w.heap.size w' v (grps wn M) ∧ Below w.heap.size w w' := by
  obtain ⟨i0, hi, hz0, hz1, hz2⟩ := info_parts info52
  have HM := Lib.hid hM
  have HML := Lib.hid hM.len
  have HKL := Lib.hid hk
  clear hM hk
  go_enter Tryz.func11, Tryz.ntmps11
  go_wp2_with fail
  go_loopw [5, 11] (fun u v wr => ∃ j : Nat, v = .int .i64 (j : Int) ∧ j ≤ n ∧ Hid (OwnG w.heap.size wr u (grps wn (M.take j)) ∧ Below w.heap.size w wr)) (fun _ v _ => n - (intOf v).toNat)
  case atStart => exact ⟨0, rfl, by omega, Lib.hid ⟨by simp only [List.take_zero]; exact World.ownsRow_nil _ _ _ _, Below.refl _ _⟩⟩
  case round =>
    obtain ⟨j, rfl, hj, hI⟩ := hrel
    by_cases hlt : j < n
    · obtain ⟨b, o, rfl, hbl, hSb, hc⟩ := (HM.out.below hI.out.2).cell (by omega)
      obtain ⟨c0, c1⟩ := hc j hlt
      have hjl : j < M.length := by rw [HML.out]; exact hlt
      have HST := Lib.hid (grps_step wn M j hjl)
      have hbd := gRun_bound wn (M.take j)
      have htl : (M.take j).length = j := by rw [List.length_take]; omega
      rw [htl] at hbd
      obtain ⟨sk, hsk⟩ : ∃ sk, strO (M.getD j ([], [])).1 = sk := ⟨_, rfl⟩
      obtain ⟨sx, hsx⟩ : ∃ sx, strO (M.getD j ([], [])).2 = sx := ⟨_, rfl⟩
      have hks : sk.size ≤ 100000 := by
        rw [← hsk, strO_size]
        have : M.getD j ([], []) ∈ M := by rw [List.getD_eq_getElem?_getD, List.getElem?_eq_getElem hjl, Option.getD_some]; exact List.getElem_mem hjl
        exact HKL.out _ this
      have HSK : Hid ((M.getD j ([], [])).1 = strL sk) := (by rw [← hsk, strL_strO] : (M.getD j ([], [])).1 = strL sk)
      have HGR : Hid (grps wn (M.take j) = (gRun wn (M.take j)).1 ++ (gRun wn (M.take j)).2.toList) := (rfl : grps wn (M.take j) = _)
      simp only [bs, hsk, hsx] at c0 c1
      have hown := hI.out.1
      have hbr := hI.out.2
      rw [HSK.out] at HST
      -- the key, cut
      obtain ⟨sk2, HCUT⟩ : ∃ sk2, Hid (strL sk2 = (strL sk).take wn ∧ ((¬ (wn : Int) < (sk.size : Int) ∧ sk2 = sk) ∨ ((wn : Int) < (sk.size : Int) ∧ sk2 = sk.extract 0 wn))) := by
        by_cases hg : (wn : Int) < (sk.size : Int)
        · exact ⟨sk.extract 0 wn, strL_take sk wn (by omega), .inr ⟨hg, rfl⟩⟩
        · exact ⟨sk, by rw [List.take_of_length_le (by rw [strL_size]; omega)], .inl ⟨hg, rfl⟩⟩
      rw [← HCUT.out.1] at HST
      have al : (0 : Int) ≤ (j : Int) := by omega
      have al3 : (j : Int) < (n : Int) := by omega
      clear hc hsk hsx htl hI
      obtain ⟨G, hG⟩ : ∃ G, grps wn (M.take j) = G := ⟨_, rfl⟩
      rw [hG] at HST HGR hown
      generalize gRun wn (M.take j) = s at HST HGR hbd
      obtain ⟨em, cur⟩ := s
      have hbx : Below wr.heap.size wr (wr.alloc (.cells #[.string sk, .string sx] 56)) := (Below.refl _ _).alloc (Nat.le_refl _) _
      have HBX : Hid (Below w.heap.size w (wr.alloc (.cells #[.string sk, .string sx] 56)) ∧ wr.heap.size < (wr.alloc (.cells #[.string sk, .string sx] 56)).heap.size) := ⟨hbr.trans (hbx.mono hbr.size), by simp⟩
      have htw : (wr.alloc (.cells #[.string sk, .string sx] 56)).heap[wr.heap.size]? = some (.cells #[.string sk, .string sx] 56 (0, 0)) := heap_new wr _
      have HTW := Lib.hid htw
      have hown2 := own_below hown hbx
      have HCU := Lib.hid HCUT.out.2
      clear hG hbx htw hown hbr
      cases cur with
      | none =>
        have hem : em = [] := List.eq_nil_of_length_eq_zero (by have h0 := hbd.2.2 rfl; have h1 := hbd.1; rw [List.eq_nil_iff_length_eq_zero, List.length_take] at h0; simp at h1; omega)
        subst hem
        have hG0 : G = [] := HGR.out
        subst hG0
        have HST2 : Hid (grps wn (M.take (j + 1)) = [(strL sk2, 1)]) := by rw [HST.out]; rfl
        obtain ⟨Ao, co, rfl⟩ := own_slice hown2
        have HOW : Hid ((wr.alloc (.cells #[.string sk, .string sx] 56)).ownsRow w.heap.size 52 2 (.slice Ao 0 co) 0 []) := hown2
        clear hbd hown2
        have hcu := HCU.out
        rcases hcu with ⟨hng, e_⟩ | ⟨hg, e_⟩
        · subst e_
          go_upto_region 8 with fail
          generalize wr.alloc (.cells #[.string sk2, .string sx] 56) = X at *
          go_wp2_with (at_builtin; go_loud (refine wpList_append_own _ rfl _ _ 42 rfl w.heap.size 52 i0 (.agg #[.string ⟨#[]⟩, .int .i64 0]) 2 24 Tryz.underlying42 hi hz0 hz1 hz2 rfl (by decide) _ _ _ rfl (HOW.out.alloc _) ⟨X.heap.size, 0, none⟩ 1 1 [.string sk2, .int .i64 1] rfl rfl (by have := World.news_of_block (heap_new X (.cells #[.string sk2, .int .i64 1] 52)); simpa using this) (by intro u hu; simp at hu; rcases hu with rfl | rfl <;> rfl) (by unfold maxLen; omega) (by omega) (by have := HBX.out.1.size; simp; omega) ?_))
          intro v' w1 hown1 hgrow _
          have HN : Hid (OwnG w.heap.size w1 v' (grps wn (M.take (j + 1))) ∧ Below w.heap.size w w1) := by
            refine ⟨?_, (HBX.out.1.alloc HBX.out.1.size _).grown hgrow (by have := HBX.out.1.size; simp; omega) (fun k e => (HOW.out.lt k e).1)⟩
            rw [HST2.out, OwnG]
            simpa [gvals, bs, strO_strL] using hown1
          clear hown1 hgrow
          go_wp2_with fail
          go_roundw
          case rel => exact ⟨j + 1, by go_num, by omega, HN⟩
          case measure => simp [intOf]; omega
        · have hle : (wn : Int) ≤ (sk.size : Int) := by omega
          have hle2 : wn ≤ sk.size := by omega
          go_upto_region 8 with fail
          rw [← e_]
          clear e_ hle hle2 hg
          generalize wr.alloc (.cells #[.string sk, .string sx] 56) = X at *
          go_wp2_with (at_builtin; go_loud (refine wpList_append_own _ rfl _ _ 42 rfl w.heap.size 52 i0 (.agg #[.string ⟨#[]⟩, .int .i64 0]) 2 24 Tryz.underlying42 hi hz0 hz1 hz2 rfl (by decide) _ _ _ rfl (HOW.out.alloc _) ⟨X.heap.size, 0, none⟩ 1 1 [.string sk2, .int .i64 1] rfl rfl (by have := World.news_of_block (heap_new X (.cells #[.string sk2, .int .i64 1] 52)); simpa using this) (by intro u hu; simp at hu; rcases hu with rfl | rfl <;> rfl) (by unfold maxLen; omega) (by omega) (by have := HBX.out.1.size; simp; omega) ?_))
          intro v' w1 hown1 hgrow _
          have HN : Hid (OwnG w.heap.size w1 v' (grps wn (M.take (j + 1))) ∧ Below w.heap.size w w1) := by
            refine ⟨?_, (HBX.out.1.alloc HBX.out.1.size _).grown hgrow (by have := HBX.out.1.size; simp; omega) (fun k e => (HOW.out.lt k e).1)⟩
            rw [HST2.out, OwnG]
            simpa [gvals, bs, strO_strL] using hown1
          clear hown1 hgrow
          go_wp2_with fail
          go_roundw
          case rel => exact ⟨j + 1, by go_num, by omega, HN⟩
          case measure => simp [intOf]; omega
      | some q =>
        obtain ⟨l, nn⟩ := q
        have hbq := hbd.2.1 l nn rfl
        have hGG : G = em ++ [(l, nn)] := HGR.out
        subst hGG
        obtain ⟨r, hr⟩ : ∃ r, em.length = r := ⟨_, rfl⟩
        have HRR := Lib.hid hr
        have hrl : r + 1 ≤ j := by have := hbq.2.2; simp only [hr] at this; exact this
        have hown3 := hown2
        rw [List.length_append, List.length_singleton, hr] at hown3
        obtain ⟨g', cap', rfl⟩ := ownsRow_succ hown3
        have hgl := gvals_last em l nn
        rw [hr] at hgl
        have hck := (World.ownsRow.cellAt hown3 (r * 2) (by omega)).trans hgl.1
        have hcn := (World.ownsRow.cellAt hown3 (r * 2 + 1) (by omega)).trans hgl.2
        have hcf := World.ownsRow.frozenAt hown3 (r * 2 + 1)
        have hnn : nn ≤ 100000 := by have := hbq.2.1; omega
        have HOW := Lib.hid hown3
        simp only [bs] at hck
        clear hr hown2 hown3 hgl hbd hbq
        by_cases hkl : strL sk2 = l
        · have HST2 : Hid (grps wn (M.take (j + 1)) = em ++ [(l, nn + 1)]) := by rw [HST.out]; exact if_pos hkl
          have hse : strO l = sk2 := by rw [← hkl, strO_strL]
          rw [hse] at hck
          have hw1 : IntKind.i64.wrap ((r : Int) + 1 - 1) = (r : Int) := (wsm _ (by omega)).trans (by omega)
          have hw2 : IntKind.i64.wrap ((nn : Int) + 1) = (nn : Int) + 1 := wsm _ (by omega)
          clear hkl hse
          have hcu := HCU.out
          rcases hcu with ⟨hng, e_⟩ | ⟨hg, e_⟩
          · subst e_
            go_upto_region 8 with fail
            generalize wr.alloc (.cells #[.string sk2, .string sx] 56) = X at *
            have HN : Hid (OwnG w.heap.size (X.setCell ⟨g', r * 2 + 1, none⟩ (.int .i64 ((nn : Int) + 1))) (.slice (some ⟨g', 0, none⟩) (r + 1) cap') (grps wn (M.take (j + 1))) ∧ Below w.heap.size w (X.setCell ⟨g', r * 2 + 1, none⟩ (.int .i64 ((nn : Int) + 1)))) := by
              have hs := World.ownsRow.stored HOW.out (r * 2 + 1) (.int .i64 ((nn : Int) + 1))
              have hgs := gvals_set em l nn (nn + 1)
              rw [HRR.out] at hgs
              rw [show ((nn : Int) + 1) = ((nn + 1 : Nat) : Int) from rfl, hgs] at hs
              refine ⟨?_, HBX.out.1.setCell (p := ⟨g', r * 2 + 1, none⟩) (HOW.out.lt g' rfl).1 _⟩
              rw [HST2.out, OwnG, List.length_append, List.length_singleton, HRR.out]
              exact hs.1
            go_wp2_with fail
            go_roundw
            case rel => exact ⟨j + 1, by go_num, by omega, HN⟩
            case measure => simp [intOf]; omega
          · have hle : (wn : Int) ≤ (sk.size : Int) := by omega
            have hle2 : wn ≤ sk.size := by omega
            go_upto_region 8 with fail
            rw [← e_]
            clear e_ hle hle2 hg
            generalize wr.alloc (.cells #[.string sk, .string sx] 56) = X at *
            have HN : Hid (OwnG w.heap.size (X.setCell ⟨g', r * 2 + 1, none⟩ (.int .i64 ((nn : Int) + 1))) (.slice (some ⟨g', 0, none⟩) (r + 1) cap') (grps wn (M.take (j + 1))) ∧ Below w.heap.size w (X.setCell ⟨g', r * 2 + 1, none⟩ (.int .i64 ((nn : Int) + 1)))) := by
              have hs := World.ownsRow.stored HOW.out (r * 2 + 1) (.int .i64 ((nn : Int) + 1))
              have hgs := gvals_set em l nn (nn + 1)
              rw [HRR.out] at hgs
              rw [show ((nn : Int) + 1) = ((nn + 1 : Nat) : Int) from rfl, hgs] at hs
              refine ⟨?_, HBX.out.1.setCell (p := ⟨g', r * 2 + 1, none⟩) (HOW.out.lt g' rfl).1 _⟩
              rw [HST2.out, OwnG, List.length_append, List.length_singleton, HRR.out]
              exact hs.1
            go_wp2_with fail
            go_roundw
            case rel => exact ⟨j + 1, by go_num, by omega, HN⟩
            case measure => simp [intOf]; omega
        · have HST2 : Hid (grps wn (M.take (j + 1)) = em ++ [(l, nn)] ++ [(strL sk2, 1)]) := by rw [HST.out]; exact if_neg hkl
          have hse : strO l ≠ sk2 := fun e => hkl (by rw [← e, strL_strO])
          have hne := text_ne hse
          have hw1 : IntKind.i64.wrap ((r : Int) + 1 - 1) = (r : Int) := (wsm _ (by omega)).trans (by omega)
          clear hkl
          have hcu := HCU.out
          rcases hcu with ⟨hng, e_⟩ | ⟨hg, e_⟩
          · subst e_
            go_upto_region 8 with fail
            generalize wr.alloc (.cells #[.string sk2, .string sx] 56) = X at *
            go_wp2_with (at_builtin; go_loud (refine wpList_append_own _ rfl _ _ 42 rfl w.heap.size 52 i0 (.agg #[.string ⟨#[]⟩, .int .i64 0]) 2 24 Tryz.underlying42 hi hz0 hz1 hz2 rfl (by decide) _ _ _ rfl (HOW.out.alloc _) ⟨X.heap.size, 0, none⟩ 1 1 [.string sk2, .int .i64 1] rfl rfl (by have := World.news_of_block (heap_new X (.cells #[.string sk2, .int .i64 1] 52)); simpa using this) (by intro u hu; simp at hu; rcases hu with rfl | rfl <;> rfl) (by unfold maxLen; omega) (by omega) (by have := HBX.out.1.size; simp; omega) ?_))
            intro v' w1 hown1 hgrow _
            have HN : Hid (OwnG w.heap.size w1 v' (grps wn (M.take (j + 1))) ∧ Below w.heap.size w w1) := by
              refine ⟨?_, (HBX.out.1.alloc HBX.out.1.size _).grown hgrow (by have := HBX.out.1.size; simp; omega) (fun k e => (HOW.out.lt k e).1)⟩
              rw [HST2.out, OwnG]
              rw [List.length_append, List.length_append, List.length_singleton, List.length_singleton, HRR.out, gvals_append _ [(strL sk2, 1)]]
              simp only [gvals, bs, strO_strL]
              exact hown1
            clear hown1 hgrow
            go_wp2_with fail
            go_roundw
            case rel => exact ⟨j + 1, by go_num, by omega, HN⟩
            case measure => simp [intOf]; omega
          · have hle : (wn : Int) ≤ (sk.size : Int) := by omega
            have hle2 : wn ≤ sk.size := by omega
            go_upto_region 8 with fail
            rw [← e_]
            clear e_ hle hle2 hg
            generalize wr.alloc (.cells #[.string sk, .string sx] 56) = X at *
            go_wp2_with (at_builtin; go_loud (refine wpList_append_own _ rfl _ _ 42 rfl w.heap.size 52 i0 (.agg #[.string ⟨#[]⟩, .int .i64 0]) 2 24 Tryz.underlying42 hi hz0 hz1 hz2 rfl (by decide) _ _ _ rfl (HOW.out.alloc _) ⟨X.heap.size, 0, none⟩ 1 1 [.string sk2, .int .i64 1] rfl rfl (by have := World.news_of_block (heap_new X (.cells #[.string sk2, .int .i64 1] 52)); simpa using this) (by intro u hu; simp at hu; rcases hu with rfl | rfl <;> rfl) (by unfold maxLen; omega) (by omega) (by have := HBX.out.1.size; simp; omega) ?_))
            intro v' w1 hown1 hgrow _
            have HN : Hid (OwnG w.heap.size w1 v' (grps wn (M.take (j + 1))) ∧ Below w.heap.size w w1) := by
              refine ⟨?_, (HBX.out.1.alloc HBX.out.1.size _).grown hgrow (by have := HBX.out.1.size; simp; omega) (fun k e => (HOW.out.lt k e).1)⟩
              rw [HST2.out, OwnG]
              rw [List.length_append, List.length_append, List.length_singleton, List.length_singleton, HRR.out, gvals_append _ [(strL sk2, 1)]]
              simp only [gvals, bs, strO_strL]
              exact hown1
            clear hown1 hgrow
            go_wp2_with fail
            go_roundw
            case rel => exact ⟨j + 1, by go_num, by omega, HN⟩
            case measure => simp [intOf]; omega
    · obtain rfl : j = n := by omega
      have HT : Hid (M.take j = M) := List.take_of_length_le (by rw [HML.out]; exact Nat.le_refl _)
      rw [HT.out] at hI
      go_wp2_with fail
      go_ret
      exact ⟨_, rfl, hI.out.1, hI.out.2⟩

end Go.Proofs.YtphjaebkcimklaaGreatDoor

/- A region that only reads, inside a round. -/
set_option linter.unusedVariables false
set_option linter.unusedSimpArgs false
namespace Go.Proofs.YtphjaebkcimklaaGreatDoor
open Go Go.RowKit
section
variable {F : Fence} {n : Nat} {P : Program} {ops : Array Oper} {C : World → Prop} {md : Region.Mode} {l : Nat}

/-- In a round an operation that defers nothing runs as elsewhere. -/
theorem round_op {o : Oper} {a : Act} {K : Act → Prop} {K' : Act → World → Prop} {Q' : Exit → Act → World → Prop} {w : World} (hl : F.round = some l) (hd : ∀ c, o.op ≠ .defer c) (hw : C w) (h : ∀ a w', C w' → K a → K' a w')
    (ha : o.askedIn F P a C) (hh : o.quietIn F n P a C K) : o.wpIn F n P a w K' Q' := by
  obtain ⟨v, q, hk⟩ := hh
  have hq := q w hw
  refine ⟨ha w hw, ?_⟩
  rw [hl, Oper.semAt_some l a.eval o hd]
  unfold Oper.quietAtIn at hq
  rcases hr : (execOp a.eval o).run P w with ⟨x, w'⟩ | ⟨x, w'⟩ <;> rw [hr] at hq
  · cases x <;> simp only [Oper.quietUponIn] at hq <;> simp only [Oper.uponIn]
    all_goals first
      | (obtain ⟨e1, e2⟩ := hq; subst e1; first | (subst e2; exact h _ _ hw hk) | (rw [← e2]; exact h _ _ hw hk) | (rw [e2]; exact h _ _ hw hk))
      | (obtain ⟨e1, hd', hc⟩ := hq
         rw [e1]
         exact ⟨hd', hc.mono fun e w'' ⟨he, hw''⟩ => by subst he; exact h _ _ hw'' hk⟩)
  · simp only [Oper.quietUponIn] at hq
theorem round_any {Q : Act → Prop} {Q' : Exit → Act → World → Prop} (hl : F.round = some l) (hd : ∀ (i : Nat) (o : Oper), ops[i]? = some o → ∀ c, o.op ≠ .defer c) (hQ : ∀ a w, C w → Q a → Q' .normal a w) : ∀ (fuel : Nat) (listed : Array Bool) (a : Act) (w : World), C w →
    wpAnyQIn F n P md ops C Q fuel listed a → wpAnyIn F n P md ops Q' fuel listed a w := by
  intro fuel
  induction fuel with
  | zero => intro listed a w hw h; exact ⟨h.1, hQ _ _ hw h.2⟩
  | succ fuel ih =>
    intro listed a w hw h
    refine ⟨fun h0 => hQ _ _ hw (h.1 h0), fun i hi => ?_⟩
    have hop := h.2 i hi
    unfold qOpIn at hop
    unfold wpOpIn
    cases ho : ops[i]? with
    | none => simp only [ho] at hop ⊢; exact ih _ _ _ hw hop
    | some o =>
      simp only [ho] at hop ⊢
      by_cases hwt : Region.wanted o (yielded ops a.tmps) = true
      · rw [if_pos hwt] at hop ⊢
        exact round_op hl (hd i o ho) hw (fun a' w' hw' hk => ih _ a' w' hw' hk) hop.1 hop.2
      · rw [if_neg hwt] at hop ⊢
        exact ⟨hop.1 w hw, ih _ _ _ hw hop.2⟩
/-- One walk serves every order, in a round. -/
theorem round_quiet {id : Nat} {Q : Exit → Act → World → Prop} {a : Act} {w : World} {os : List Oper} (hl : F.round = some l) (hd : (os.all fun o => match o.op with | .defer _ => false | _ => true) = true) (hm : P.follows .mixedOrders = true) (hB : Region.lexB .any os.toArray = true)
    (h : wpQuietIn F n P os.toArray (fun w' => ∃ n, w' = w.drewN n) (fun a' => ∀ w', (∃ n, w' = w.drewN n) → Q .normal a' w') os a) : (Code.region id os.toArray true).wpIn F n P Q a w := by
  simp only [Region.lexB, Bool.and_eq_true] at hB
  have hdd : ∀ (i : Nat) (o : Oper), os.toArray[i]? = some o → ∀ c, o.op ≠ .defer c := fun i o ho c e => by
    have hm2 : o ∈ os := List.mem_of_getElem? (by simpa using ho)
    have := List.all_eq_true.1 hd o hm2
    rw [e] at this
    cases this
  refine wpIn_region_any hm (round_any (C := fun w' => ∃ n, w' = w.drewN n) (Q := fun a' => ∀ w', (∃ n, w' = w.drewN n) → Q .normal a' w') hl hdd (fun _ w' hw' h => h w' hw') _ _ _ _ ⟨1, rfl⟩ ?_)
  have := wpAnyQIn_lex (F := F) (n := n) (ops := os.toArray) (C := fun w' => ∃ n, w' = w.drewN n) (md := .any) hB.1 os.toArray.toList 0 (Array.replicate os.toArray.size false) a (by simp) (by simpa using hB.2) (by simpa using h)
  simpa using this
end

end Go.Proofs.YtphjaebkcimklaaGreatDoor
