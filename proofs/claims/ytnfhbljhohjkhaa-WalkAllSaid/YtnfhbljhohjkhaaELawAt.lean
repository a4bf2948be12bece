/- The laws SplitAt and SplitBack. -/
import Derived.Test.YtnfhbljhohjkhaaESplit
set_option linter.unusedVariables false
set_option linter.unusedSimpArgs false
namespace Go.Proofs.Ytnfhbljhohjkhaa
open Go.RowKit

set_option maxRecDepth 100000 in
set_option maxHeartbeats 6400000 in
theorem splitAt_any (A : Option Addr) (n c : Nat) (L : List (Int × Bytes × Bytes)) (kv : Value) (kk : Bytes) (w : World) (h : Ops w A n L) (hkk : BRaw w kv kk) :
    Calls Try.prog 3 #[.slice A n c, kv] w fun e w' => e = .returned (.bool true) ∧ Below w.heap.size w w' := by
  have HO := Lib.hid h
  have HF := Lib.hid (fine_any A n c L 80 w h (by omega))
  clear h
  obtain ⟨Ak, nk, ck, rfl, _, _, h3k⟩ := id hkk
  have HLk := Lib.hid h3k.len
  have HKk := Lib.hid hkk
  clear hkk h3k
  go_enter Try.func3, Try.ntmps3
  go_wp2_with fail
  refine HF.out.mono ?_
  rintro e w1 ⟨r, rfl, hr, hb1⟩
  have HB1 := Lib.hid hb1
  clear hb1
  cases r with
  | false =>
    clear hr
    go_wp2_with fail
    refine (awake13_any w1).mono ?_
    rintro e w2 ⟨rfl, hb2⟩
    have HB2 : Hid (Below w.heap.size w w2) := HB1.out.trans (hb2.mono HB1.out.size)
    clear hb2
    go_wp2_with fail
    go_ret
    exact ⟨rfl, HB2.out⟩
  | true =>
    have HFI := Lib.hid (hr rfl)
    have hn80 : n ≤ 80 := by have := (hr rfl).1; rw [HO.out.len] at this; omega
    clear hr
    by_cases hbigk : 100 < nk
    · have hbzk : (100 : Int) < (nk : Int) := by omega
      go_wp2_with fail
      refine (awake13_any w1).mono ?_
      rintro e w2 ⟨rfl, hb2⟩
      have HB2 : Hid (Below w.heap.size w w2) := HB1.out.trans (hb2.mono HB1.out.size)
      clear hb2
      go_wp2_with fail
      go_ret
      exact ⟨rfl, HB2.out⟩
    have hsmk : ¬ (100 : Int) < (nk : Int) := by omega
    have HKFk : Hid (∀ W, Below w.heap.size w W → BIn (fun _ => True) W (.slice Ak nk ck) kk) := fun W hW => (HKk.out.fine (by have := HLk.out; omega)).below hW
    have HMD := Lib.hid (made13_any A n c L w1 (HO.out.below HB1.out) ⟨by have := HFI.out.1; omega, HFI.out.2⟩)
    go_wp2_with fail
    refine HMD.out.mono ?_
    rintro e w2 ⟨u, A', c', T, rfl, hI⟩
    have HB2 : Hid (Below w.heap.size w w2) := HB1.out.trans (hI.out.below.mono HB1.out.size)
    have hsz : T.size ≤ 80 := by have := hI.out.size; omega
    have HLL := Lib.hid T.size_list
    have hll : T.list.length ≤ 80 := by have := HLL.out; omega
    have HASC := Lib.hid hI.out.asc
    have HT2 : Hid (∀ W, Below w2.heap.size w2 W → TIn (fun _ => True) W (.pointer u) T ∧ MIn (fun _ => True) W A' T.list.length T.list ∧ Below w.heap.size w W) := fun W hW => ⟨hI.out.tin.below hW, hI.out.min.below hW, HB2.out.trans (hW.mono HB2.out.size)⟩
    have HKY := Lib.hid (And.intro hI.out.even hI.out.keys)
    have hat := At_any (S := fun _ => True) (S' := fun _ => True) kk T (.pointer u) (.slice Ak nk ck) w2 hI.out.tin (HKFk.out w2 HB2.out) hI.out.even (by omega)
    have hcut := cut_plain T kk HASC.out
    have hget := get_plain T kk HASC.out
    have HAT := Lib.hid hat
    have HCUT := Lib.hid hcut
    clear hat hcut
    go_wp2_with fail
    refine HAT.out.mono ?_
    rintro e w3 ⟨u1, u2, Av, nv, cv, ok, TL, TR, rfl, H5⟩
    have HOK : Hid (ok = (getM T.list kk).isSome) := H5.out.1.trans (by rw [hget])
    have HVB : Hid (∀ W, Below w3.heap.size w3 W → BIn (fun _ => True) W (.slice Av nv cv) ((getM T.list kk).getD [])) := fun W hW => by
      have := H5.out.2.2.2.2.2.2.2.1
      rw [hget] at this
      exact (this.imp (fun _ _ _ => trivial)).below hW
    have H3 : Hid (TL.list = lessM T.list kk ∧ TR.list = moreM T.list kk ∧ TL.even ∧ TR.even ∧ (∀ W, Below w3.heap.size w3 W → TIn (fun _ => True) W (.pointer u1) TL ∧ TIn (fun _ => True) W (.pointer u2) TR ∧ Below w2.heap.size w2 W)) :=
      ⟨H5.out.2.1.trans HCUT.out.1, H5.out.2.2.1.trans HCUT.out.2, H5.out.2.2.2.1, H5.out.2.2.2.2.1, fun W hW => ⟨(H5.out.2.2.2.2.2.1.below hW).imp (fun _ _ _ => trivial), (H5.out.2.2.2.2.2.2.1.below hW).imp (fun _ _ _ => trivial), H5.out.2.2.2.2.2.2.2.2.trans (hW.mono H5.out.2.2.2.2.2.2.2.2.size)⟩⟩
    clear hget H5 HAT HCUT
    have B3 := Lib.hid (H3.out.2.2.2.2 w3 (Below.refl _ _)).2.2
    have HCV := Lib.hid (fun W (hW : Below w.heap.size w W) => conv_bytes (HKFk.out W hW))
    have hcv := HCV.out w3 (HT2.out w3 B3.out).2.2
    go_wp2_with fail
    refine (mget_any T.list A' T.list.length c' (strO kk) w3 (HT2.out w3 B3.out).2.1 (by omega)).mono ?_
    rw [strL_strO]
    rintro e w4 ⟨rfl, hb4⟩
    obtain ⟨want, is, hg, his, hwant⟩ := gotM_parts (getM T.list kk)
    rw [hg]
    obtain rfl : ok = is := HOK.out.trans his.symm
    have B4 : Hid (Below w3.heap.size w3 w4) := hb4
    have hvv := conv_bytes (HVB.out w4 B4.out)
    rw [← hwant] at hvv
    clear hg his hwant hb4 hcv
    have hcv := HCV.out w4 ((HT2.out w4 (H3.out.2.2.2.2 w4 B4.out).2.2).2.2)
    have hoo : (ok == ok) = true := by simp
    go_wp2_with fail
    refine (mless_any T.list A' T.list.length c' (strO kk) w4 (HT2.out w4 (H3.out.2.2.2.2 w4 B4.out).2.2).2.1 (by omega) HKY.out.2 (by rw [strO_size]; have := HLk.out; omega)).mono ?_
    rw [strL_strO]
    rintro e w5 ⟨A5, c5, rfl, h51, h52, h53⟩
    have B5 : Hid (Below w3.heap.size w3 w5) := B4.out.trans (h53.mono B4.out.size)
    have hlt1 : TL.size ≤ 80 := by rw [PT.size_of H3.out.1]; exact Nat.le_trans (List.length_filter_le _ _) hll
    have HI5 := Lib.hid (isT_any TL (.pointer u1) A5 c5 (lessM T.list kk) w5 (H3.out.2.2.2.2 w5 B5.out).1 H3.out.2.2.1 (by rw [H3.out.1]; exact less_asc kk HASC.out) h52 H3.out.1 (by omega))
    clear hcv hvv h51 h52 h53
    go_wp2_with fail
    refine HI5.out.mono ?_
    rintro e w6 ⟨rfl, hb6⟩
    have B6 : Hid (Below w3.heap.size w3 w6) := B5.out.trans (hb6.mono B5.out.size)
    clear hb6
    have hcv := HCV.out w6 ((HT2.out w6 (H3.out.2.2.2.2 w6 B6.out).2.2).2.2)
    go_wp2_with fail
    refine (mmore_any T.list A' T.list.length c' (strO kk) w6 (HT2.out w6 (H3.out.2.2.2.2 w6 B6.out).2.2).2.1 (by omega) HKY.out.2 (by rw [strO_size]; have := HLk.out; omega)).mono ?_
    rw [strL_strO]
    rintro e w7 ⟨A7, c7, rfl, h71, h72, h73⟩
    have B7 : Hid (Below w3.heap.size w3 w7) := B6.out.trans (h73.mono B6.out.size)
    have hlt2 : TR.size ≤ 80 := by rw [PT.size_of H3.out.2.1]; exact Nat.le_trans (List.length_filter_le _ _) hll
    have HI7 := Lib.hid (isT_any TR (.pointer u2) A7 c7 (moreM T.list kk) w7 (H3.out.2.2.2.2 w7 B7.out).2.1 H3.out.2.2.2.1 (by rw [H3.out.2.1]; exact more_asc kk HASC.out) h72 H3.out.2.1 (by omega))
    clear hcv h71 h72 h73
    go_wp2_with fail
    refine HI7.out.mono ?_
    rintro e w8 ⟨rfl, hb8⟩
    have B8 : Hid (Below w3.heap.size w3 w8) := B7.out.trans (hb8.mono B7.out.size)
    clear hb8
    have HI8 := Lib.hid (isT_any T (.pointer u) A' c' T.list w8 (HT2.out w8 (H3.out.2.2.2.2 w8 B8.out).2.2).1 HKY.out.1 HASC.out (HT2.out w8 (H3.out.2.2.2.2 w8 B8.out).2.2).2.1 rfl (by omega))
    go_wp2_with fail
    refine HI8.out.mono ?_
    rintro e w9 ⟨rfl, hb9⟩
    have B9 : Hid (Below w.heap.size w w9) := (HT2.out w9 (H3.out.2.2.2.2 w9 (B8.out.trans (hb9.mono B8.out.size))).2.2).2.2
    clear hb9
    go_wp2_with fail
    refine (awake13_any w9).mono ?_
    rintro e wA ⟨rfl, hbA⟩
    have BA : Hid (Below w.heap.size w wA) := B9.out.trans (hbA.mono B9.out.size)
    clear hbA
    go_wp2_with fail
    go_ret
    exact ⟨rfl, BA.out⟩

theorem cut_back (M : Pairs) (key : Bytes) (h : Asc M) : lessM M key ++ ((match getM M key with | none => [] | some x => [(key, x)]) ++ moreM M key) = M := by
  induction M with
  | nil => rfl
  | cons q M ih =>
    obtain ⟨k, x⟩ := q
    have hM := ih h.tail
    rw [less_cons, more_cons]
    rcases cmp_cases k key with hc | hc | hc
    · have hne : ¬ k = key := cmp_ne hc
      rw [if_pos hc, if_neg (by have := cmp_lt_asymm hc; omega), getM, if_neg hne]
      simp only [List.nil_append, List.cons_append, List.append_assoc]
      rw [hM]
    · subst hc
      have hall : ∀ q ∈ M, cmp k q.1 = -1 := h.head
      have hg : getM ((k, x) :: M) k = some x := by rw [getM, if_pos rfl]
      rw [(more_all hall).1, (more_all hall).2, if_neg (by rw [cmp_self]; decide), hg]
      simp
    · have hall : ∀ q ∈ M, cmp key q.1 = -1 := fun q hq => cmp_lt_trans _ _ _ hc (h.head q hq)
      rw [(more_all hall).1, (more_all hall).2, if_pos hc, if_neg (by have := cmp_lt_asymm hc; omega)]
      have hg : getM ((k, x) :: M) key = none := by
        rw [getM, if_neg (fun e => cmp_ne hc e.symm)]
        exact getM_nil M key fun q hq => (cmp_ne (hall q hq)).symm
      rw [hg]
      simp

set_option maxRecDepth 100000 in
set_option maxHeartbeats 6400000 in
theorem splitBack_any (A : Option Addr) (n c : Nat) (L : List (Int × Bytes × Bytes)) (kv : Value) (kk : Bytes) (w : World) (h : Ops w A n L) (hkk : BRaw w kv kk) :
    Calls Try.prog 4 #[.slice A n c, kv] w fun e w' => e = .returned (.bool true) ∧ Below w.heap.size w w' := by
  have HO := Lib.hid h
  have HF := Lib.hid (fine_any A n c L 80 w h (by omega))
  clear h
  obtain ⟨Ak, nk, ck, rfl, _, _, h3k⟩ := id hkk
  have HLk := Lib.hid h3k.len
  have HKk := Lib.hid hkk
  clear hkk h3k
  go_enter Try.func4, Try.ntmps4
  go_wp2_with fail
  refine HF.out.mono ?_
  rintro e w1 ⟨r, rfl, hr, hb1⟩
  have HB1 := Lib.hid hb1
  clear hb1
  cases r with
  | false =>
    clear hr
    go_wp2_with fail
    refine (awake13_any w1).mono ?_
    rintro e w2 ⟨rfl, hb2⟩
    have HB2 : Hid (Below w.heap.size w w2) := HB1.out.trans (hb2.mono HB1.out.size)
    clear hb2
    go_wp2_with fail
    go_ret
    exact ⟨rfl, HB2.out⟩
  | true =>
    have HFI := Lib.hid (hr rfl)
    have hn80 : n ≤ 80 := by have := (hr rfl).1; rw [HO.out.len] at this; omega
    clear hr
    by_cases hbigk : 100 < nk
    · have hbzk : (100 : Int) < (nk : Int) := by omega
      go_wp2_with fail
      refine (awake13_any w1).mono ?_
      rintro e w2 ⟨rfl, hb2⟩
      have HB2 : Hid (Below w.heap.size w w2) := HB1.out.trans (hb2.mono HB1.out.size)
      clear hb2
      go_wp2_with fail
      go_ret
      exact ⟨rfl, HB2.out⟩
    have hsmk : ¬ (100 : Int) < (nk : Int) := by omega
    have HKFk : Hid (∀ W, Below w.heap.size w W → BIn (fun _ => True) W (.slice Ak nk ck) kk) := fun W hW => (HKk.out.fine (by have := HLk.out; omega)).below hW
    have HMD := Lib.hid (made13_any A n c L w1 (HO.out.below HB1.out) ⟨by have := HFI.out.1; omega, HFI.out.2⟩)
    go_wp2_with fail
    refine HMD.out.mono ?_
    rintro e w2 ⟨u, A', c', T, rfl, hI⟩
    have HB2 : Hid (Below w.heap.size w w2) := HB1.out.trans (hI.out.below.mono HB1.out.size)
    have hsz : T.size ≤ 80 := by have := hI.out.size; omega
    have HLL := Lib.hid T.size_list
    have hll : T.list.length ≤ 80 := by have := HLL.out; omega
    have HASC := Lib.hid hI.out.asc
    have HT2 : Hid (∀ W, Below w2.heap.size w2 W → TIn (fun _ => True) W (.pointer u) T ∧ MIn (fun _ => True) W A' T.list.length T.list ∧ Below w.heap.size w W) := fun W hW => ⟨hI.out.tin.below hW, hI.out.min.below hW, HB2.out.trans (hW.mono HB2.out.size)⟩
    have HKY := Lib.hid (And.intro hI.out.even hI.out.keys)
    have hat := At_any (S := fun _ => True) (S' := fun _ => True) kk T (.pointer u) (.slice Ak nk ck) w2 hI.out.tin (HKFk.out w2 HB2.out) hI.out.even (by omega)
    have hcut := cut_plain T kk HASC.out
    have hget := get_plain T kk HASC.out
    have HAT := Lib.hid hat
    have HCUT := Lib.hid hcut
    clear hat hcut
    go_wp2_with fail
    refine HAT.out.mono ?_
    rintro e w3 ⟨u1, u2, Av, nv, cv, ok, TL, TR, rfl, H5⟩
    have hok : ok = (getM T.list kk).isSome := H5.out.1.trans (by rw [hget])
    have HVB : Hid (∀ W, Below w3.heap.size w3 W → BIn (fun _ => True) W (.slice Av nv cv) ((getM T.list kk).getD [])) := fun W hW => by
      have := H5.out.2.2.2.2.2.2.2.1
      rw [hget] at this
      exact (this.imp (fun _ _ _ => trivial)).below hW
    have hs1 : TL.size ≤ 80 := by rw [PT.size_of (H5.out.2.1.trans HCUT.out.1)]; exact Nat.le_trans (List.length_filter_le _ _) hll
    have hs2 : TR.size ≤ 80 := by rw [PT.size_of (H5.out.2.2.1.trans HCUT.out.2)]; exact Nat.le_trans (List.length_filter_le _ _) hll
    have H3 : Hid (TL.list = lessM T.list kk ∧ TR.list = moreM T.list kk ∧ TL.even ∧ TR.even ∧ (∀ W, Below w3.heap.size w3 W → TIn (fun _ => True) W (.pointer u1) TL ∧ TIn (fun _ => True) W (.pointer u2) TR ∧ Below w2.heap.size w2 W)) :=
      ⟨H5.out.2.1.trans HCUT.out.1, H5.out.2.2.1.trans HCUT.out.2, H5.out.2.2.2.1, H5.out.2.2.2.2.1, fun W hW => ⟨(H5.out.2.2.2.2.2.1.below hW).imp (fun _ _ _ => trivial), (H5.out.2.2.2.2.2.2.1.below hW).imp (fun _ _ _ => trivial), H5.out.2.2.2.2.2.2.2.2.trans (hW.mono H5.out.2.2.2.2.2.2.2.2.size)⟩⟩
    clear hget H5 HAT HCUT
    have hbk := cut_back T.list kk HASC.out
    have HP := Lib.hid (Pair_any (S := fun _ => True) none (by simp) TL TR (.pointer u1) (.pointer u2) 0 0 w3 (H3.out.2.2.2.2 w3 (Below.refl _ _)).1 (H3.out.2.2.2.2 w3 (Below.refl _ _)).2.1 (fun b e => by cases e) H3.out.2.2.1 H3.out.2.2.2.1 (by omega) (by have := TR.height_le; omega))
    have HMV : Hid (mV none = .pointer none) := rfl
    rw [HMV.out] at HP
    go_wp2_with fail
    refine HP.out.mono ?_
    rintro e w4 ⟨u4, T4, vi4, co4, rfl, a1, a2, a3, a4⟩
    have B4 : Hid (Below w3.heap.size w3 w4) := a4.kept.to
    have H4 : Hid (T4.list = TL.list ++ TR.list ∧ T4.even ∧ TIn (fun _ => True) w4 (.pointer u4) T4) := ⟨a1, a2, a3.imp (fun _ _ _ => trivial)⟩
    clear a1 a2 a3 a4 HP
    cases hg : getM T.list kk with
    | none =>
      rw [hg] at hok hbk
      obtain rfl : ok = false := hok
      have hl4 : T4.list = T.list := by rw [H4.out.1, H3.out.1, H3.out.2.1]; simpa using hbk
      have HI8 := Lib.hid (isT_any T4 (.pointer u4) A' c' T.list w4 H4.out.2.2 H4.out.2.1 (by rw [hl4]; exact HASC.out) (HT2.out w4 (H3.out.2.2.2.2 w4 B4.out).2.2).2.1 hl4 (by rw [PT.size_of hl4]; omega))
      clear hbk hg hl4
      go_wp2_with fail
      refine HI8.out.mono ?_
      rintro e w9 ⟨rfl, hb9⟩
      have B9 : Hid (Below w.heap.size w w9) := (HT2.out w9 (H3.out.2.2.2.2 w9 (B4.out.trans (hb9.mono B4.out.size))).2.2).2.2
      clear hb9
      go_wp2_with fail
      refine (awake13_any w9).mono ?_
      rintro e wA ⟨rfl, hbA⟩
      have BA : Hid (Below w.heap.size w wA) := B9.out.trans (hbA.mono B9.out.size)
      clear hbA
      go_wp2_with fail
      go_ret
      exact ⟨rfl, BA.out⟩
    | some x =>
      rw [hg] at hok hbk HVB
      obtain rfl : ok = true := hok
      have HBK := Lib.hid hbk
      have HJ := Lib.hid (Join_any (S := fun _ => True) TL TR (.pointer u1) (.agg #[.slice Ak nk ck, .slice Av nv cv]) (.pointer u2) kk x w4 (H3.out.2.2.2.2 w4 B4.out).1 ⟨_, _, rfl, HKFk.out w4 (HT2.out w4 (H3.out.2.2.2.2 w4 B4.out).2.2).2.2, HVB.out w4 B4.out⟩ (H3.out.2.2.2.2 w4 B4.out).2.1 (by omega) H3.out.2.2.1 H3.out.2.2.2.1)
      clear hbk hg
      go_wp2_with fail
      refine HJ.out.mono ?_
      rintro e w5 ⟨u5, T5, rfl, a1, a2, a3, a4⟩
      have B5 : Hid (Below w3.heap.size w3 w5) := B4.out.trans (a4.mono B4.out.size)
      have hl5 : T5.list = T.list := by rw [a1, H3.out.1, H3.out.2.1]; simpa using HBK.out
      have HI8 := Lib.hid (isT_any T5 (.pointer u5) A' c' T.list w5 (S := fun _ => True) (a3.imp (fun _ _ _ => trivial)) a2 (by rw [hl5]; exact HASC.out) (HT2.out w5 (H3.out.2.2.2.2 w5 B5.out).2.2).2.1 hl5 (by rw [PT.size_of hl5]; omega))
      clear a1 a2 a3 a4 hl5
      go_wp2_with fail
      refine HI8.out.mono ?_
      rintro e w9 ⟨rfl, hb9⟩
      have B9 : Hid (Below w.heap.size w w9) := (HT2.out w9 (H3.out.2.2.2.2 w9 (B5.out.trans (hb9.mono B5.out.size))).2.2).2.2
      clear hb9
      go_wp2_with fail
      refine (awake13_any w9).mono ?_
      rintro e wA ⟨rfl, hbA⟩
      have BA : Hid (Below w.heap.size w wA) := B9.out.trans (hbA.mono B9.out.size)
      clear hbA
      go_wp2_with fail
      go_ret
      exact ⟨rfl, BA.out⟩

end Go.Proofs.Ytnfhbljhohjkhaa
