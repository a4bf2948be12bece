/- The law RankRises. -/
import Derived.Test.YtlnlgahokifolaaTRankBack
import Derived.Laws.Cover1
set_option linter.unusedVariables false
set_option linter.unusedSimpArgs false
namespace Go.Proofs.Ytlnlgahokifolaa
open Go.RowKit

theorem bl_cmp : ∀ x y : Bytes, Op.bytesLess x y = decide (cmp x y = -1)
  | [], [] => by simp [Op.bytesLess, Lib.compareBytes]
  | _ :: _, [] => by simp [Op.bytesLess, Lib.compareBytes]
  | [], _ :: _ => by simp [Op.bytesLess, Lib.compareBytes]
  | a :: x, b :: y => by
    rw [Op.bytesLess, bl_cmp x y]
    show _ = decide (Lib.compareBytes (a :: x) (b :: y) = -1)
    rw [Lib.compareBytes]
    by_cases h : a < b
    · simp [h]
    · by_cases h2 : b < a
      · have : a ≠ b := fun e => by subst e; exact UInt8.lt_irrefl a h2
        simp [h, h2, this]
      · have : a = b := UInt8.le_antisymm (UInt8.not_lt.1 h2) (UInt8.not_lt.1 h)
        simp [h, h2, this]
theorem str_less (x y : Bytes) : Op.bytesLess (strO x).toList (strO y).toList = decide (cmp x y = -1) := by
  rw [ByteArray.toList_eq, ByteArray.toList_eq]
  exact bl_cmp x y
theorem str_gtr (x y : Bytes) : (Op.bytesLess (strO x).toList (strO y).toList || (strO x).toList == (strO y).toList) = decide (¬ cmp x y = 1) := by
  rw [str_less, text_eq, Bool.eq_iff_iff]
  simp only [Bool.or_eq_true, decide_eq_true_eq, strO_inj]
  rw [← cmp_eq0]
  have := cmp3 x y
  constructor
  · intro h h2
    rcases h with h | h <;> (rw [h] at h2; exact absurd h2 (by decide))
  · intro h
    rcases this with h' | h' | h'
    · exact .inr h'
    · exact absurd h' h
    · exact .inl h'
theorem below_iff {M : Pairs} (h : Asc M) (key : Bytes) {j : Nat} (hj : j < M.length) : cmp (M.getD j ([], [])).1 key = -1 ↔ j < belowM M key := by
  constructor
  · intro hc
    have e : belowM M key = (M.take (j + 1)).countP (fun p => decide (cmp p.1 key = -1)) + (M.drop (j + 1)).countP (fun p => decide (cmp p.1 key = -1)) := by
      rw [← List.countP_append, List.take_append_drop]; rfl
    have e2 : (M.take (j + 1)).countP (fun p => decide (cmp p.1 key = -1)) = j + 1 := by
      refine count_all M _ (j + 1) (by omega) fun i hi => decide_eq_true ?_
      rcases Nat.lt_or_eq_of_le (Nat.le_of_lt_succ hi) with h3 | rfl
      · exact cmp_lt_trans _ _ _ (asc_lt h h3 hj) hc
      · exact hc
    rw [e, e2]; omega
  · intro hlt
    rcases Decidable.em (cmp (M.getD j ([], [])).1 key = -1) with hc | hc
    · exact hc
    · exfalso
      have e : belowM M key = (M.take j).countP (fun p => decide (cmp p.1 key = -1)) + (M.drop j).countP (fun p => decide (cmp p.1 key = -1)) := by
        rw [← List.countP_append, List.take_append_drop]; rfl
      have h0 : (M.drop j).countP (fun p => decide (cmp p.1 key = -1)) = 0 := by
        rw [List.countP_eq_zero]
        intro q hq
        obtain ⟨i, hi, rfl⟩ := List.getElem_of_mem hq
        rw [List.length_drop] at hi
        rw [List.getElem_drop, decide_eq_true_eq]
        intro h2
        rcases Nat.eq_zero_or_pos i with rfl | hpos
        · exact hc (by rw [getD_at hj]; exact h2)
        · refine hc (cmp_lt_trans _ _ _ (asc_lt h (show j < j + i by omega) (by omega)) ?_)
          rw [getD_at (by omega)]; exact h2
      have h1 : (M.take j).countP (fun p => decide (cmp p.1 key = -1)) ≤ j := Nat.le_trans List.countP_le_length (by simp; omega)
      omega
theorem below_mono (M : Pairs) {a b : Bytes} (h : ¬ cmp a b = 1) : belowM M a ≤ belowM M b := by
  refine List.countP_mono_left fun q _ hq => ?_
  rw [decide_eq_true_eq] at hq ⊢
  rcases cmp3 a b with h' | h' | h'
  · rw [← (cmp_eq0 a b).1 h']; exact hq
  · exact absurd h' h
  · exact cmp_lt_trans _ _ _ hq h'

set_option maxRecDepth 100000 in
set_option maxHeartbeats 3200000 in
theorem rankRises_any (A : Option Addr) (n c : Nat) (L : List (Int × Bytes × Bytes)) (av bv : Value) (ka kb : Bytes) (w : World) (h : Ops w A n L) (hka : BRaw w av ka) (hkb : BRaw w bv kb) :
    Calls Try.prog 11 #[.slice A n c, av, bv] w fun e w' => e = .returned (.bool true) ∧ Below w.heap.size w w' := by
  obtain ⟨Aa, na, ca, rfl, _, _, ha3⟩ := id hka
  obtain ⟨Ab, nb, cb, rfl, _, _, hb3⟩ := id hkb
  have HLA := Lib.hid (And.intro ha3.len hb3.len)
  have HO := Lib.hid h
  have HKA := Lib.hid hka
  have HKB := Lib.hid hkb
  have HF := Lib.hid (fine_any A n c L 60 w h (by omega))
  clear h hka ha3 hkb hb3
  go_enter Try.func11, Try.ntmps11
  go_wp2_with fail
  refine HF.out.mono ?_
  rintro e w1 ⟨r, rfl, hr, hb1⟩
  have HB1 := Lib.hid hb1
  clear hb1
  cases r with
  | false =>
    clear hr
    go_wp2_with fail
    refine (awake12_any w1).mono ?_
    rintro e w2 ⟨rfl, hb2⟩
    have HB2 : Hid (Below w.heap.size w w2) := HB1.out.trans (hb2.mono HB1.out.size)
    clear hb2
    go_wp2_with fail
    go_ret
    exact ⟨rfl, HB2.out⟩
  | true =>
    have HFI := Lib.hid (hr rfl)
    have hn80 : n ≤ 80 := by have := (hr rfl).1; rw [HO.out.len] at this; omega
    clear hr
    by_cases hbig : 100 < na
    · have : (100 : Int) < (na : Int) := by omega
      go_wp2_with fail
      refine (awake12_any w1).mono ?_
      rintro e w2 ⟨rfl, hb2⟩
      have HB2 : Hid (Below w.heap.size w w2) := HB1.out.trans (hb2.mono HB1.out.size)
      clear hb2
      go_wp2_with fail
      go_ret
      exact ⟨rfl, HB2.out⟩
    · have hsm : ¬ (100 : Int) < (na : Int) := by omega
      by_cases hbig2 : 100 < nb
      · have : (100 : Int) < (nb : Int) := by omega
        go_wp2_with fail
        refine (awake12_any w1).mono ?_
        rintro e w2 ⟨rfl, hb2⟩
        have HB2 : Hid (Below w.heap.size w w2) := HB1.out.trans (hb2.mono HB1.out.size)
        clear hb2
        go_wp2_with fail
        go_ret
        exact ⟨rfl, HB2.out⟩
      · have hsm2 : ¬ (100 : Int) < (nb : Int) := by omega
        have HMD := Lib.hid (made_any A n c L w1 (HO.out.below HB1.out) ⟨by have := HFI.out.1; omega, HFI.out.2⟩)
        have HKAF : Hid (BIn (fun _ => True) w (.slice Aa na ca) ka) := HKA.out.fine (by have := HLA.out; omega)
        have HKBF : Hid (BIn (fun _ => True) w (.slice Ab nb cb) kb) := HKB.out.fine (by have := HLA.out; omega)
        go_wp2_with fail
        refine HMD.out.mono ?_
        rintro e w2 ⟨u, A', c', T, rfl, hI⟩
        have HB2 : Hid (Below w.heap.size w w2) := HB1.out.trans (hI.out.below.mono HB1.out.size)
        have hsz : T.size ≤ 1000 := by have := hI.out.size; omega
        have HLL := Lib.hid T.size_list
        have HASC := Lib.hid hI.out.asc
        have hva := conv_bytes (HKAF.out.below HB2.out)
        have hvb := conv_bytes (HKBF.out.below HB2.out)
        have hg := str_gtr ka kb
        obtain ⟨sa, hsa⟩ : ∃ s, strO ka = s := ⟨_, rfl⟩
        obtain ⟨sb, hsb⟩ : ∃ s, strO kb = s := ⟨_, rfl⟩
        rw [hsa] at hva hg
        rw [hsb] at hvb hg
        have HSa := Lib.hid hsa
        have HSb := Lib.hid hsb
        clear hsa hsb
        by_cases hgt : cmp ka kb = 1
        · rw [decide_eq_false (not_not_intro hgt)] at hg
          have HG : Hid (¬ cmp kb ka = 1) := (by rw [cmp_gt hgt]; decide : ¬ cmp kb ka = 1)
          clear hgt
          have hra := rank_any T (.pointer u) (.slice Ab nb cb) kb w2 hI.out.tin (HKBF.out.below HB2.out) (by omega)
          rw [rank_belowM T kb HASC.out] at hra
          have HRA := Lib.hid hra
          have hmo := below_mono T.list HG.out
          have hle := T.belowT_le (fun k => decide (cmp k ka = -1))
          rw [rank_belowM T ka HASC.out] at hle
          have HBX := Lib.hid (fun j (hj : j < T.list.length) => below_iff HASC.out kb hj)
          have HBY := Lib.hid (fun j (hj : j < T.list.length) => below_iff HASC.out ka hj)
          have hrb := fun W (hW : Below w2.heap.size w2 W) => rank_any T (.pointer u) (.slice Aa na ca) ka W (hI.out.tin.below hW) ((HKAF.out.below HB2.out).below hW) (by omega)
          rw [rank_belowM T ka HASC.out] at hrb
          have HRB := Lib.hid hrb
          generalize belowM T.list kb = NX at *
          generalize belowM T.list ka = NY at *
          clear hra hrb
          have al1 : ¬ (NY : Int) < (NX : Int) := by omega
          have al2 : ¬ (NX : Int) < 0 := by omega
          have al3 : ¬ (T.size : Int) < (NY : Int) := by omega
          go_wp2_with fail
          refine HRA.out.mono ?_
          rintro e w3 ⟨rfl, hb3⟩
          have HI3 : Hid (Both w1 w3 u A' c' T n) := hI.out.on hb3
          have hb23 := hb3
          clear hva hvb hg
          go_wp2_with fail
          refine (HRB.out w3 hb3).mono ?_
          rintro e w4 ⟨rfl, hb4⟩
          have HI4 : Hid (Both w1 w4 u A' c' T n) := HI3.out.on hb4
          have HB4 : Hid (Below w.heap.size w w4) := HB2.out.trans ((hb3.trans (hb4.mono hb3.size)).mono HB2.out.size)
          clear hb3 hb4 hb23 HRA HRB
          have HS4 := Lib.hid (fun W (hW : Below w4.heap.size w4 W) => tsize_any T (.pointer u) W (HI4.out.tin.below hW))
          go_wp2_with fail
          refine (HS4.out w4 (Below.refl _ _)).mono ?_
          rintro e w5 ⟨rfl, rfl⟩
          go_wp2_with fail
          refine (HS4.out w4 (Below.refl _ _)).mono ?_
          rintro e w5 ⟨rfl, rfl⟩
          go_wp2_with fail
          go_loopw [62] (fun v wr => ∃ j : Nat, v = .int .i64 (j : Int) ∧ j ≤ T.size ∧ Hid (Both w1 wr u A' c' T n ∧ Below w4.heap.size w4 wr)) (fun v _ => T.size - (intOf v).toNat)
          case atStart => exact ⟨0, rfl, by omega, Lib.hid ⟨HI4.out, Below.refl _ _⟩⟩
          case round =>
            obtain ⟨j, rfl, hj, hJ⟩ := hrel
            by_cases hlt : j < T.size
            · have HJW : Hid ((Lit.int .i64 (j : Int)).wf = true) := WalkArith.wf_i64 (by omega)
              have HLT : Hid (j < T.list.length) := (by have := HLL.out; omega : j < T.list.length)
              go_wp2_with fail
              refine (at_any T (.pointer u) (j : Int) _ hJ.out.1.tin (by omega) HJW.out).mono ?_
              rintro e w6 hr
              obtain ⟨A1, n1, c1, A2, n2, c2, ok3, rfl, o3, t3, b3⟩ := hr.told
              obtain rfl : ok3 = true := by rw [o3.out]; exact decide_eq_true ⟨by omega, by have := HLT.out; omega⟩
              clear hr
              go_upto_region 13 with fail
              generalize w6.heap.size = g3 at *
              generalize w6.alloc (.cells #[.slice A1 n1 c1, .slice A2 n2 c2] 39) = X at *
              have HIX : Hid (Both w1 X u A' c' T n ∧ Below w4.heap.size w4 X) := ⟨hJ.out.1.on b3.out, hJ.out.2.trans (b3.out.mono hJ.out.2.size)⟩
              have hv := conv_bytes (t3.out.key HLT.out)
              have hBX := HB4.out.trans (HIX.out.2.mono HB4.out.size)
              have hva := conv_bytes (HKBF.out.below hBX)
              have hvb := conv_bytes (HKAF.out.below hBX)
              rw [HSb.out] at hva
              rw [HSa.out] at hvb
              have hX : Op.bytesLess (strO (T.list.getD j ([], [])).1).toList sb.toList = decide (j < NX) := by
                rw [← HSb.out, str_less, decide_eq_decide]; exact HBX.out j HLT.out
              have hY : Op.bytesLess (strO (T.list.getD j ([], [])).1).toList sa.toList = decide (j < NY) := by
                rw [← HSa.out, str_less, decide_eq_decide]; exact HBY.out j HLT.out
              obtain ⟨p0, p1⟩ := t3.out.two.cells
              clear hBX o3 b3
              generalize strO (T.list.getD j ([], [])).1 = sk at *
              by_cases h1 : j < NX
              · have h2 : j < NY := by omega
                rw [decide_eq_true h1] at hX
                rw [decide_eq_true h2] at hY
                have i1 : ¬ (NX : Int) ≤ (j : Int) := by omega
                go_wp2_with fail
                go_roundw
                case rel => exact ⟨j + 1, by go_num, by omega, HIX⟩
                case measure => simp [intOf]; omega
              · rw [decide_eq_false h1] at hX
                have i1 : (NX : Int) ≤ (j : Int) := by omega
                by_cases h2 : j < NY
                · rw [decide_eq_true h2] at hY
                  have i2 : (j : Int) < (NY : Int) := by omega
                  go_wp2_with fail
                  go_roundw
                  case rel => exact ⟨j + 1, by go_num, by omega, HIX⟩
                  case measure => simp [intOf]; omega
                · rw [decide_eq_false h2] at hY
                  have i2 : ¬ (j : Int) < (NY : Int) := by omega
                  go_wp2_with fail
                  go_roundw
                  case rel => exact ⟨j + 1, by go_num, by omega, HIX⟩
                  case measure => simp [intOf]; omega
            · go_wp2_with fail
              refine (awake12_any _).mono ?_
              rintro e w9 ⟨rfl, hb9⟩
              have hBX := HB4.out.trans (hJ.out.2.mono HB4.out.size)
              have HB9 : Hid (Below w.heap.size w w9) := hBX.trans (hb9.mono hBX.size)
              clear hb9 hBX
              go_wp2_with fail
              go_ret
              exact ⟨rfl, HB9.out⟩
        · rw [decide_eq_true hgt] at hg
          have HG : Hid (¬ cmp ka kb = 1) := hgt
          clear hgt
          have hra := rank_any T (.pointer u) (.slice Aa na ca) ka w2 hI.out.tin (HKAF.out.below HB2.out) (by omega)
          rw [rank_belowM T ka HASC.out] at hra
          have HRA := Lib.hid hra
          have hmo := below_mono T.list HG.out
          have hle := T.belowT_le (fun k => decide (cmp k kb = -1))
          rw [rank_belowM T kb HASC.out] at hle
          have HBX := Lib.hid (fun j (hj : j < T.list.length) => below_iff HASC.out ka hj)
          have HBY := Lib.hid (fun j (hj : j < T.list.length) => below_iff HASC.out kb hj)
          have hrb := fun W (hW : Below w2.heap.size w2 W) => rank_any T (.pointer u) (.slice Ab nb cb) kb W (hI.out.tin.below hW) ((HKBF.out.below HB2.out).below hW) (by omega)
          rw [rank_belowM T kb HASC.out] at hrb
          have HRB := Lib.hid hrb
          generalize belowM T.list ka = NX at *
          generalize belowM T.list kb = NY at *
          clear hra hrb
          have al1 : ¬ (NY : Int) < (NX : Int) := by omega
          have al2 : ¬ (NX : Int) < 0 := by omega
          have al3 : ¬ (T.size : Int) < (NY : Int) := by omega
          go_wp2_with fail
          refine HRA.out.mono ?_
          rintro e w3 ⟨rfl, hb3⟩
          have HI3 : Hid (Both w1 w3 u A' c' T n) := hI.out.on hb3
          have hb23 := hb3
          clear hva hvb hg
          go_wp2_with fail
          refine (HRB.out w3 hb3).mono ?_
          rintro e w4 ⟨rfl, hb4⟩
          have HI4 : Hid (Both w1 w4 u A' c' T n) := HI3.out.on hb4
          have HB4 : Hid (Below w.heap.size w w4) := HB2.out.trans ((hb3.trans (hb4.mono hb3.size)).mono HB2.out.size)
          clear hb3 hb4 hb23 HRA HRB
          have HS4 := Lib.hid (fun W (hW : Below w4.heap.size w4 W) => tsize_any T (.pointer u) W (HI4.out.tin.below hW))
          go_wp2_with fail
          refine (HS4.out w4 (Below.refl _ _)).mono ?_
          rintro e w5 ⟨rfl, rfl⟩
          go_wp2_with fail
          refine (HS4.out w4 (Below.refl _ _)).mono ?_
          rintro e w5 ⟨rfl, rfl⟩
          go_wp2_with fail
          go_loopw [62] (fun v wr => ∃ j : Nat, v = .int .i64 (j : Int) ∧ j ≤ T.size ∧ Hid (Both w1 wr u A' c' T n ∧ Below w4.heap.size w4 wr)) (fun v _ => T.size - (intOf v).toNat)
          case atStart => exact ⟨0, rfl, by omega, Lib.hid ⟨HI4.out, Below.refl _ _⟩⟩
          case round =>
            obtain ⟨j, rfl, hj, hJ⟩ := hrel
            by_cases hlt : j < T.size
            · have HJW : Hid ((Lit.int .i64 (j : Int)).wf = true) := WalkArith.wf_i64 (by omega)
              have HLT : Hid (j < T.list.length) := (by have := HLL.out; omega : j < T.list.length)
              go_wp2_with fail
              refine (at_any T (.pointer u) (j : Int) _ hJ.out.1.tin (by omega) HJW.out).mono ?_
              rintro e w6 hr
              obtain ⟨A1, n1, c1, A2, n2, c2, ok3, rfl, o3, t3, b3⟩ := hr.told
              obtain rfl : ok3 = true := by rw [o3.out]; exact decide_eq_true ⟨by omega, by have := HLT.out; omega⟩
              clear hr
              go_upto_region 13 with fail
              generalize w6.heap.size = g3 at *
              generalize w6.alloc (.cells #[.slice A1 n1 c1, .slice A2 n2 c2] 39) = X at *
              have HIX : Hid (Both w1 X u A' c' T n ∧ Below w4.heap.size w4 X) := ⟨hJ.out.1.on b3.out, hJ.out.2.trans (b3.out.mono hJ.out.2.size)⟩
              have hv := conv_bytes (t3.out.key HLT.out)
              have hBX := HB4.out.trans (HIX.out.2.mono HB4.out.size)
              have hva := conv_bytes (HKAF.out.below hBX)
              have hvb := conv_bytes (HKBF.out.below hBX)
              rw [HSa.out] at hva
              rw [HSb.out] at hvb
              have hX : Op.bytesLess (strO (T.list.getD j ([], [])).1).toList sa.toList = decide (j < NX) := by
                rw [← HSa.out, str_less, decide_eq_decide]; exact HBX.out j HLT.out
              have hY : Op.bytesLess (strO (T.list.getD j ([], [])).1).toList sb.toList = decide (j < NY) := by
                rw [← HSb.out, str_less, decide_eq_decide]; exact HBY.out j HLT.out
              obtain ⟨p0, p1⟩ := t3.out.two.cells
              clear hBX o3 b3
              generalize strO (T.list.getD j ([], [])).1 = sk at *
              by_cases h1 : j < NX
              · have h2 : j < NY := by omega
                rw [decide_eq_true h1] at hX
                rw [decide_eq_true h2] at hY
                have i1 : ¬ (NX : Int) ≤ (j : Int) := by omega
                go_wp2_with fail
                go_roundw
                case rel => exact ⟨j + 1, by go_num, by omega, HIX⟩
                case measure => simp [intOf]; omega
              · rw [decide_eq_false h1] at hX
                have i1 : (NX : Int) ≤ (j : Int) := by omega
                by_cases h2 : j < NY
                · rw [decide_eq_true h2] at hY
                  have i2 : (j : Int) < (NY : Int) := by omega
                  go_wp2_with fail
                  go_roundw
                  case rel => exact ⟨j + 1, by go_num, by omega, HIX⟩
                  case measure => simp [intOf]; omega
                · rw [decide_eq_false h2] at hY
                  have i2 : ¬ (j : Int) < (NY : Int) := by omega
                  go_wp2_with fail
                  go_roundw
                  case rel => exact ⟨j + 1, by go_num, by omega, HIX⟩
                  case measure => simp [intOf]; omega
            · go_wp2_with fail
              refine (awake12_any _).mono ?_
              rintro e w9 ⟨rfl, hb9⟩
              have hBX := HB4.out.trans (hJ.out.2.mono HB4.out.size)
              have HB9 : Hid (Below w.heap.size w w9) := hBX.trans (hb9.mono hBX.size)
              clear hb9 hBX
              go_wp2_with fail
              go_ret
              exact ⟨rfl, HB9.out⟩

end Go.Proofs.Ytlnlgahokifolaa
