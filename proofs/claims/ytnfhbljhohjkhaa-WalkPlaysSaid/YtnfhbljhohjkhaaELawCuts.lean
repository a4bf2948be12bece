/- The law SplitCuts. -/
import Derived.Test.YtnfhbljhohjkhaaECutRef
set_option linter.unusedVariables false
set_option linter.unusedSimpArgs false
namespace Go.Proofs.Ytnfhbljhohjkhaa
open Go.RowKit

/-- A stretch as it comes. -/
def SRaw (w : World) (v : Value) (f t : Bytes) (c : Bool) : Prop := ∃ fv tv, v = .agg #[fv, tv, .bool c] ∧ BRaw w fv f ∧ BRaw w tv t

set_option maxRecDepth 100000 in
set_option maxHeartbeats 6400000 in
theorem splitCuts_any (A : Option Addr) (n c : Nat) (L : List (Int × Bytes × Bytes)) (sv : Value) (f t : Bytes) (cl : Bool) (w : World) (h : Ops w A n L) (hs : SRaw w sv f t cl) :
    Calls Try.prog 5 #[.slice A n c, sv] w fun e w' => e = .returned (.bool true) ∧ Below w.heap.size w w' := by
  obtain ⟨fv, tv, rfl, hf, ht⟩ := hs
  obtain ⟨Af, nf, cf, rfl, _, _, h3f⟩ := id hf
  obtain ⟨At, nt, ct, rfl, _, _, h3t⟩ := id ht
  have HLF := Lib.hid h3f.len
  have HLT := Lib.hid h3t.len
  have HC := Lib.hid (Tri.all (T := 42) (w := w) (u := .slice Af nf cf) (v := .slice At nt ct) (x := .bool cl))
  have hb := (Below.refl _ w).alloc (Nat.le_refl _) (.cells #[.slice Af nf cf, .slice At nt ct, .bool cl] 42)
  have HO : Hid (∀ W, Below (w.alloc (.cells #[.slice Af nf cf, .slice At nt ct, .bool cl] 42)).heap.size (w.alloc (.cells #[.slice Af nf cf, .slice At nt ct, .bool cl] 42)) W →
      Below w.heap.size w W ∧ Ops W A n L ∧ BRaw W (.slice Af nf cf) f ∧ BRaw W (.slice At nt ct) t) := fun W hW => by
    have h2 := hb.trans (hW.mono hb.size)
    exact ⟨h2, h.below h2, hf.below h2, ht.below h2⟩
  clear h hf ht h3f h3t hb
  go_enter Try.func5, Try.ntmps5
  go_upto_region 1 with fail
  generalize w.alloc (.cells #[.slice Af nf cf, .slice At nt ct, .bool cl] 42) = X at *
  have HF := Lib.hid (fine_any A n c L 80 X (HO.out X (Below.refl _ _)).2.1 (by omega))
  obtain ⟨b0, b1, b2⟩ := HC.out X (Below.refl _ _)
  go_wp2_with fail
  refine HF.out.mono ?_
  rintro e w1 ⟨r, rfl, hr, hb1⟩
  have HB1 := Lib.hid hb1
  clear hb1 b0 b1 b2
  obtain ⟨b0, b1, b2⟩ := HC.out w1 HB1.out
  have HAW : Hid (∀ W, Below X.heap.size X W → Calls Try.prog 16 #[] W fun e w' => e = .returned (.bool true) ∧ Below w.heap.size w w') := fun W hW =>
    (awake13_any W).mono fun e w' ⟨he, hb⟩ => ⟨he, (HO.out W hW).1.trans (hb.mono (HO.out W hW).1.size)⟩
  cases r with
  | false =>
    clear hr
    go_wp2_with fail
    refine (HAW.out w1 HB1.out).mono ?_
    rintro e w2 ⟨rfl, hb2⟩
    have HB2 := Lib.hid hb2
    clear hb2 b0 b1 b2
    go_wp2_with fail
    go_ret
    exact ⟨rfl, HB2.out⟩
  | true =>
    have HFI := Lib.hid (hr rfl)
    have hn80 : n ≤ 80 := by have h1 := (hr rfl).1; have h2 := (HO.out X (Below.refl _ _)).2.1.len; rw [h2] at h1; omega
    clear hr
    by_cases hbf : 100 < nf
    · have hbz : (100 : Int) < (nf : Int) := by omega
      go_wp2_with fail
      refine (HAW.out w1 HB1.out).mono ?_
      rintro e w2 ⟨rfl, hb2⟩
      have HB2 := Lib.hid hb2
      clear hb2 b0 b1 b2
      go_wp2_with fail
      go_ret
      exact ⟨rfl, HB2.out⟩
    have hsf : ¬ (100 : Int) < (nf : Int) := by omega
    by_cases hbt : 100 < nt
    · have hbz : (100 : Int) < (nt : Int) := by omega
      go_wp2_with fail
      refine (HAW.out w1 HB1.out).mono ?_
      rintro e w2 ⟨rfl, hb2⟩
      have HB2 := Lib.hid hb2
      clear hb2 b0 b1 b2
      go_wp2_with fail
      go_ret
      exact ⟨rfl, HB2.out⟩
    have hst : ¬ (100 : Int) < (nt : Int) := by omega
    have HSP : Hid (∀ W, Below X.heap.size X W → SIn (fun _ => True) W (.agg #[.slice Af nf cf, .slice At nt ct, .bool cl]) f t cl) := fun W hW =>
      ⟨_, _, rfl, (HO.out W hW).2.2.1.fine (by have := HLF.out; omega), (HO.out W hW).2.2.2.fine (by have := HLT.out; omega)⟩
    have HMD := Lib.hid (made13_any A n c L w1 (HO.out w1 HB1.out).2.1 ⟨by have := HFI.out.1; omega, HFI.out.2⟩)
    clear hbf hbt
    go_wp2_with fail
    refine HMD.out.mono ?_
    rintro e w2 ⟨u, A', c', T, rfl, hI⟩
    have HB2 : Hid (Below X.heap.size X w2) := HB1.out.trans (hI.out.below.mono HB1.out.size)
    have hsz : T.size ≤ 80 := by have := hI.out.size; omega
    have HLL := Lib.hid T.size_list
    have hll : T.list.length ≤ 80 := by have := HLL.out; omega
    have HKY : Hid (T.even ∧ Asc T.list ∧ (∀ p ∈ T.list, p.1.length ≤ 100000)) := ⟨hI.out.even, hI.out.asc, hI.out.keys⟩
    have HT2 : Hid (∀ W, Below w2.heap.size w2 W → TIn (fun _ => True) W (.pointer u) T ∧ MIn (fun _ => True) W A' T.list.length T.list ∧ Below X.heap.size X W) := fun W hW => ⟨hI.out.tin.below hW, hI.out.min.below hW, HB2.out.trans (hW.mono HB2.out.size)⟩
    clear b0 b1 b2 HMD hI
    obtain ⟨b0, b1, b2⟩ := HC.out w2 HB2.out
    have HR := Lib.hid (ref_any (.agg #[.slice Af nf cf, .slice At nt ct, .bool cl]) f t cl w2 (HSP.out w2 HB2.out))
    go_wp2_with fail
    refine HR.out.mono ?_
    rintro e w3 ⟨rfl, hb3⟩
    have B3 : Hid (Below w2.heap.size w2 w3) := hb3
    clear b0 b1 b2 hb3
    obtain ⟨b0, b1, b2⟩ := HC.out w3 (HT2.out w3 B3.out).2.2
    have HM := mcut_any T.list A' T.list.length c' (strO f) (strO t) cl true w3 (HT2.out w3 B3.out).2.1 (by omega) HKY.out.2.2
    rw [strL_strO, strL_strO] at HM
    have HM2 := Lib.hid HM
    clear HM
    go_wp2_with fail
    refine HM2.out.mono ?_
    rintro e w4 ⟨A4, c4, rfl, h41, h42, h43⟩
    have B4 : Hid (Below w2.heap.size w2 w4) := B3.out.trans (h43.mono B3.out.size)
    have HM4 : Hid (∀ W, Below w4.heap.size w4 W → MIn (fun _ => True) W A4 (cutM T.list f t cl true).length (cutM T.list f t cl true)) := fun W hW => (h42.imp (fun _ _ _ => trivial)).below hW
    have HCL : Hid ((cutM T.list f t cl true).length ≤ 80 ∧ (cutM T.list f t cl false).length ≤ 80) := ⟨Nat.le_trans (cutM_len _ _ _ _ _) hll, Nat.le_trans (cutM_len _ _ _ _ _) hll⟩
    clear b0 b1 b2 h41 h42 h43 HM2
    have HCC : Hid (∀ W, Below w4.heap.size w4 W → W.cell? ⟨w.heap.size, 0, none⟩ = some (.slice Af nf cf) ∧ W.cell? ⟨w.heap.size, 1, none⟩ = some (.slice At nt ct) ∧ W.cell? ⟨w.heap.size, 2, none⟩ = some (.bool cl)) := fun W hW => HC.out W (HT2.out W (B4.out.trans (hW.mono B4.out.size))).2.2
    have HSS : Hid (∀ W, Below w4.heap.size w4 W → SIn (fun _ => True) W (.agg #[.slice Af nf cf, .slice At nt ct, .bool cl]) f t cl ∧ TIn (fun _ => True) W (.pointer u) T ∧ MIn (fun _ => True) W A' T.list.length T.list) := fun W hW => by
      have h2 := HT2.out W (B4.out.trans (hW.mono B4.out.size))
      exact ⟨HSP.out W h2.2.2, h2.1, h2.2.1⟩
    have HFIN : Hid (∀ W, Below w4.heap.size w4 W → Below X.heap.size X W) := fun W hW => (HT2.out W (B4.out.trans (hW.mono B4.out.size))).2.2
    have hlen4 : ((cutM T.list f t cl true).length : Int) ≤ 80 := by have := HCL.out.1; omega
    go_upto_region 5 with fail
    go_region_held3 (fun w' => w'.cell? ⟨w.heap.size, 0, none⟩ = some (.slice Af nf cf) ∧ w'.cell? ⟨w.heap.size, 1, none⟩ = some (.slice At nt ct) ∧ w'.cell? ⟨w.heap.size, 2, none⟩ = some (.bool cl))
      (first | with_reducible exact HCC.out _ (below_drew2 (Below.refl _ _)) | with_reducible exact HCC.out _ D5.out | with_reducible exact HCC.out _ D6.out | with_reducible exact HCC.out _ D7.out | with_reducible exact HCC.out _ D8.out | with_reducible exact HCC.out _ D9.out | with_reducible exact HCC.out _ D10.out | with_reducible exact HCC.out _ D11.out | with_reducible exact HCC.out _ D12.out | with_reducible exact HCC.out _ D13.out)
      (first
        | (go_at_call 26; (with_reducible refine (scut_any (S := fun _ => True) (S' := fun _ => True) T (.pointer u) (.agg #[.slice Af nf cf, .slice At nt ct, .bool cl]) f t cl _ (HSS.out _ (below_drew2 (Below.refl _ _))).2.1 (HSS.out _ (below_drew2 (Below.refl _ _))).1 HKY.out.1 HKY.out.2.1 (by omega)).mono ?_); rintro e w5 ⟨u5, T5, rfl, H5⟩
           have D5 : Hid (Below w4.heap.size w4 w5) := below_drew1 H5.out.2.2.2
           have HI5 := Lib.hid (isT_any T5 (.pointer u5) A4 c4 (cutM T.list f t cl true) w5 H5.out.2.2.1 H5.out.2.1 (by rw [H5.out.1]; exact cutM_asc _ _ _ _ HKY.out.2.1) (HM4.out w5 D5.out) H5.out.1 (by have h1 := PT.size_of H5.out.1; have h2 := HCL.out.1; omega)))
        | (go_at_call 20; (with_reducible refine HI5.out.mono ?_); rintro e w6 ⟨rfl, hb6⟩
           have D6 : Hid (Below w4.heap.size w4 w6) := D5.out.trans (hb6.mono D5.out.size)
           clear hb6
           have HO6 := Lib.hid (sout_any (S := fun _ => True) (S' := fun _ => True) T (.pointer u) (.agg #[.slice Af nf cf, .slice At nt ct, .bool cl]) f t cl w6 (HSS.out _ D6.out).2.1 (HSS.out _ D6.out).1 HKY.out.1 HKY.out.2.1 (by omega)))
        | (go_at_call 27; (with_reducible refine HO6.out.mono ?_); rintro e w7 ⟨u7, T7, rfl, H7⟩
           have D7 : Hid (Below w4.heap.size w4 w7) := D6.out.trans (H7.out.2.2.2.mono D6.out.size)
           have HR7 := Lib.hid (ref_any (.agg #[.slice Af nf cf, .slice At nt ct, .bool cl]) f t cl w7 (HSS.out w7 D7.out).1))
        | (go_at_call 25; (with_reducible refine HR7.out.mono ?_); rintro e w8 ⟨rfl, hb8⟩
           have D8 : Hid (Below w4.heap.size w4 w8) := D7.out.trans (hb8.mono D7.out.size)
           have D78 : Hid (Below w7.heap.size w7 w8) := hb8
           clear hb8
           have hm8 := mcut_any T.list A' T.list.length c' (strO f) (strO t) cl false w8 (HSS.out w8 D8.out).2.2 (by omega) HKY.out.2.2
           rw [strL_strO, strL_strO] at hm8
           have HM8 := Lib.hid hm8
           clear hm8)
        | (go_at_call 24; (with_reducible refine HM8.out.mono ?_); rintro e w9 ⟨A9, c9, rfl, h91, h92, h93⟩
           have D9 : Hid (Below w4.heap.size w4 w9) := D8.out.trans (h93.mono D8.out.size)
           have D79 : Hid (Below w7.heap.size w7 w9) := D78.out.trans (h93.mono D78.out.size)
           have HI9 := Lib.hid (isT_any T7 (.pointer u7) A9 c9 (cutM T.list f t cl false) w9 (H7.out.2.2.1.below D79.out) H7.out.2.1 (by rw [H7.out.1]; exact cutM_asc _ _ _ _ HKY.out.2.1) h92 H7.out.1 (by have h1 := PT.size_of H7.out.1; have h2 := HCL.out.2; omega))
           clear h91 h92 h93)
        | (go_at_call 20; (with_reducible refine HI9.out.mono ?_); rintro e w10 ⟨rfl, hb10⟩
           have D10 : Hid (Below w4.heap.size w4 w10) := D9.out.trans (hb10.mono D9.out.size)
           clear hb10
           have HC10 := Lib.hid (scount_any (S := fun _ => True) (S' := fun _ => True) T (.pointer u) (.agg #[.slice Af nf cf, .slice At nt ct, .bool cl]) f t cl w10 (HSS.out _ D10.out).2.1 (HSS.out _ D10.out).1 HKY.out.2.1 (by omega)))
        | (go_at_call 28; (with_reducible refine HC10.out.mono ?_); rintro e w11 ⟨rfl, hb11⟩
           have D11 : Hid (Below w4.heap.size w4 w11) := D10.out.trans (hb11.mono D10.out.size)
           clear hb11
           have HI11 := Lib.hid (isT_any T (.pointer u) A' c' T.list w11 (HSS.out w11 D11.out).2.1 HKY.out.1 HKY.out.2.1 (HSS.out w11 D11.out).2.2 rfl (by omega)))
        | (go_at_call 20; (with_reducible refine HI11.out.mono ?_); rintro e w12 ⟨rfl, hb12⟩
           have D12 : Hid (Below w4.heap.size w4 w12) := D11.out.trans (hb12.mono D11.out.size)
           clear hb12)
        | (go_at_call 16; (with_reducible refine (awake13_any w12).mono ?_); rintro e w13 ⟨rfl, hb13⟩
           have D13 : Hid (Below w4.heap.size w4 w13) := D12.out.trans (hb13.mono D12.out.size)
           have HB13 : Hid (Below w.heap.size w w13) := (HO.out w13 (HFIN.out w13 D13.out)).1
           clear hb13))
    go_wp2_with fail
    go_ret
    exact ⟨rfl, HB13.out⟩

end Go.Proofs.Ytnfhbljhohjkhaa
