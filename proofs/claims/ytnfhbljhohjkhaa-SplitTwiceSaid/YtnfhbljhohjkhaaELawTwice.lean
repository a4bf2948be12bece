/- The law SplitTwice. -/
import Derived.Test.YtnfhbljhohjkhaaESpanOpen
set_option linter.unusedVariables false
set_option linter.unusedSimpArgs false
namespace Go.Proofs.Ytnfhbljhohjkhaa
open Go.RowKit

set_option maxRecDepth 100000 in
set_option maxHeartbeats 6400000 in
theorem splitTwice_any (A : Option Addr) (n c : Nat) (L : List (Int × Bytes × Bytes)) (sv uv : Value) (f t g z : Bytes) (cl cm : Bool) (w : World) (h : Ops w A n L) (hs : SRaw w sv f t cl) (hu : SRaw w uv g z cm) :
    Calls Try.prog 6 #[.slice A n c, sv, uv] w fun e w' => e = .returned (.bool true) ∧ Below w.heap.size w w' := by
  obtain ⟨fv, tv, rfl, hf, ht⟩ := hs
  obtain ⟨gv, zv, rfl, hg, hz⟩ := hu
  obtain ⟨Af, nf, cf, rfl, _, _, h3f⟩ := id hf
  obtain ⟨At, nt, ct, rfl, _, _, h3t⟩ := id ht
  obtain ⟨Ag, ng, cg, rfl, _, _, h3g⟩ := id hg
  obtain ⟨Au, nu, cu, rfl, _, _, h3z⟩ := id hz
  have HLN : Hid (f.length = nf ∧ t.length = nt ∧ g.length = ng ∧ z.length = nu) := ⟨h3f.len, h3t.len, h3g.len, h3z.len⟩
  have hb : Below w.heap.size w ((w.alloc (.cells #[.slice Af nf cf, .slice At nt ct, .bool cl] 42)).alloc (.cells #[.slice Ag ng cg, .slice Au nu cu, .bool cm] 42)) := ((Below.refl _ w).alloc (Nat.le_refl _) _).alloc (by simp) _
  have HC : Hid (∀ W, Below ((w.alloc (.cells #[.slice Af nf cf, .slice At nt ct, .bool cl] 42)).alloc (.cells #[.slice Ag ng cg, .slice Au nu cu, .bool cm] 42)).heap.size ((w.alloc (.cells #[.slice Af nf cf, .slice At nt ct, .bool cl] 42)).alloc (.cells #[.slice Ag ng cg, .slice Au nu cu, .bool cm] 42)) W → (W.cell? ⟨w.heap.size, 0, none⟩ = some (.slice Af nf cf) ∧ W.cell? ⟨w.heap.size, 1, none⟩ = some (.slice At nt ct) ∧ W.cell? ⟨w.heap.size, 2, none⟩ = some (.bool cl)) ∧ W.cell? ⟨w.heap.size + 1, 0, none⟩ = some (.slice Ag ng cg) ∧ W.cell? ⟨w.heap.size + 1, 1, none⟩ = some (.slice Au nu cu) ∧ W.cell? ⟨w.heap.size + 1, 2, none⟩ = some (.bool cm)) := fun W hW => by
    have e0 : Tri 42 ((w.alloc (.cells #[.slice Af nf cf, .slice At nt ct, .bool cl] 42)).alloc (.cells #[.slice Ag ng cg, .slice Au nu cu, .bool cm] 42)) w.heap.size (.slice Af nf cf) (.slice At nt ct) (.bool cl) := heap_old _ (heap_new w _)
    have e1 : Tri 42 ((w.alloc (.cells #[.slice Af nf cf, .slice At nt ct, .bool cl] 42)).alloc (.cells #[.slice Ag ng cg, .slice Au nu cu, .bool cm] 42)) (w.heap.size + 1) (.slice Ag ng cg) (.slice Au nu cu) (.bool cm) := by
      have := heap_new (w.alloc (.cells #[.slice Af nf cf, .slice At nt ct, .bool cl] 42)) (.cells #[.slice Ag ng cg, .slice Au nu cu, .bool cm] 42)
      rw [World.size_alloc] at this
      exact this
    exact ⟨(e0.below hW e0.lt).cells, (e1.below hW e1.lt).cells⟩
  have HO : Hid (∀ W, Below ((w.alloc (.cells #[.slice Af nf cf, .slice At nt ct, .bool cl] 42)).alloc (.cells #[.slice Ag ng cg, .slice Au nu cu, .bool cm] 42)).heap.size ((w.alloc (.cells #[.slice Af nf cf, .slice At nt ct, .bool cl] 42)).alloc (.cells #[.slice Ag ng cg, .slice Au nu cu, .bool cm] 42)) W → Below w.heap.size w W ∧ Ops W A n L ∧ BRaw W (.slice Af nf cf) f ∧ BRaw W (.slice At nt ct) t ∧ BRaw W (.slice Ag ng cg) g ∧ BRaw W (.slice Au nu cu) z) := fun W hW => by
    have h2 := hb.trans (hW.mono hb.size)
    exact ⟨h2, h.below h2, hf.below h2, ht.below h2, hg.below h2, hz.below h2⟩
  clear h hf ht hg hz h3f h3t h3g h3z hb
  go_enter Try.func6, Try.ntmps6
  go_upto_region 1 with fail
  generalize ((w.alloc (.cells #[.slice Af nf cf, .slice At nt ct, .bool cl] 42)).alloc (.cells #[.slice Ag ng cg, .slice Au nu cu, .bool cm] 42)) = X at *
  have HF := Lib.hid (fine_any A n c L 60 X (HO.out X (Below.refl _ _)).2.1 (by omega))
  obtain ⟨⟨b0, b1, b2⟩, b3, b4, b5⟩ := HC.out X (Below.refl _ _)
  go_wp2_with fail
  refine HF.out.mono ?_
  rintro e w1 ⟨r, rfl, hr, hb1⟩
  have HB1 := Lib.hid hb1
  clear hb1 b0 b1 b2 b3 b4 b5
  obtain ⟨⟨b0, b1, b2⟩, b3, b4, b5⟩ := HC.out w1 HB1.out
  have HAW : Hid (∀ W, Below X.heap.size X W → Calls Try.prog 16 #[] W fun e w' => e = .returned (.bool true) ∧ Below w.heap.size w w') := fun W hW =>
    (awake13_any W).mono fun e w' ⟨he, hb⟩ => ⟨he, (HO.out W hW).1.trans (hb.mono (HO.out W hW).1.size)⟩
  cases r with
  | false =>
    clear hr
    go_wp2_with fail
    refine (HAW.out w1 HB1.out).mono ?_
    rintro e wz ⟨rfl, hbz⟩
    have HBZ := Lib.hid hbz
    clear hbz b0 b1 b2 b3 b4 b5
    go_wp2_with fail
    go_ret
    exact ⟨rfl, HBZ.out⟩
  | true =>
    have HFI := Lib.hid (hr rfl)
    have hn80 : n ≤ 60 := by have h1 := (hr rfl).1; have h2 := (HO.out X (Below.refl _ _)).2.1.len; rw [h2] at h1; omega
    clear hr
    by_cases hb_nf : 100 < nf
    · have hbz : (100 : Int) < (nf : Int) := by omega
      go_wp2_with fail
      refine (HAW.out w1 HB1.out).mono ?_
      rintro e wz ⟨rfl, hbz⟩
      have HBZ := Lib.hid hbz
      clear hbz b0 b1 b2 b3 b4 b5
      go_wp2_with fail
      go_ret
      exact ⟨rfl, HBZ.out⟩
    have hs_nf : ¬ (100 : Int) < (nf : Int) := by omega
    by_cases hb_nt : 100 < nt
    · have hbz : (100 : Int) < (nt : Int) := by omega
      go_wp2_with fail
      refine (HAW.out w1 HB1.out).mono ?_
      rintro e wz ⟨rfl, hbz⟩
      have HBZ := Lib.hid hbz
      clear hbz b0 b1 b2 b3 b4 b5
      go_wp2_with fail
      go_ret
      exact ⟨rfl, HBZ.out⟩
    have hs_nt : ¬ (100 : Int) < (nt : Int) := by omega
    by_cases hb_ng : 100 < ng
    · have hbz : (100 : Int) < (ng : Int) := by omega
      go_wp2_with fail
      refine (HAW.out w1 HB1.out).mono ?_
      rintro e wz ⟨rfl, hbz⟩
      have HBZ := Lib.hid hbz
      clear hbz b0 b1 b2 b3 b4 b5
      go_wp2_with fail
      go_ret
      exact ⟨rfl, HBZ.out⟩
    have hs_ng : ¬ (100 : Int) < (ng : Int) := by omega
    by_cases hb_nu : 100 < nu
    · have hbz : (100 : Int) < (nu : Int) := by omega
      go_wp2_with fail
      refine (HAW.out w1 HB1.out).mono ?_
      rintro e wz ⟨rfl, hbz⟩
      have HBZ := Lib.hid hbz
      clear hbz b0 b1 b2 b3 b4 b5
      go_wp2_with fail
      go_ret
      exact ⟨rfl, HBZ.out⟩
    have hs_nu : ¬ (100 : Int) < (nu : Int) := by omega
    have HSP : Hid (∀ W, Below X.heap.size X W → SIn (fun _ => True) W (.agg #[.slice Af nf cf, .slice At nt ct, .bool cl]) f t cl ∧ SIn (fun _ => True) W (.agg #[.slice Ag ng cg, .slice Au nu cu, .bool cm]) g z cm) := fun W hW =>
      ⟨⟨_, _, rfl, (HO.out W hW).2.2.1.fine (by have := HLN.out; omega), (HO.out W hW).2.2.2.1.fine (by have := HLN.out; omega)⟩, ⟨_, _, rfl, (HO.out W hW).2.2.2.2.1.fine (by have := HLN.out; omega), (HO.out W hW).2.2.2.2.2.fine (by have := HLN.out; omega)⟩⟩
    have HMD := Lib.hid (made13_any A n c L w1 (HO.out w1 HB1.out).2.1 ⟨by have := HFI.out.1; omega, HFI.out.2⟩)
    clear hb_nf hb_nt hb_ng hb_nu
    go_wp2_with fail
    refine HMD.out.mono ?_
    rintro e w2 ⟨u, A', c', T, rfl, hI⟩
    have HB2 : Hid (Below X.heap.size X w2) := HB1.out.trans (hI.out.below.mono HB1.out.size)
    have hsz : T.size ≤ 60 := by have := hI.out.size; omega
    have HLL := Lib.hid T.size_list
    have hll : T.list.length ≤ 60 := by have := HLL.out; omega
    have HKY : Hid (T.even ∧ Asc T.list ∧ (∀ p ∈ T.list, p.1.length ≤ 100000)) := ⟨hI.out.even, hI.out.asc, hI.out.keys⟩
    have HT2 : Hid (∀ W, Below w2.heap.size w2 W → TIn (fun _ => True) W (.pointer u) T ∧ MIn (fun _ => True) W A' T.list.length T.list ∧ SIn (fun _ => True) W (.agg #[.slice Af nf cf, .slice At nt ct, .bool cl]) f t cl ∧ SIn (fun _ => True) W (.agg #[.slice Ag ng cg, .slice Au nu cu, .bool cm]) g z cm ∧ Below X.heap.size X W) := fun W hW => by
      have h2 := HB2.out.trans (hW.mono HB2.out.size)
      exact ⟨hI.out.tin.below hW, hI.out.min.below hW, (HSP.out W h2).1, (HSP.out W h2).2, h2⟩
    have HCC : Hid (∀ W, Below w2.heap.size w2 W → (W.cell? ⟨w.heap.size, 0, none⟩ = some (.slice Af nf cf) ∧ W.cell? ⟨w.heap.size, 1, none⟩ = some (.slice At nt ct) ∧ W.cell? ⟨w.heap.size, 2, none⟩ = some (.bool cl)) ∧ W.cell? ⟨w.heap.size + 1, 0, none⟩ = some (.slice Ag ng cg) ∧ W.cell? ⟨w.heap.size + 1, 1, none⟩ = some (.slice Au nu cu) ∧ W.cell? ⟨w.heap.size + 1, 2, none⟩ = some (.bool cm)) := fun W hW => HC.out W (HB2.out.trans (hW.mono HB2.out.size))
    have HLEN : Hid ((cutM T.list f t cl true).length ≤ 60 ∧ (cutM T.list g z cm true).length ≤ 60 ∧ (cutM (cutM T.list f t cl true) g z cm true).length ≤ 60 ∧ (cutM (cutM T.list f t cl true) g z cm false).length ≤ 60) := by
      have h1 := cutM_len T.list f t cl true
      have h2 := cutM_len T.list g z cm true
      have h3 := cutM_len (cutM T.list f t cl true) g z cm true
      have h4 := cutM_len (cutM T.list f t cl true) g z cm false
      exact (⟨by omega, by omega, by omega, by omega⟩ : (cutM T.list f t cl true).length ≤ 60 ∧ (cutM T.list g z cm true).length ≤ 60 ∧ (cutM (cutM T.list f t cl true) g z cm true).length ≤ 60 ∧ (cutM (cutM T.list f t cl true) g z cm false).length ≤ 60)
    have HAS : Hid (Asc (cutM T.list f t cl true) ∧ Asc (cutM T.list g z cm true) ∧ Asc (cutM (cutM T.list f t cl true) g z cm true) ∧ Asc (cutM (cutM T.list f t cl true) g z cm false) ∧ ∀ p ∈ (cutM T.list f t cl true), p.1.length ≤ 100000) := ⟨cutM_asc _ _ _ _ HKY.out.2.1, cutM_asc _ _ _ _ HKY.out.2.1, cutM_asc _ _ _ _ (cutM_asc _ _ _ _ HKY.out.2.1), cutM_asc _ _ _ _ (cutM_asc _ _ _ _ HKY.out.2.1), cutM_keys _ _ _ _ HKY.out.2.2⟩
    clear b0 b1 b2 b3 b4 b5 HMD hI
    go_upto_region 4 with fail
    go_region_held3 (fun w' => (w'.cell? ⟨w.heap.size, 0, none⟩ = some (.slice Af nf cf) ∧ w'.cell? ⟨w.heap.size, 1, none⟩ = some (.slice At nt ct) ∧ w'.cell? ⟨w.heap.size, 2, none⟩ = some (.bool cl)) ∧ w'.cell? ⟨w.heap.size + 1, 0, none⟩ = some (.slice Ag ng cg) ∧ w'.cell? ⟨w.heap.size + 1, 1, none⟩ = some (.slice Au nu cu) ∧ w'.cell? ⟨w.heap.size + 1, 2, none⟩ = some (.bool cm))
      (first | with_reducible exact HCC.out _ (below_drew2 (Below.refl _ _)) | with_reducible exact HCC.out _ D3.out | with_reducible exact HCC.out _ D4.out | with_reducible exact HCC.out _ D5.out | with_reducible exact HCC.out _ D6.out)
      (first
        | (go_at_call 25; (with_reducible refine (ref_any (S := fun _ => True) (.agg #[.slice Af nf cf, .slice At nt ct, .bool cl]) f t cl _ (HT2.out _ (below_drew2 (Below.refl _ _))).2.2.1).mono ?_); rintro e w3 ⟨rfl, hb3⟩
           have D3 : Hid (Below w2.heap.size w2 w3) := below_drew1 hb3
           clear hb3
           have hm3 := mcut_any T.list A' T.list.length c' (strO f) (strO t) cl true w3 (HT2.out w3 D3.out).2.1 (by omega) HKY.out.2.2
           rw [strL_strO, strL_strO] at hm3
           have HM3 := Lib.hid hm3
           clear hm3)
        | (go_at_call 24; (with_reducible refine HM3.out.mono ?_); rintro e w4 ⟨A4, c4, rfl, h41, h42, h43⟩
           have D4 : Hid (Below w2.heap.size w2 w4) := D3.out.trans (h43.mono D3.out.size)
           have HR4 := Lib.hid (ref_any (S := fun _ => True) (.agg #[.slice Ag ng cg, .slice Au nu cu, .bool cm]) g z cm w4 (HT2.out w4 D4.out).2.2.2.1)
           have K4 := Lib.hid h42
           clear h41 h42 h43)
        | (go_at_call 25; (with_reducible refine HR4.out.mono ?_); rintro e w5 ⟨rfl, hb5⟩
           have D5 : Hid (Below w2.heap.size w2 w5) := D4.out.trans (hb5.mono D4.out.size)
           have hm5 := mcut_any (cutM T.list f t cl true) A4 (cutM T.list f t cl true).length c4 (strO g) (strO z) cm true w5 (K4.out.below hb5) (by have := HLEN.out.1; omega) HAS.out.2.2.2.2
           rw [strL_strO, strL_strO] at hm5
           have HM5 := Lib.hid hm5
           clear hm5 hb5)
        | (go_at_call 24; (with_reducible refine HM5.out.mono ?_); rintro e w6 ⟨A6, c6, rfl, h61, h62, h63⟩
           have D6 : Hid (Below w2.heap.size w2 w6) := D5.out.trans (h63.mono D5.out.size)
           have HM6 : Hid (∀ W, Below w6.heap.size w6 W → MIn (fun _ => True) W A6 (cutM (cutM T.list f t cl true) g z cm true).length (cutM (cutM T.list f t cl true) g z cm true)) := fun W hW => (h62.imp (fun _ _ _ => trivial)).below hW
           clear h61 h62 h63))
    have HT6 : Hid (∀ W, Below w6.heap.size w6 W → TIn (fun _ => True) W (.pointer u) T ∧ SIn (fun _ => True) W (.agg #[.slice Af nf cf, .slice At nt ct, .bool cl]) f t cl ∧ SIn (fun _ => True) W (.agg #[.slice Ag ng cg, .slice Au nu cu, .bool cm]) g z cm ∧ Below w2.heap.size w2 W) := fun W hW => by
      have h2 := D6.out.trans (hW.mono D6.out.size)
      exact ⟨(HT2.out W h2).1, (HT2.out W h2).2.2.1, (HT2.out W h2).2.2.2.1, h2⟩
    have HCC6 : Hid (∀ W, Below w6.heap.size w6 W → (W.cell? ⟨w.heap.size, 0, none⟩ = some (.slice Af nf cf) ∧ W.cell? ⟨w.heap.size, 1, none⟩ = some (.slice At nt ct) ∧ W.cell? ⟨w.heap.size, 2, none⟩ = some (.bool cl)) ∧ W.cell? ⟨w.heap.size + 1, 0, none⟩ = some (.slice Ag ng cg) ∧ W.cell? ⟨w.heap.size + 1, 1, none⟩ = some (.slice Au nu cu) ∧ W.cell? ⟨w.heap.size + 1, 2, none⟩ = some (.bool cm)) := fun W hW => HCC.out W (HT6.out W hW).2.2.2
    clear HCC
    have HCC := HCC6
    have hl6 : ((cutM (cutM T.list f t cl true) g z cm true).length : Int) ≤ 60 := by have := HLEN.out.2.2.1; omega
    go_upto_region 5 with fail
    go_region_held3 (fun w' => (w'.cell? ⟨w.heap.size, 0, none⟩ = some (.slice Af nf cf) ∧ w'.cell? ⟨w.heap.size, 1, none⟩ = some (.slice At nt ct) ∧ w'.cell? ⟨w.heap.size, 2, none⟩ = some (.bool cl)) ∧ w'.cell? ⟨w.heap.size + 1, 0, none⟩ = some (.slice Ag ng cg) ∧ w'.cell? ⟨w.heap.size + 1, 1, none⟩ = some (.slice Au nu cu) ∧ w'.cell? ⟨w.heap.size + 1, 2, none⟩ = some (.bool cm))
      (first | with_reducible exact HCC.out _ (below_drew2 (Below.refl _ _)) | with_reducible exact HCC.out _ E7.out | with_reducible exact HCC.out _ E8.out | with_reducible exact HCC.out _ E9.out | with_reducible exact HCC.out _ E10.out)
      (first
        | (go_at_call 26; (with_reducible refine (scut_any (S := fun _ => True) (S' := fun _ => True) T (.pointer u) (.agg #[.slice Af nf cf, .slice At nt ct, .bool cl]) f t cl _ (HT6.out _ (below_drew2 (Below.refl _ _))).1 (HT6.out _ (below_drew2 (Below.refl _ _))).2.1 HKY.out.1 HKY.out.2.1 (by omega)).mono ?_); rintro e w7 ⟨u7, T7, rfl, H7⟩
           have E7 : Hid (Below w6.heap.size w6 w7) := below_drew1 H7.out.2.2.2
           have z7 : T7.size ≤ 60 := by have h1 := PT.size_of H7.out.1; have h2 := HLEN.out.1; omega
           have HU7 := Lib.hid (scut_any (S := fun _ => True) (S' := fun _ => True) T7 (.pointer u7) (.agg #[.slice Ag ng cg, .slice Au nu cu, .bool cm]) g z cm w7 (H7.out.2.2.1.imp (fun _ _ _ => trivial)) (HT6.out w7 E7.out).2.2.1 H7.out.2.1 (by rw [H7.out.1]; exact HAS.out.1) (by omega)))
        | (go_at_call 26; (with_reducible refine HU7.out.mono ?_); rintro e w8 ⟨u8, T8, rfl, H8⟩
           have E8 : Hid (Below w6.heap.size w6 w8) := E7.out.trans (H8.out.2.2.2.mono E7.out.size)
           have hq8 : T8.list = (cutM (cutM T.list f t cl true) g z cm true) := by rw [H8.out.1, H7.out.1]
           have Q8 := Lib.hid hq8
           have T8I : Hid (∀ W, Below w8.heap.size w8 W → TIn (fun _ => True) W (.pointer u8) T8) := fun W hW => (H8.out.2.2.1.imp (fun _ _ _ => trivial)).below hW
           clear hq8
           have HU8 := Lib.hid (scut_any (S := fun _ => True) (S' := fun _ => True) T (.pointer u) (.agg #[.slice Ag ng cg, .slice Au nu cu, .bool cm]) g z cm w8 (HT6.out w8 E8.out).1 (HT6.out w8 E8.out).2.2.1 HKY.out.1 HKY.out.2.1 (by omega)))
        | (go_at_call 26; (with_reducible refine HU8.out.mono ?_); rintro e w9 ⟨u9, T9, rfl, H9⟩
           have E9 : Hid (Below w6.heap.size w6 w9) := E8.out.trans (H9.out.2.2.2.mono E8.out.size)
           have z9 : T9.size ≤ 60 := by have h1 := PT.size_of H9.out.1; have h2 := HLEN.out.2.1; omega
           have G9 : Hid (Below w8.heap.size w8 w9) := H9.out.2.2.2
           have HU9 := Lib.hid (scut_any (S := fun _ => True) (S' := fun _ => True) T9 (.pointer u9) (.agg #[.slice Af nf cf, .slice At nt ct, .bool cl]) f t cl w9 (H9.out.2.2.1.imp (fun _ _ _ => trivial)) (HT6.out w9 E9.out).2.1 H9.out.2.1 (by rw [H9.out.1]; exact HAS.out.2.1) (by omega)))
        | (go_at_call 26; (with_reducible refine HU9.out.mono ?_); rintro e w10 ⟨u10, T10, rfl, H10⟩
           have E10 : Hid (Below w6.heap.size w6 w10) := E9.out.trans (H10.out.2.2.2.mono E9.out.size)
           have hq10 : T10.list = (cutM (cutM T.list f t cl true) g z cm true) := by rw [H10.out.1, H9.out.1, cut_turn]
           have Q10 := Lib.hid hq10
           have T10I : Hid (∀ W, Below w10.heap.size w10 W → TIn (fun _ => True) W (.pointer u10) T10) := fun W hW => (H10.out.2.2.1.imp (fun _ _ _ => trivial)).below hW
           clear hq10
           have G10 : Hid (Below w8.heap.size w8 w10) := G9.out.trans (H10.out.2.2.2.mono G9.out.size)))
    have HI8 := Lib.hid (isT_any T8 (.pointer u8) A6 c6 (cutM (cutM T.list f t cl true) g z cm true) w10 (T8I.out w10 G10.out) H8.out.2.1 (by rw [Q8.out]; exact HAS.out.2.2.1) (HM6.out w10 E10.out) Q8.out (by have h1 := PT.size_of Q8.out; have h2 := HLEN.out.2.2.1; omega))
    go_wp2_with fail
    refine HI8.out.mono ?_
    rintro e w11 ⟨rfl, hb11⟩
    have E11 : Hid (Below w6.heap.size w6 w11) := E10.out.trans (hb11.mono E10.out.size)
    have HI10 := Lib.hid (isT_any T10 (.pointer u10) A6 c6 (cutM (cutM T.list f t cl true) g z cm true) w11 (T10I.out w11 hb11) H10.out.2.1 (by rw [Q10.out]; exact HAS.out.2.2.1) (HM6.out w11 E11.out) Q10.out (by have h1 := PT.size_of Q10.out; have h2 := HLEN.out.2.2.1; omega))
    clear hb11
    go_wp2_with fail
    refine HI10.out.mono ?_
    rintro e w12 ⟨rfl, hb12⟩
    have E12 : Hid (Below w6.heap.size w6 w12) := E11.out.trans (hb12.mono E11.out.size)
    clear hb12
    have HCC12 : Hid (∀ W, Below w12.heap.size w12 W → (W.cell? ⟨w.heap.size, 0, none⟩ = some (.slice Af nf cf) ∧ W.cell? ⟨w.heap.size, 1, none⟩ = some (.slice At nt ct) ∧ W.cell? ⟨w.heap.size, 2, none⟩ = some (.bool cl)) ∧ W.cell? ⟨w.heap.size + 1, 0, none⟩ = some (.slice Ag ng cg) ∧ W.cell? ⟨w.heap.size + 1, 1, none⟩ = some (.slice Au nu cu) ∧ W.cell? ⟨w.heap.size + 1, 2, none⟩ = some (.bool cm)) := fun W hW => HCC.out W (E12.out.trans (hW.mono E12.out.size))
    have HT12 : Hid (∀ W, Below w12.heap.size w12 W → TIn (fun _ => True) W (.pointer u) T ∧ SIn (fun _ => True) W (.agg #[.slice Af nf cf, .slice At nt ct, .bool cl]) f t cl ∧ SIn (fun _ => True) W (.agg #[.slice Ag ng cg, .slice Au nu cu, .bool cm]) g z cm ∧ Below X.heap.size X W) := fun W hW => by
      have h2 := HT6.out W (E12.out.trans (hW.mono E12.out.size))
      exact ⟨h2.1, h2.2.1, h2.2.2.1, (HT2.out W h2.2.2.2).2.2.2.2⟩
    clear HCC
    have HCC := HCC12
    go_upto_region 8 with fail
    go_region_held3 (fun w' => (w'.cell? ⟨w.heap.size, 0, none⟩ = some (.slice Af nf cf) ∧ w'.cell? ⟨w.heap.size, 1, none⟩ = some (.slice At nt ct) ∧ w'.cell? ⟨w.heap.size, 2, none⟩ = some (.bool cl)) ∧ w'.cell? ⟨w.heap.size + 1, 0, none⟩ = some (.slice Ag ng cg) ∧ w'.cell? ⟨w.heap.size + 1, 1, none⟩ = some (.slice Au nu cu) ∧ w'.cell? ⟨w.heap.size + 1, 2, none⟩ = some (.bool cm))
      (first | with_reducible exact HCC.out _ (below_drew2 (Below.refl _ _)) | with_reducible exact HCC.out _ F13.out | with_reducible exact HCC.out _ F14.out | with_reducible exact HCC.out _ F15.out | with_reducible exact HCC.out _ F16.out | with_reducible exact HCC.out _ F18.out | with_reducible exact HCC.out _ F19.out)
      (first
        | (go_at_call 26; (with_reducible refine (scut_any (S := fun _ => True) (S' := fun _ => True) T (.pointer u) (.agg #[.slice Af nf cf, .slice At nt ct, .bool cl]) f t cl _ (HT12.out _ (below_drew2 (Below.refl _ _))).1 (HT12.out _ (below_drew2 (Below.refl _ _))).2.1 HKY.out.1 HKY.out.2.1 (by omega)).mono ?_); rintro e w13 ⟨u13, T13, rfl, H13⟩
           have F13 : Hid (Below w12.heap.size w12 w13) := below_drew1 H13.out.2.2.2
           have z13 : T13.size ≤ 60 := by have h1 := PT.size_of H13.out.1; have h2 := HLEN.out.1; omega
           have hc13 := scount_any (S := fun _ => True) (S' := fun _ => True) T13 (.pointer u13) (.agg #[.slice Ag ng cg, .slice Au nu cu, .bool cm]) g z cm w13 (H13.out.2.2.1.imp (fun _ _ _ => trivial)) (HT12.out w13 F13.out).2.2.1 (by rw [H13.out.1]; exact HAS.out.1) (by omega)
           rw [H13.out.1] at hc13
           have HC13 := Lib.hid hc13
           clear hc13)
        | (go_at_call 28; (with_reducible refine HC13.out.mono ?_); rintro e w14 ⟨rfl, hb14⟩
           have F14 : Hid (Below w12.heap.size w12 w14) := F13.out.trans (hb14.mono F13.out.size)
           clear hb14
           have HU14 := Lib.hid (scut_any (S := fun _ => True) (S' := fun _ => True) T (.pointer u) (.agg #[.slice Af nf cf, .slice At nt ct, .bool cl]) f t cl w14 (HT12.out w14 F14.out).1 (HT12.out w14 F14.out).2.1 HKY.out.1 HKY.out.2.1 (by omega)))
        | (go_at_call 26; (with_reducible refine HU14.out.mono ?_); rintro e w15 ⟨u15, T15, rfl, H15⟩
           have F15 : Hid (Below w12.heap.size w12 w15) := F14.out.trans (H15.out.2.2.2.mono F14.out.size)
           have z15 : T15.size ≤ 60 := by have h1 := PT.size_of H15.out.1; have h2 := HLEN.out.1; omega
           have HO15 := Lib.hid (sout_any (S := fun _ => True) (S' := fun _ => True) T15 (.pointer u15) (.agg #[.slice Ag ng cg, .slice Au nu cu, .bool cm]) g z cm w15 (H15.out.2.2.1.imp (fun _ _ _ => trivial)) (HT12.out w15 F15.out).2.2.1 H15.out.2.1 (by rw [H15.out.1]; exact HAS.out.1) (by omega)))
        | (go_at_call 27; (with_reducible refine HO15.out.mono ?_); rintro e w16 ⟨u16, T16, rfl, H16⟩
           have F16 : Hid (Below w12.heap.size w12 w16) := F15.out.trans (H16.out.2.2.2.mono F15.out.size)
           have hq16 : T16.list = (cutM (cutM T.list f t cl true) g z cm false) := by rw [H16.out.1, H15.out.1]
           have hz16 := PT.size_of hq16
           have hsum := cut_sum (cutM T.list f t cl true) g z cm
           have z16 : T16.size ≤ 60 := by have h2 := HLEN.out.2.2.2; omega
           have hw16 : IntKind.i64.wrap ((T16.size : Int) + ((cutM (cutM T.list f t cl true) g z cm true).length : Int)) = ((cutM T.list f t cl true).length : Int) := by rw [wsm _ (by omega)]; omega
           clear hq16 hz16 hsum
           have HS16 := Lib.hid (tsize_any T16 (.pointer u16) w16 H16.out.2.2.1)
           have HC16 := Lib.hid (scount_any (S := fun _ => True) (S' := fun _ => True) T (.pointer u) (.agg #[.slice Af nf cf, .slice At nt ct, .bool cl]) f t cl w16 (HT12.out w16 F16.out).1 (HT12.out w16 F16.out).2.1 HKY.out.2.1 (by omega)))
        | (go_at_call 29; (with_reducible refine HS16.out.mono ?_); rintro e w17 ⟨rfl, rfl⟩)
        | (go_at_call 28; (with_reducible refine HC16.out.mono ?_); rintro e w18 ⟨rfl, hb18⟩
           have F18 : Hid (Below w12.heap.size w12 w18) := F16.out.trans (hb18.mono F16.out.size)
           clear hb18)
        | (go_at_call 16; (with_reducible refine (awake13_any w18).mono ?_); rintro e w19 ⟨rfl, hb19⟩
           have F19 : Hid (Below w12.heap.size w12 w19) := F18.out.trans (hb19.mono F18.out.size)
           clear hb19
           have HB19 : Hid (Below w.heap.size w w19) := (HO.out w19 (HT12.out w19 F19.out).2.2.2).1))
    go_wp2_with fail
    go_ret
    exact ⟨rfl, HB19.out⟩

end Go.Proofs.Ytnfhbljhohjkhaa
