/- The law ScanRanges. -/
import Derived.Test.YtphjaebkcimklaaGreatDoorMlaw
set_option linter.unusedVariables false
set_option linter.unusedSimpArgs false
namespace Go.Proofs.YtphjaebkcimklaaGreatDoor
open Go.RowKit Go.Shelf Go.Proofs.YtphjaebkcimklaaGreatDoorW.PrintLast
attribute [local go_sem] Oper.semAt_some

set_option maxRecDepth 100000 in
set_option maxHeartbeats 3200000 in
theorem scanRanges_any (A : Option Addr) (n c : Nat) (L : List (Int × Bytes × Bytes)) (fv tv : Value) (f t : Bytes) (cl : Bool) (sk mo : Int) (w : World) (h : Ops w A n L) (hf : BRaw w fv f) (ht : BRaw w tv t) (hsk : (Lit.int .i64 sk).wf = true) (hT : Tabs w) :
    Calls Tryz.prog 6 #[.slice A n c, .agg #[fv, tv, .bool cl, .int .i64 sk, .int .i64 mo]] w fun e w' => e = .returned (.bool true) ∧ Below w.heap.size w w' := by
  obtain ⟨Af, nf, cf, rfl, _, _, h3f⟩ := id hf
  obtain ⟨At, nt, ct, rfl, _, _, h3t⟩ := id ht
  have HLN : Hid (f.length = nf ∧ t.length = nt) := ⟨h3f.len, h3t.len⟩
  have hb : Below w.heap.size w (w.alloc (.cells #[.slice Af nf cf, .slice At nt ct, .bool cl, .int .i64 sk, .int .i64 mo] 27)) := (Below.refl _ w).alloc (Nat.le_refl _) _
  have e0 : (w.alloc (.cells #[.slice Af nf cf, .slice At nt ct, .bool cl, .int .i64 sk, .int .i64 mo] 27)).heap[w.heap.size]? = some (.cells #[.slice Af nf cf, .slice At nt ct, .bool cl, .int .i64 sk, .int .i64 mo] 27 (0, 0)) := heap_new w _
  have HO : Hid (∀ W, Below (w.alloc (.cells #[.slice Af nf cf, .slice At nt ct, .bool cl, .int .i64 sk, .int .i64 mo] 27)).heap.size (w.alloc (.cells #[.slice Af nf cf, .slice At nt ct, .bool cl, .int .i64 sk, .int .i64 mo] 27)) W →
      Below w.heap.size w W ∧ Ops W A n L ∧ BRaw W (.slice Af nf cf) f ∧ BRaw W (.slice At nt ct) t ∧ W.heap[w.heap.size]? = some (.cells #[.slice Af nf cf, .slice At nt ct, .bool cl, .int .i64 sk, .int .i64 mo] 27 (0, 0)) ∧ Tabs W) := fun W hW => by
    have h2 := hb.trans (hW.mono hb.size)
    exact ⟨h2, h.below h2, hf.below h2, ht.below h2, (hW.block _ (Array.getElem?_eq_some_iff.1 e0).1).trans e0, hT.below h2⟩
  clear h hf ht h3f h3t hb e0 hT
  have HSKW := Lib.hid hsk
  clear hsk
  go_enter Tryz.func6, Tryz.ntmps6
  go_upto_region 1 with fail
  generalize (w.alloc (.cells #[.slice Af nf cf, .slice At nt ct, .bool cl, .int .i64 sk, .int .i64 mo] 27)) = X at *
  have HF := Lib.hid (fine23_any A n c L Af At nf cf nt ct cl sk mo X (HO.out X (Below.refl _ _)).2.1)
  have b0 : X.cell? ⟨w.heap.size, 0, none⟩ = some (.slice Af nf cf) := cell_of_row X w.heap.size 0 _ _ _ (HO.out X (Below.refl _ _)).2.2.2.2.1
  have b1 : X.cell? ⟨w.heap.size, 1, none⟩ = some (.slice At nt ct) := cell_of_row X w.heap.size 1 _ _ _ (HO.out X (Below.refl _ _)).2.2.2.2.1
  have b2 : X.cell? ⟨w.heap.size, 2, none⟩ = some (.bool cl) := cell_of_row X w.heap.size 2 _ _ _ (HO.out X (Below.refl _ _)).2.2.2.2.1
  have b3 : X.cell? ⟨w.heap.size, 3, none⟩ = some (.int .i64 sk) := cell_of_row X w.heap.size 3 _ _ _ (HO.out X (Below.refl _ _)).2.2.2.2.1
  have b4 : X.cell? ⟨w.heap.size, 4, none⟩ = some (.int .i64 mo) := cell_of_row X w.heap.size 4 _ _ _ (HO.out X (Below.refl _ _)).2.2.2.2.1
  go_wp2_with fail
  refine HF.out.mono ?_
  rintro e w1 ⟨r, rfl, hr, hb1⟩
  have HB1 : Hid (Below X.heap.size X w1) := hb1
  clear hb1 b0 b1 b2 b3 b4
  have HAW : Hid (∀ W, Below X.heap.size X W → Calls Tryz.prog 9 #[] W fun e w' => e = .returned (.bool true) ∧ Below w.heap.size w w') := fun W hW =>
    (awake23_any W (HO.out W hW).2.2.2.2.2).mono fun e w' ⟨he, hb⟩ => ⟨he, (HO.out W hW).1.trans (hb.mono (HO.out W hW).1.size)⟩
  cases r with
  | false =>
    clear hr
    go_wp2_with fail
    refine (HAW.out w1 HB1.out).mono ?_
    rintro e wz ⟨rfl, hz⟩
    have HZ := Lib.hid hz
    clear hz
    go_wp2_with fail
    go_ret
    exact ⟨rfl, HZ.out⟩
  | true =>
    have HFI := Lib.hid (hr rfl)
    clear hr
    have HSP : Hid (∀ W, Below X.heap.size X W → SIn (fun _ => True) W (.agg #[.slice Af nf cf, .slice At nt ct, .bool cl]) f t cl) := fun W hW => by
      have h1 := HFI.out
      have h2 := HLN.out
      have h3 := HO.out W hW
      exact ⟨_, _, rfl, h3.2.2.1.fine (by omega), h3.2.2.2.1.fine (by omega)⟩
    have HMD := Lib.hid (made23_any A n c L w1 (HO.out w1 HB1.out).2.1 HFI.out.1 (HO.out w1 HB1.out).2.2.2.2.2)
    go_wp2_with fail
    refine HMD.out.mono ?_
    rintro e w2 ⟨sd, u, tu, A', c', T, rfl, hI⟩
    have HB2 : Hid (Below X.heap.size X w2) := HB1.out.trans (hI.out.below.mono HB1.out.size)
    have HS := Lib.hid hI.out.sc.seed
    have HU := Lib.hid hI.out.sc.one
    have HZN : Hid ((w2.alloc (.cells z38 38)).heap[w2.heap.size]? = some (.cells z38 38 (0, 0))) := heap_new w2 _
    have HCB := Lib.hid (chBox w2 sd u tu)
    clear HMD
    go_upto_region 4 with (refine wpList_store_row rfl 38 _ _ rfl w2.heap.size (chA sd u (.pointer tu)) rfl rfl 38 _ HZN.out (size_of info38 (chA_size HS.out.1)) (by rw [chA_size HS.out.1]; rfl) (chA_one HS.out HU.out rfl) ?_)
    clear HZN
    generalize (w2.alloc (.cells z38 38)).setRow w2.heap.size (chA sd u (.pointer tu)) = Y at *
    have HBY : Hid (Below X.heap.size X Y) := HB2.out.trans (HCB.out.below.mono HB2.out.size)
    have HALL : Hid (∀ W, Below Y.heap.size Y W → Sc W sd u tu T ∧ SIn (fun _ => True) W (.agg #[.slice Af nf cf, .slice At nt ct, .bool cl]) f t cl ∧ MIn (fun _ => True) W A' T.list.length T.list ∧ W.rangeAt w2.heap.size 0 (chA sd u (.pointer tu)).toList ∧ W.heap[w.heap.size]? = some (.cells #[.slice Af nf cf, .slice At nt ct, .bool cl, .int .i64 sk, .int .i64 mo] 27 (0, 0)) ∧ Below X.heap.size X W) := fun W hW => by
      have h2 := HBY.out.trans (hW.mono HBY.out.size)
      have h3 := HCB.out.below.trans (hW.mono HCB.out.below.size)
      exact ⟨hI.out.sc.below h3, HSP.out W h2, hI.out.min.below h3, HCB.out.ra hW, (HO.out W h2).2.2.2.2.1, h2⟩
    have HLEN : Hid (T.list.length ≤ 61 ∧ (∀ p ∈ T.list, p.1.length ≤ 100000) ∧ Asc T.list) := ⟨hI.out.len, hI.out.keys, hI.out.sc.asc⟩
    have in38 := in38' (u := u) (p := .pointer tu) HS.out
    clear hI
    -- the document's stretch
    have b0 : Y.cell? ⟨w.heap.size, 0, none⟩ = some (.slice Af nf cf) := cell_of_row Y w.heap.size 0 _ _ _ (HALL.out Y (Below.refl _ _)).2.2.2.2.1
    have b1 : Y.cell? ⟨w.heap.size, 1, none⟩ = some (.slice At nt ct) := cell_of_row Y w.heap.size 1 _ _ _ (HALL.out Y (Below.refl _ _)).2.2.2.2.1
    have b2 : Y.cell? ⟨w.heap.size, 2, none⟩ = some (.bool cl) := cell_of_row Y w.heap.size 2 _ _ _ (HALL.out Y (Below.refl _ _)).2.2.2.2.1
    have b3 : Y.cell? ⟨w.heap.size, 3, none⟩ = some (.int .i64 sk) := cell_of_row Y w.heap.size 3 _ _ _ (HALL.out Y (Below.refl _ _)).2.2.2.2.1
    have b4 : Y.cell? ⟨w.heap.size, 4, none⟩ = some (.int .i64 mo) := cell_of_row Y w.heap.size 4 _ _ _ (HALL.out Y (Below.refl _ _)).2.2.2.2.1
    go_wp2_with fail
    refine (ref_any (S := fun _ => True) _ f t cl Y (HALL.out Y (Below.refl _ _)).2.1).mono ?_
    rintro e w3 ⟨rfl, hb3⟩
    have HB3 : Hid (Below Y.heap.size Y w3) := hb3
    clear hb3 b0 b1 b2 b3 b4
    have hmc := mcut_any T.list A' T.list.length c' (strO f) (strO t) cl true w3 (HALL.out w3 HB3.out).2.2.1 (by have := HLEN.out.1; omega) HLEN.out.2.1
    rw [strL_strO, strL_strO] at hmc
    have HMC := Lib.hid hmc
    have HCX : Hid ((cutM T.list f t cl true).length ≤ 61) := Nat.le_trans (cutM_len _ _ _ _ _) HLEN.out.1
    have HRG := Lib.hid (fun (V : World) (h1 : Sc V sd u tu T) (h2 : SIn (fun _ => True) V (.agg #[.slice Af nf cf, .slice At nt ct, .bool cl]) f t cl) => And.intro (range_any sk mo V h1 h2 HSKW.out) (back_any sk mo V h1 h2 HSKW.out))
    clear hmc
    generalize cutM T.list f t cl true = C at *
    go_wp2_with fail
    refine HMC.out.mono ?_
    rintro e w4 ⟨A5, c5, rfl, h51, h52, h53⟩
    have HB4 : Hid (Below Y.heap.size Y w4) := HB3.out.trans (h53.mono HB3.out.size)
    have HM5 := Lib.hid h52
    clear h51 h52 h53 HMC
    go_upto_region 5 with fail
    have HW4 : Hid (∀ V, Below w4.heap.size w4 V → Below Y.heap.size Y V ∧ V.rangeAt w2.heap.size 0 (chA sd u (.pointer tu)).toList ∧ V.heap[w.heap.size]? = some (.cells #[.slice Af nf cf, .slice At nt ct, .bool cl, .int .i64 sk, .int .i64 mo] 27 (0, 0)) ∧ MIn (New w3.heap.size) V A5 C.length C) := fun V hV => by
      have h1 := HB4.out.trans (hV.mono HB4.out.size)
      exact ⟨h1, (HALL.out V h1).2.2.2.1, (HALL.out V h1).2.2.2.2.1, HM5.out.below hV⟩
    have ul38 := Tryz.underlying38
    refine start_ (n := 37) (S := fun w' => Below w4.heap.size w4 w') (ds := []) #[false, false, false, false, false, false, false, false, false, false, false, false, false, false, false, false, false, false, false, false, false, false, false, false, false, false, false, false, false, false, false, false, false, false, false, false, false] (by kernel_rfl) rfl rfl (below_drew2 (Below.refl _ _)) (fun hHeld => ?_)
    refine take_ (i := 0) (N := some 23) (v := .agg (chA sd u (.pointer tu))) (a' := ?aa1) #[true, false, false, false, false, false, false, false, false, false, false, false, false, false, false, false, false, false, false, false, false, false, false, false, false, false, false, false, false, false, false, false, false, false, false, false, false] rfl rfl (by kernel_rfl) (fun _ _ _ h => h) (yieldsIf_load_mid rfl 38 (.tmp 5) rfl w2.heap.size 0 rfl (chA sd u (.pointer tu)).toList _ (fun _ h => (HW4.out _ h).2.1) ul38 rfl in38) hHeld ?ha1 ?_
    case ha1 =>
      simp only [Act.put, List.setIfInBounds_toArray, List.set_cons_zero, List.set_cons_succ]
      rfl
    refine pure_ (i := 1) (N := some 24) (v := ?vv2) (a' := ?aa2) #[true, true, false, false, false, false, false, false, false, false, false, false, false, false, false, false, false, false, false, false, false, false, false, false, false, false, false, false, false, false, false, false, false, false, false, false, false] rfl rfl (by kernel_rfl) (fun _ _ _ h => h) (Or.inl ⟨by rfl, ?hy2⟩) ?ha2 ?hn2
    case hy2 =>
      intro w'
      go_simp
      with_reducible rfl
    case ha2 =>
      simp only [Act.put, List.setIfInBounds_toArray, List.set_cons_zero, List.set_cons_succ]
      rfl
    refine take_ (i := 2) (N := some 25) (v := .agg #[.slice Af nf cf, .slice At nt ct, .bool cl]) (a' := ?aa3) #[true, true, true, false, false, false, false, false, false, false, false, false, false, false, false, false, false, false, false, false, false, false, false, false, false, false, false, false, false, false, false, false, false, false, false, false, false] rfl rfl (by kernel_rfl) (fun _ _ _ h => h) (Or.inl ⟨by rfl, ?hy3⟩) hHeld ?ha3 ?hn3
    case hy3 =>
      rintro w' hw'
      have d0 : w'.cell? ⟨w.heap.size, 0, none⟩ = some (.slice Af nf cf) := cell_of_row w' w.heap.size 0 _ _ _ (HW4.out w' hw').2.2.1
      have d1 : w'.cell? ⟨w.heap.size, 1, none⟩ = some (.slice At nt ct) := cell_of_row w' w.heap.size 1 _ _ _ (HW4.out w' hw').2.2.1
      have d2 : w'.cell? ⟨w.heap.size, 2, none⟩ = some (.bool cl) := cell_of_row w' w.heap.size 2 _ _ _ (HW4.out w' hw').2.2.1
      have d3 : w'.cell? ⟨w.heap.size, 3, none⟩ = some (.int .i64 sk) := cell_of_row w' w.heap.size 3 _ _ _ (HW4.out w' hw').2.2.1
      have d4 : w'.cell? ⟨w.heap.size, 4, none⟩ = some (.int .i64 mo) := cell_of_row w' w.heap.size 4 _ _ _ (HW4.out w' hw').2.2.1
      go_simp
    case ha3 =>
      simp only [Act.put, List.setIfInBounds_toArray, List.set_cons_zero, List.set_cons_succ]
      rfl
    refine pure_ (i := 3) (N := some 26) (v := ?vv4) (a' := ?aa4) #[true, true, true, true, false, false, false, false, false, false, false, false, false, false, false, false, false, false, false, false, false, false, false, false, false, false, false, false, false, false, false, false, false, false, false, false, false] rfl rfl (by kernel_rfl) (fun _ _ _ h => h) (Or.inl ⟨by rfl, ?hy4⟩) ?ha4 ?hn4
    case hy4 =>
      intro w'
      go_simp
      with_reducible rfl
    case ha4 =>
      simp only [Act.put, List.setIfInBounds_toArray, List.set_cons_zero, List.set_cons_succ]
      rfl
    refine take_ (i := 4) (N := some 27) (v := .int .i64 sk) (a' := ?aa5) #[true, true, true, true, true, false, false, false, false, false, false, false, false, false, false, false, false, false, false, false, false, false, false, false, false, false, false, false, false, false, false, false, false, false, false, false, false] rfl rfl (by kernel_rfl) (fun _ _ _ h => h) (Or.inl ⟨by rfl, ?hy5⟩) hHeld ?ha5 ?hn5
    case hy5 =>
      rintro w' hw'
      have d0 : w'.cell? ⟨w.heap.size, 0, none⟩ = some (.slice Af nf cf) := cell_of_row w' w.heap.size 0 _ _ _ (HW4.out w' hw').2.2.1
      have d1 : w'.cell? ⟨w.heap.size, 1, none⟩ = some (.slice At nt ct) := cell_of_row w' w.heap.size 1 _ _ _ (HW4.out w' hw').2.2.1
      have d2 : w'.cell? ⟨w.heap.size, 2, none⟩ = some (.bool cl) := cell_of_row w' w.heap.size 2 _ _ _ (HW4.out w' hw').2.2.1
      have d3 : w'.cell? ⟨w.heap.size, 3, none⟩ = some (.int .i64 sk) := cell_of_row w' w.heap.size 3 _ _ _ (HW4.out w' hw').2.2.1
      have d4 : w'.cell? ⟨w.heap.size, 4, none⟩ = some (.int .i64 mo) := cell_of_row w' w.heap.size 4 _ _ _ (HW4.out w' hw').2.2.1
      go_simp
    case ha5 =>
      simp only [Act.put, List.setIfInBounds_toArray, List.set_cons_zero, List.set_cons_succ]
      rfl
    refine pure_ (i := 5) (N := some 28) (v := ?vv6) (a' := ?aa6) #[true, true, true, true, true, true, false, false, false, false, false, false, false, false, false, false, false, false, false, false, false, false, false, false, false, false, false, false, false, false, false, false, false, false, false, false, false] rfl rfl (by kernel_rfl) (fun _ _ _ h => h) (Or.inl ⟨by rfl, ?hy6⟩) ?ha6 ?hn6
    case hy6 =>
      intro w'
      go_simp
      with_reducible rfl
    case ha6 =>
      simp only [Act.put, List.setIfInBounds_toArray, List.set_cons_zero, List.set_cons_succ]
      rfl
    refine take_ (i := 6) (N := some 29) (v := .int .i64 mo) (a' := ?aa7) #[true, true, true, true, true, true, true, false, false, false, false, false, false, false, false, false, false, false, false, false, false, false, false, false, false, false, false, false, false, false, false, false, false, false, false, false, false] rfl rfl (by kernel_rfl) (fun _ _ _ h => h) (Or.inl ⟨by rfl, ?hy7⟩) hHeld ?ha7 ?hn7
    case hy7 =>
      rintro w' hw'
      have d0 : w'.cell? ⟨w.heap.size, 0, none⟩ = some (.slice Af nf cf) := cell_of_row w' w.heap.size 0 _ _ _ (HW4.out w' hw').2.2.1
      have d1 : w'.cell? ⟨w.heap.size, 1, none⟩ = some (.slice At nt ct) := cell_of_row w' w.heap.size 1 _ _ _ (HW4.out w' hw').2.2.1
      have d2 : w'.cell? ⟨w.heap.size, 2, none⟩ = some (.bool cl) := cell_of_row w' w.heap.size 2 _ _ _ (HW4.out w' hw').2.2.1
      have d3 : w'.cell? ⟨w.heap.size, 3, none⟩ = some (.int .i64 sk) := cell_of_row w' w.heap.size 3 _ _ _ (HW4.out w' hw').2.2.1
      have d4 : w'.cell? ⟨w.heap.size, 4, none⟩ = some (.int .i64 mo) := cell_of_row w' w.heap.size 4 _ _ _ (HW4.out w' hw').2.2.1
      go_simp
    case ha7 =>
      simp only [Act.put, List.setIfInBounds_toArray, List.set_cons_zero, List.set_cons_succ]
      rfl
    refine pure_ (i := 8) (N := some 31) (v := ?vv8) (a' := ?aa8) #[true, true, true, true, true, true, true, false, true, false, false, false, false, false, false, false, false, false, false, false, false, false, false, false, false, false, false, false, false, false, false, false, false, false, false, false, false] rfl rfl (by kernel_rfl) (fun _ _ _ h => h) (Or.inl ⟨by rfl, ?hy8⟩) ?ha8 ?hn8
    case hy8 =>
      intro w'
      go_simp
      with_reducible rfl
    case ha8 =>
      simp only [Act.put, List.setIfInBounds_toArray, List.set_cons_zero, List.set_cons_succ]
      rfl
    refine pure_ (i := 9) (N := some 32) (v := ?vv9) (a' := ?aa9) #[true, true, true, true, true, true, true, false, true, true, false, false, false, false, false, false, false, false, false, false, false, false, false, false, false, false, false, false, false, false, false, false, false, false, false, false, false] rfl rfl (by kernel_rfl) (fun _ _ _ h => h) (Or.inl ⟨by rfl, ?hy9⟩) ?ha9 ?hn9
    case hy9 =>
      intro w'
      go_simp
      with_reducible rfl
    case ha9 =>
      simp only [Act.put, List.setIfInBounds_toArray, List.set_cons_zero, List.set_cons_succ]
      rfl
    refine take_ (i := 10) (N := some 33) (v := .int .i64 sk) (a' := ?aa10) #[true, true, true, true, true, true, true, false, true, true, true, false, false, false, false, false, false, false, false, false, false, false, false, false, false, false, false, false, false, false, false, false, false, false, false, false, false] rfl rfl (by kernel_rfl) (fun _ _ _ h => h) (Or.inl ⟨by rfl, ?hy10⟩) hHeld ?ha10 ?hn10
    case hy10 =>
      rintro w' hw'
      have d0 : w'.cell? ⟨w.heap.size, 0, none⟩ = some (.slice Af nf cf) := cell_of_row w' w.heap.size 0 _ _ _ (HW4.out w' hw').2.2.1
      have d1 : w'.cell? ⟨w.heap.size, 1, none⟩ = some (.slice At nt ct) := cell_of_row w' w.heap.size 1 _ _ _ (HW4.out w' hw').2.2.1
      have d2 : w'.cell? ⟨w.heap.size, 2, none⟩ = some (.bool cl) := cell_of_row w' w.heap.size 2 _ _ _ (HW4.out w' hw').2.2.1
      have d3 : w'.cell? ⟨w.heap.size, 3, none⟩ = some (.int .i64 sk) := cell_of_row w' w.heap.size 3 _ _ _ (HW4.out w' hw').2.2.1
      have d4 : w'.cell? ⟨w.heap.size, 4, none⟩ = some (.int .i64 mo) := cell_of_row w' w.heap.size 4 _ _ _ (HW4.out w' hw').2.2.1
      go_simp
    case ha10 =>
      simp only [Act.put, List.setIfInBounds_toArray, List.set_cons_zero, List.set_cons_succ]
      rfl
    refine pure_ (i := 11) (N := some 34) (v := ?vv11) (a' := ?aa11) #[true, true, true, true, true, true, true, false, true, true, true, true, false, false, false, false, false, false, false, false, false, false, false, false, false, false, false, false, false, false, false, false, false, false, false, false, false] rfl rfl (by kernel_rfl) (fun _ _ _ h => h) (Or.inl ⟨by rfl, ?hy11⟩) ?ha11 ?hn11
    case hy11 =>
      intro w'
      go_simp
      with_reducible rfl
    case ha11 =>
      simp only [Act.put, List.setIfInBounds_toArray, List.set_cons_zero, List.set_cons_succ]
      rfl
    refine take_ (i := 12) (N := some 35) (v := .int .i64 mo) (a' := ?aa12) #[true, true, true, true, true, true, true, false, true, true, true, true, true, false, false, false, false, false, false, false, false, false, false, false, false, false, false, false, false, false, false, false, false, false, false, false, false] rfl rfl (by kernel_rfl) (fun _ _ _ h => h) (Or.inl ⟨by rfl, ?hy12⟩) hHeld ?ha12 ?hn12
    case hy12 =>
      rintro w' hw'
      have d0 : w'.cell? ⟨w.heap.size, 0, none⟩ = some (.slice Af nf cf) := cell_of_row w' w.heap.size 0 _ _ _ (HW4.out w' hw').2.2.1
      have d1 : w'.cell? ⟨w.heap.size, 1, none⟩ = some (.slice At nt ct) := cell_of_row w' w.heap.size 1 _ _ _ (HW4.out w' hw').2.2.1
      have d2 : w'.cell? ⟨w.heap.size, 2, none⟩ = some (.bool cl) := cell_of_row w' w.heap.size 2 _ _ _ (HW4.out w' hw').2.2.1
      have d3 : w'.cell? ⟨w.heap.size, 3, none⟩ = some (.int .i64 sk) := cell_of_row w' w.heap.size 3 _ _ _ (HW4.out w' hw').2.2.1
      have d4 : w'.cell? ⟨w.heap.size, 4, none⟩ = some (.int .i64 mo) := cell_of_row w' w.heap.size 4 _ _ _ (HW4.out w' hw').2.2.1
      go_simp
    case ha12 =>
      simp only [Act.put, List.setIfInBounds_toArray, List.set_cons_zero, List.set_cons_succ]
      rfl
    have Hw4d : Below w4.heap.size w4 w4.drew := below_drew2 (Below.refl _ _)
    refine one_ (i := 7) (N := some 30) #[true, true, true, true, true, true, true, true, true, true, true, true, true, false, false, false, false, false, false, false, false, false, false, false, false, false, false, false, false, false, false, false, false, false, false, false, false] rfl rfl (by kernel_rfl) (by decide) (fun K hK => ?_)
    refine goes_ Tryz.func25 (by kernel_rfl) rfl #[.agg (chA sd u (.pointer tu)), .agg #[.slice Af nf cf, .slice At nt ct, .bool cl], .int .i64 sk, .int .i64 mo] (by rfl) rfl rfl (by simp only [List.map_toArray, List.map_cons, List.map_nil]; rfl) ?_
    refine ((HRG.out w4.drew (HALL.out _ (HW4.out _ Hw4d).1).1 (HALL.out _ (HW4.out _ Hw4d).1).2.1).1).mono ?_
    rintro e w5 ⟨A6, c6, rfl, hl_, hr_, hb_⟩
    have H5 : Hid (LIn (New w4.drew.heap.size) w5 A6 (sm sk mo C).length (sm sk mo C) ∧ Below w4.heap.size w4 w5) := ⟨hr_, below_drew1 hb_⟩
    clear hl_ hr_ hb_
    refine ⟨_, rfl, hK.out _ _ H5.out.2 (fun hHeld => ?_)⟩
    simp only [Act.put, List.setIfInBounds_toArray, List.set_cons_zero, List.set_cons_succ]
    have Hw5 : Below w4.heap.size w4 w5 := H5.out.2
    refine one_ (i := 13) (N := some 36) #[true, true, true, true, true, true, true, true, true, true, true, true, true, true, false, false, false, false, false, false, false, false, false, false, false, false, false, false, false, false, false, false, false, false, false, false, false] rfl rfl (by kernel_rfl) (by decide) (fun K hK => ?_)
    refine goes_ Tryz.func26 (by kernel_rfl) rfl #[.slice A5 C.length c5, .int .i64 sk, .int .i64 mo] (by rfl) rfl rfl (by simp only [List.map_toArray, List.map_cons, List.map_nil]; rfl) ?_
    refine (rsome_any C A5 C.length c5 sk mo w5 (HW4.out w5 Hw5).2.2.2 (by have := HCX.out; omega)).mono ?_
    rintro e w6 ⟨A7, c7, rfl, hl_, hr_, hb_⟩
    have B56 : Below w5.heap.size w5 w6 := hb_
    have H6 : Hid (MIn (New w5.heap.size) w6 A7 (sm sk mo C).length (sm sk mo C) ∧ Below w4.heap.size w4 w6) := ⟨hr_, Hw5.trans (hb_.mono Hw5.size)⟩
    clear hl_ hr_ hb_
    refine ⟨_, rfl, hK.out _ _ H6.out.2 (fun hHeld => ?_)⟩
    simp only [Act.put, List.setIfInBounds_toArray, List.set_cons_zero, List.set_cons_succ]
    have Hw6 : Below w4.heap.size w4 w6 := H6.out.2
    refine one_ (i := 14) (N := some 37) #[true, true, true, true, true, true, true, true, true, true, true, true, true, true, true, false, false, false, false, false, false, false, false, false, false, false, false, false, false, false, false, false, false, false, false, false, false] rfl rfl (by kernel_rfl) (by decide) (fun K hK => ?_)
    refine goes_ Tryz.func24 (by kernel_rfl) rfl #[.slice A6 (sm sk mo C).length c6, .slice A7 (sm sk mo C).length c7] (by rfl) rfl rfl (by simp only [List.map_toArray, List.map_cons, List.map_nil]; rfl) ?_
    refine (mis_any (sm sk mo C) A6 A7 (sm sk mo C).length c6 c7 w6 (H5.out.1.below B56) H6.out.1 (by rw [sm_len]; (try rw [List.length_reverse]); have := HCX.out; omega)).mono ?_
    rintro e w7_ ⟨rfl, q_, rfl⟩
    have Hw7 : Below w4.heap.size w4 (w6.drewN q_) := below_drewN Hw6 q_
    obtain ⟨w7, hw7_⟩ : ∃ V, w6.drewN q_ = V := ⟨_, rfl⟩
    rw [hw7_] at Hw7 ⊢
    clear hw7_
    refine ⟨_, rfl, hK.out _ _ Hw7 (fun hHeld => ?_)⟩
    simp only [Act.put, List.setIfInBounds_toArray, List.set_cons_zero, List.set_cons_succ]
    refine pure_ (i := 15) (N := some 38) (v := ?vv13) (a' := ?aa13) #[true, true, true, true, true, true, true, true, true, true, true, true, true, true, true, true, false, false, false, false, false, false, false, false, false, false, false, false, false, false, false, false, false, false, false, false, false] rfl rfl (by kernel_rfl) (fun _ _ _ h => h) (Or.inl ⟨by rfl, ?hy13⟩) ?ha13 ?hn13
    case hy13 =>
      intro w'
      go_simp
      with_reducible rfl
    case ha13 =>
      simp only [Act.put, List.setIfInBounds_toArray, List.set_cons_zero, List.set_cons_succ]
      rfl
    refine take_ (i := 16) (N := some 39) (v := .agg (chA sd u (.pointer tu))) (a' := ?aa14) #[true, true, true, true, true, true, true, true, true, true, true, true, true, true, true, true, true, false, false, false, false, false, false, false, false, false, false, false, false, false, false, false, false, false, false, false, false] rfl rfl (by kernel_rfl) (fun _ _ _ h => h) (yieldsIf_load_mid rfl 38 (.tmp 5) rfl w2.heap.size 0 rfl (chA sd u (.pointer tu)).toList _ (fun _ h => (HW4.out _ h).2.1) ul38 rfl in38) hHeld ?ha14 ?_
    case ha14 =>
      simp only [Act.put, List.setIfInBounds_toArray, List.set_cons_zero, List.set_cons_succ]
      rfl
    refine pure_ (i := 17) (N := some 40) (v := ?vv15) (a' := ?aa15) #[true, true, true, true, true, true, true, true, true, true, true, true, true, true, true, true, true, true, false, false, false, false, false, false, false, false, false, false, false, false, false, false, false, false, false, false, false] rfl rfl (by kernel_rfl) (fun _ _ _ h => h) (Or.inl ⟨by rfl, ?hy15⟩) ?ha15 ?hn15
    case hy15 =>
      intro w'
      go_simp
      with_reducible rfl
    case ha15 =>
      simp only [Act.put, List.setIfInBounds_toArray, List.set_cons_zero, List.set_cons_succ]
      rfl
    refine take_ (i := 18) (N := some 41) (v := .agg #[.slice Af nf cf, .slice At nt ct, .bool cl]) (a' := ?aa16) #[true, true, true, true, true, true, true, true, true, true, true, true, true, true, true, true, true, true, true, false, false, false, false, false, false, false, false, false, false, false, false, false, false, false, false, false, false] rfl rfl (by kernel_rfl) (fun _ _ _ h => h) (Or.inl ⟨by rfl, ?hy16⟩) hHeld ?ha16 ?hn16
    case hy16 =>
      rintro w' hw'
      have d0 : w'.cell? ⟨w.heap.size, 0, none⟩ = some (.slice Af nf cf) := cell_of_row w' w.heap.size 0 _ _ _ (HW4.out w' hw').2.2.1
      have d1 : w'.cell? ⟨w.heap.size, 1, none⟩ = some (.slice At nt ct) := cell_of_row w' w.heap.size 1 _ _ _ (HW4.out w' hw').2.2.1
      have d2 : w'.cell? ⟨w.heap.size, 2, none⟩ = some (.bool cl) := cell_of_row w' w.heap.size 2 _ _ _ (HW4.out w' hw').2.2.1
      have d3 : w'.cell? ⟨w.heap.size, 3, none⟩ = some (.int .i64 sk) := cell_of_row w' w.heap.size 3 _ _ _ (HW4.out w' hw').2.2.1
      have d4 : w'.cell? ⟨w.heap.size, 4, none⟩ = some (.int .i64 mo) := cell_of_row w' w.heap.size 4 _ _ _ (HW4.out w' hw').2.2.1
      go_simp
    case ha16 =>
      simp only [Act.put, List.setIfInBounds_toArray, List.set_cons_zero, List.set_cons_succ]
      rfl
    refine pure_ (i := 19) (N := some 42) (v := ?vv17) (a' := ?aa17) #[true, true, true, true, true, true, true, true, true, true, true, true, true, true, true, true, true, true, true, true, false, false, false, false, false, false, false, false, false, false, false, false, false, false, false, false, false] rfl rfl (by kernel_rfl) (fun _ _ _ h => h) (Or.inl ⟨by rfl, ?hy17⟩) ?ha17 ?hn17
    case hy17 =>
      intro w'
      go_simp
      with_reducible rfl
    case ha17 =>
      simp only [Act.put, List.setIfInBounds_toArray, List.set_cons_zero, List.set_cons_succ]
      rfl
    refine take_ (i := 20) (N := some 43) (v := .int .i64 sk) (a' := ?aa18) #[true, true, true, true, true, true, true, true, true, true, true, true, true, true, true, true, true, true, true, true, true, false, false, false, false, false, false, false, false, false, false, false, false, false, false, false, false] rfl rfl (by kernel_rfl) (fun _ _ _ h => h) (Or.inl ⟨by rfl, ?hy18⟩) hHeld ?ha18 ?hn18
    case hy18 =>
      rintro w' hw'
      have d0 : w'.cell? ⟨w.heap.size, 0, none⟩ = some (.slice Af nf cf) := cell_of_row w' w.heap.size 0 _ _ _ (HW4.out w' hw').2.2.1
      have d1 : w'.cell? ⟨w.heap.size, 1, none⟩ = some (.slice At nt ct) := cell_of_row w' w.heap.size 1 _ _ _ (HW4.out w' hw').2.2.1
      have d2 : w'.cell? ⟨w.heap.size, 2, none⟩ = some (.bool cl) := cell_of_row w' w.heap.size 2 _ _ _ (HW4.out w' hw').2.2.1
      have d3 : w'.cell? ⟨w.heap.size, 3, none⟩ = some (.int .i64 sk) := cell_of_row w' w.heap.size 3 _ _ _ (HW4.out w' hw').2.2.1
      have d4 : w'.cell? ⟨w.heap.size, 4, none⟩ = some (.int .i64 mo) := cell_of_row w' w.heap.size 4 _ _ _ (HW4.out w' hw').2.2.1
      go_simp
    case ha18 =>
      simp only [Act.put, List.setIfInBounds_toArray, List.set_cons_zero, List.set_cons_succ]
      rfl
    refine pure_ (i := 21) (N := some 44) (v := ?vv19) (a' := ?aa19) #[true, true, true, true, true, true, true, true, true, true, true, true, true, true, true, true, true, true, true, true, true, true, false, false, false, false, false, false, false, false, false, false, false, false, false, false, false] rfl rfl (by kernel_rfl) (fun _ _ _ h => h) (Or.inl ⟨by rfl, ?hy19⟩) ?ha19 ?hn19
    case hy19 =>
      intro w'
      go_simp
      with_reducible rfl
    case ha19 =>
      simp only [Act.put, List.setIfInBounds_toArray, List.set_cons_zero, List.set_cons_succ]
      rfl
    refine take_ (i := 22) (N := some 45) (v := .int .i64 mo) (a' := ?aa20) #[true, true, true, true, true, true, true, true, true, true, true, true, true, true, true, true, true, true, true, true, true, true, true, false, false, false, false, false, false, false, false, false, false, false, false, false, false] rfl rfl (by kernel_rfl) (fun _ _ _ h => h) (Or.inl ⟨by rfl, ?hy20⟩) hHeld ?ha20 ?hn20
    case hy20 =>
      rintro w' hw'
      have d0 : w'.cell? ⟨w.heap.size, 0, none⟩ = some (.slice Af nf cf) := cell_of_row w' w.heap.size 0 _ _ _ (HW4.out w' hw').2.2.1
      have d1 : w'.cell? ⟨w.heap.size, 1, none⟩ = some (.slice At nt ct) := cell_of_row w' w.heap.size 1 _ _ _ (HW4.out w' hw').2.2.1
      have d2 : w'.cell? ⟨w.heap.size, 2, none⟩ = some (.bool cl) := cell_of_row w' w.heap.size 2 _ _ _ (HW4.out w' hw').2.2.1
      have d3 : w'.cell? ⟨w.heap.size, 3, none⟩ = some (.int .i64 sk) := cell_of_row w' w.heap.size 3 _ _ _ (HW4.out w' hw').2.2.1
      have d4 : w'.cell? ⟨w.heap.size, 4, none⟩ = some (.int .i64 mo) := cell_of_row w' w.heap.size 4 _ _ _ (HW4.out w' hw').2.2.1
      go_simp
    case ha20 =>
      simp only [Act.put, List.setIfInBounds_toArray, List.set_cons_zero, List.set_cons_succ]
      rfl
    refine pure_ (i := 24) (N := some 47) (v := ?vv21) (a' := ?aa21) #[true, true, true, true, true, true, true, true, true, true, true, true, true, true, true, true, true, true, true, true, true, true, true, false, true, false, false, false, false, false, false, false, false, false, false, false, false] rfl rfl (by kernel_rfl) (fun _ _ _ h => h) (Or.inl ⟨by rfl, ?hy21⟩) ?ha21 ?hn21
    case hy21 =>
      intro w'
      go_simp
      with_reducible rfl
    case ha21 =>
      simp only [Act.put, List.setIfInBounds_toArray, List.set_cons_zero, List.set_cons_succ]
      rfl
    refine pure_ (i := 26) (N := some 49) (v := ?vv22) (a' := ?aa22) #[true, true, true, true, true, true, true, true, true, true, true, true, true, true, true, true, true, true, true, true, true, true, true, false, true, false, true, false, false, false, false, false, false, false, false, false, false] rfl rfl (by kernel_rfl) (fun _ _ _ h => h) (Or.inl ⟨by rfl, ?hy22⟩) ?ha22 ?hn22
    case hy22 =>
      intro w'
      go_simp
      with_reducible rfl
    case ha22 =>
      simp only [Act.put, List.setIfInBounds_toArray, List.set_cons_zero, List.set_cons_succ]
      rfl
    refine take_ (i := 27) (N := some 50) (v := .int .i64 sk) (a' := ?aa23) #[true, true, true, true, true, true, true, true, true, true, true, true, true, true, true, true, true, true, true, true, true, true, true, false, true, false, true, true, false, false, false, false, false, false, false, false, false] rfl rfl (by kernel_rfl) (fun _ _ _ h => h) (Or.inl ⟨by rfl, ?hy23⟩) hHeld ?ha23 ?hn23
    case hy23 =>
      rintro w' hw'
      have d0 : w'.cell? ⟨w.heap.size, 0, none⟩ = some (.slice Af nf cf) := cell_of_row w' w.heap.size 0 _ _ _ (HW4.out w' hw').2.2.1
      have d1 : w'.cell? ⟨w.heap.size, 1, none⟩ = some (.slice At nt ct) := cell_of_row w' w.heap.size 1 _ _ _ (HW4.out w' hw').2.2.1
      have d2 : w'.cell? ⟨w.heap.size, 2, none⟩ = some (.bool cl) := cell_of_row w' w.heap.size 2 _ _ _ (HW4.out w' hw').2.2.1
      have d3 : w'.cell? ⟨w.heap.size, 3, none⟩ = some (.int .i64 sk) := cell_of_row w' w.heap.size 3 _ _ _ (HW4.out w' hw').2.2.1
      have d4 : w'.cell? ⟨w.heap.size, 4, none⟩ = some (.int .i64 mo) := cell_of_row w' w.heap.size 4 _ _ _ (HW4.out w' hw').2.2.1
      go_simp
    case ha23 =>
      simp only [Act.put, List.setIfInBounds_toArray, List.set_cons_zero, List.set_cons_succ]
      rfl
    refine pure_ (i := 28) (N := some 51) (v := ?vv24) (a' := ?aa24) #[true, true, true, true, true, true, true, true, true, true, true, true, true, true, true, true, true, true, true, true, true, true, true, false, true, false, true, true, true, false, false, false, false, false, false, false, false] rfl rfl (by kernel_rfl) (fun _ _ _ h => h) (Or.inl ⟨by rfl, ?hy24⟩) ?ha24 ?hn24
    case hy24 =>
      intro w'
      go_simp
      with_reducible rfl
    case ha24 =>
      simp only [Act.put, List.setIfInBounds_toArray, List.set_cons_zero, List.set_cons_succ]
      rfl
    refine take_ (i := 29) (N := some 52) (v := .int .i64 mo) (a' := ?aa25) #[true, true, true, true, true, true, true, true, true, true, true, true, true, true, true, true, true, true, true, true, true, true, true, false, true, false, true, true, true, true, false, false, false, false, false, false, false] rfl rfl (by kernel_rfl) (fun _ _ _ h => h) (Or.inl ⟨by rfl, ?hy25⟩) hHeld ?ha25 ?hn25
    case hy25 =>
      rintro w' hw'
      have d0 : w'.cell? ⟨w.heap.size, 0, none⟩ = some (.slice Af nf cf) := cell_of_row w' w.heap.size 0 _ _ _ (HW4.out w' hw').2.2.1
      have d1 : w'.cell? ⟨w.heap.size, 1, none⟩ = some (.slice At nt ct) := cell_of_row w' w.heap.size 1 _ _ _ (HW4.out w' hw').2.2.1
      have d2 : w'.cell? ⟨w.heap.size, 2, none⟩ = some (.bool cl) := cell_of_row w' w.heap.size 2 _ _ _ (HW4.out w' hw').2.2.1
      have d3 : w'.cell? ⟨w.heap.size, 3, none⟩ = some (.int .i64 sk) := cell_of_row w' w.heap.size 3 _ _ _ (HW4.out w' hw').2.2.1
      have d4 : w'.cell? ⟨w.heap.size, 4, none⟩ = some (.int .i64 mo) := cell_of_row w' w.heap.size 4 _ _ _ (HW4.out w' hw').2.2.1
      go_simp
    case ha25 =>
      simp only [Act.put, List.setIfInBounds_toArray, List.set_cons_zero, List.set_cons_succ]
      rfl
    refine one_ (i := 23) (N := some 46) #[true, true, true, true, true, true, true, true, true, true, true, true, true, true, true, true, true, true, true, true, true, true, true, true, true, false, true, true, true, true, false, false, false, false, false, false, false] rfl rfl (by kernel_rfl) (by decide) (fun K hK => ?_)
    refine goes_ Tryz.func27 (by kernel_rfl) rfl #[.agg (chA sd u (.pointer tu)), .agg #[.slice Af nf cf, .slice At nt ct, .bool cl], .int .i64 sk, .int .i64 mo] (by rfl) rfl rfl (by simp only [List.map_toArray, List.map_cons, List.map_nil]; rfl) ?_
    refine ((HRG.out w7 (HALL.out _ (HW4.out _ Hw7).1).1 (HALL.out _ (HW4.out _ Hw7).1).2.1).2).mono ?_
    rintro e w8 ⟨A8, c8, rfl, hl_, hr_, hb_⟩
    have H8 : Hid (LIn (New w7.heap.size) w8 A8 (sm sk mo C.reverse).length (sm sk mo C.reverse) ∧ Below w4.heap.size w4 w8) := ⟨hr_, Hw7.trans (hb_.mono Hw7.size)⟩
    clear hl_ hr_ hb_
    refine ⟨_, rfl, hK.out _ _ H8.out.2 (fun hHeld => ?_)⟩
    simp only [Act.put, List.setIfInBounds_toArray, List.set_cons_zero, List.set_cons_succ]
    have Hw8 : Below w4.heap.size w4 w8 := H8.out.2
    refine one_ (i := 25) (N := some 48) #[true, true, true, true, true, true, true, true, true, true, true, true, true, true, true, true, true, true, true, true, true, true, true, true, true, true, true, true, true, true, false, false, false, false, false, false, false] rfl rfl (by kernel_rfl) (by decide) (fun K hK => ?_)
    refine goes_ Tryz.func28 (by kernel_rfl) rfl #[.slice A5 C.length c5] (by rfl) rfl rfl (by simp only [List.map_toArray, List.map_cons, List.map_nil]; rfl) ?_
    refine (rturn_any C A5 C.length c5 w8 (HW4.out w8 Hw8).2.2.2 (by have := HCX.out; omega)).mono ?_
    rintro e w9 ⟨A9, c9, rfl, hl_, hr_, hb_⟩
    have B89 : Below w8.heap.size w8 w9 := hb_
    have H9 : Hid (MIn (New w8.heap.size) w9 A9 (C.reverse).length (C.reverse) ∧ Below w4.heap.size w4 w9) := ⟨hr_, Hw8.trans (hb_.mono Hw8.size)⟩
    clear hl_ hr_ hb_
    refine ⟨_, rfl, hK.out _ _ H9.out.2 (fun hHeld => ?_)⟩
    simp only [Act.put, List.setIfInBounds_toArray, List.set_cons_zero, List.set_cons_succ]
    have Hw9 : Below w4.heap.size w4 w9 := H9.out.2
    refine one_ (i := 30) (N := some 53) #[true, true, true, true, true, true, true, true, true, true, true, true, true, true, true, true, true, true, true, true, true, true, true, true, true, true, true, true, true, true, true, false, false, false, false, false, false] rfl rfl (by kernel_rfl) (by decide) (fun K hK => ?_)
    refine goes_ Tryz.func26 (by kernel_rfl) rfl #[.slice A9 C.reverse.length c9, .int .i64 sk, .int .i64 mo] (by rfl) rfl rfl (by simp only [List.map_toArray, List.map_cons, List.map_nil]; rfl) ?_
    refine (rsome_any C.reverse A9 C.reverse.length c9 sk mo w9 H9.out.1 (by rw [List.length_reverse]; have := HCX.out; omega)).mono ?_
    rintro e w10 ⟨A10, c10, rfl, hl_, hr_, hb_⟩
    have B910 : Below w9.heap.size w9 w10 := hb_
    have H10 : Hid (MIn (New w9.heap.size) w10 A10 (sm sk mo C.reverse).length (sm sk mo C.reverse) ∧ Below w4.heap.size w4 w10) := ⟨hr_, Hw9.trans (hb_.mono Hw9.size)⟩
    clear hl_ hr_ hb_
    refine ⟨_, rfl, hK.out _ _ H10.out.2 (fun hHeld => ?_)⟩
    simp only [Act.put, List.setIfInBounds_toArray, List.set_cons_zero, List.set_cons_succ]
    have Hw10 : Below w4.heap.size w4 w10 := H10.out.2
    refine one_ (i := 31) (N := some 54) #[true, true, true, true, true, true, true, true, true, true, true, true, true, true, true, true, true, true, true, true, true, true, true, true, true, true, true, true, true, true, true, true, false, false, false, false, false] rfl rfl (by kernel_rfl) (by decide) (fun K hK => ?_)
    refine goes_ Tryz.func24 (by kernel_rfl) rfl #[.slice A8 (sm sk mo C.reverse).length c8, .slice A10 (sm sk mo C.reverse).length c10] (by rfl) rfl rfl (by simp only [List.map_toArray, List.map_cons, List.map_nil]; rfl) ?_
    refine (mis_any (sm sk mo C.reverse) A8 A10 (sm sk mo C.reverse).length c8 c10 w10 ((H8.out.1.below B89).below B910) H10.out.1 (by rw [sm_len]; (try rw [List.length_reverse]); have := HCX.out; omega)).mono ?_
    rintro e w11_ ⟨rfl, q_, rfl⟩
    have Hw11 : Below w4.heap.size w4 (w10.drewN q_) := below_drewN Hw10 q_
    obtain ⟨w11, hw11_⟩ : ∃ V, w10.drewN q_ = V := ⟨_, rfl⟩
    rw [hw11_] at Hw11 ⊢
    clear hw11_
    refine ⟨_, rfl, hK.out _ _ Hw11 (fun hHeld => ?_)⟩
    simp only [Act.put, List.setIfInBounds_toArray, List.set_cons_zero, List.set_cons_succ]
    refine pure_ (i := 32) (N := some 55) (v := ?vv26) (a' := ?aa26) #[true, true, true, true, true, true, true, true, true, true, true, true, true, true, true, true, true, true, true, true, true, true, true, true, true, true, true, true, true, true, true, true, true, false, false, false, false] rfl rfl (by kernel_rfl) (fun _ _ _ h => h) (Or.inl ⟨by rfl, ?hy26⟩) ?ha26 ?hn26
    case hy26 =>
      intro w'
      go_simp
      with_reducible rfl
    case ha26 =>
      simp only [Act.put, List.setIfInBounds_toArray, List.set_cons_zero, List.set_cons_succ]
      rfl
    refine pure_ (i := 33) (N := some 56) (v := ?vv27) (a' := ?aa27) #[true, true, true, true, true, true, true, true, true, true, true, true, true, true, true, true, true, true, true, true, true, true, true, true, true, true, true, true, true, true, true, true, true, true, false, false, false] rfl rfl (by kernel_rfl) (fun _ _ _ h => h) (Or.inl ⟨by rfl, ?hy27⟩) ?ha27 ?hn27
    case hy27 =>
      intro w'
      go_simp
      with_reducible rfl
    case ha27 =>
      simp only [Act.put, List.setIfInBounds_toArray, List.set_cons_zero, List.set_cons_succ]
      rfl
    refine one_ (i := 34) (N := some 57) #[true, true, true, true, true, true, true, true, true, true, true, true, true, true, true, true, true, true, true, true, true, true, true, true, true, true, true, true, true, true, true, true, true, true, true, false, false] rfl rfl (by kernel_rfl) (by decide) (fun K hK => ?_)
    refine goes_ Tryz.func9 (by kernel_rfl) rfl #[] (by rfl) rfl rfl (by simp only [List.map_toArray, List.map_nil]) ?_
    refine (awake23_any w11 (HO.out _ (HALL.out _ (HW4.out _ Hw11).1).2.2.2.2.2).2.2.2.2.2).mono ?_
    rintro e w12 ⟨rfl, hb_⟩
    have Hw12 : Below w4.heap.size w4 w12 := Hw11.trans (hb_.mono Hw11.size)
    clear hb_
    refine ⟨_, rfl, hK.out _ _ Hw12 (fun hHeld => ?_)⟩
    simp only [Act.put, List.setIfInBounds_toArray, List.set_cons_zero, List.set_cons_succ]
    refine pure_ (i := 35) (N := some 58) (v := ?vv28) (a' := ?aa28) #[true, true, true, true, true, true, true, true, true, true, true, true, true, true, true, true, true, true, true, true, true, true, true, true, true, true, true, true, true, true, true, true, true, true, true, true, false] rfl rfl (by kernel_rfl) (fun _ _ _ h => h) (Or.inl ⟨by rfl, ?hy28⟩) ?ha28 ?hn28
    case hy28 =>
      intro w'
      go_simp
      with_reducible rfl
    case ha28 =>
      simp only [Act.put, List.setIfInBounds_toArray, List.set_cons_zero, List.set_cons_succ]
      rfl
    refine pure_ (i := 36) (N := some 4) (v := ?vv29) (a' := ?aa29) #[true, true, true, true, true, true, true, true, true, true, true, true, true, true, true, true, true, true, true, true, true, true, true, true, true, true, true, true, true, true, true, true, true, true, true, true, true] rfl rfl (by kernel_rfl) (fun _ _ _ h => h) (Or.inl ⟨by rfl, ?hy29⟩) ?ha29 ?hn29
    case hy29 =>
      intro w'
      go_simp
      with_reducible rfl
    case ha29 =>
      simp only [Act.put, List.setIfInBounds_toArray, List.set_cons_zero, List.set_cons_succ]
      rfl
    refine done_ (by kernel_rfl) ?_
    have HBQ : Hid (Below w.heap.size w w12) := (HO.out _ (HALL.out _ (HW4.out _ Hw12).1).2.2.2.2.2).1
    go_wp2_with fail
    go_ret
    exact ⟨rfl, HBQ.out⟩

end Go.Proofs.YtphjaebkcimklaaGreatDoor
