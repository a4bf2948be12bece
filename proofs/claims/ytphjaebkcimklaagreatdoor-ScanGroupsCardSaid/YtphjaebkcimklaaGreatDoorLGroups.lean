/- The law ScanGroups. -/
import Derived.Test.YtphjaebkcimklaaGreatDoorMlaw
import Derived.Test.YtphjaebkcimklaaGreatDoorMgq
set_option linter.unusedVariables false
set_option linter.unusedSimpArgs false
namespace Go.Proofs.YtphjaebkcimklaaGreatDoor
open Go.RowKit Go.Shelf Go.Proofs.YtphjaebkcimklaaGreatDoorW.PrintLast
attribute [local go_sem] Oper.semAt_some

theorem own_low {w : World} {base base' : Nat} {e : TypeId} {size n : Nat} {v : Value} {xs : List Value} (h : w.ownsRow base e size v n xs) (hb : base' ≤ base) : w.ownsRow base' e size v n xs :=
  ⟨h.1, h.2.imp id (by rintro ⟨g, cap, cur, e, hb', hr⟩; exact ⟨g, cap, cur, e, Nat.le_trans hb hb', hr⟩)⟩
/-- The law's loop over the groups. -/
def GrI (b8 : Nat) (w6 : World) (pre : List (Value × Nat)) (V : World) : Prop := KD (fun b => b ≠ b8 ∧ b < w6.heap.size) w6 V ∧ One 3 V b8 (.int .i64 (pre.length : Int))
def GrX (b8 : Nat) (w6 : World) (mo : Int) (cd : Code) (pre : List (Value × Nat)) (V : World) : Prop := cd = .exit 0 ∧ GrI b8 w6 pre V ∧ (pre.length : Int) = mo
theorem GrI.outs {b8 k : Nat} {w6 A B : World} {pre : List (Value × Nat)} (h : GrI b8 w6 pre A) (ho : Outs w6.heap.size k A B) (hb : b8 < w6.heap.size) : GrI b8 w6 pre B :=
  ⟨h.1.trans ⟨ho.os, ho.tape, ho.output, ho.size, fun b hb' hlt => ho.block b hlt (by omega)⟩, h.2.block (ho.block _ h.2.lt (by omega))⟩
/-- The document's groups, in their box. -/
def WantIn (Y V : World) (p : Value) (G : Grps) : Prop := ∃ q A c, p = .pointer (some ⟨q, 0, none⟩) ∧ Hid (Y.heap.size ≤ q ∧ One 42 V q (.slice A G.length c) ∧ V.ownsRow Y.heap.size 52 2 (.slice A G.length c) G.length (gvals G) ∧ Below Y.heap.size Y V)
theorem want_fin {Y V : World} {q : Nat} {A : Option Addr} {c : Nat} {G : Grps} (hq : Y.heap.size ≤ q) (hz : One 42 V q (.slice none 0 0)) (ho : V.ownsRow Y.heap.size 52 2 (.slice A G.length c) G.length (gvals G)) (hb : Below Y.heap.size Y V) :
    WantIn Y (V.setCell ⟨q, 0, none⟩ (.slice A G.length c)) (.pointer (some ⟨q, 0, none⟩)) G := by
  refine ⟨q, A, c, rfl, Lib.hid ⟨hq, hz.set _, own_set ho (fun e => ?_) _ _, hb.setCell (p := ⟨q, 0, none⟩) hq _⟩⟩
  rcases ho.2 with ⟨hv, _⟩ | ⟨g, cap, cur, hv, _, hg, _⟩
  · rw [hv] at e; cases e
  · rw [hv] at e
    have e2 : g = q := Option.some.inj e
    subst e2
    rw [show V.heap[g]? = _ from hz] at hg
    cases hg

set_option maxRecDepth 100000 in
set_option maxHeartbeats 3200000 in
theorem scanGroups_any (A : Option Addr) (n c : Nat) (L : List (Int × Bytes × Bytes)) (fv tv : Value) (f t : Bytes) (cl : Bool) (sk mo : Int) (w : World) (h : Ops w A n L) (hf : BRaw w fv f) (ht : BRaw w tv t) (hsk : (Lit.int .i64 sk).wf = true) (hT : Tabs w) :
    Calls Tryz.prog 3 #[.slice A n c, .agg #[fv, tv, .bool cl, .int .i64 sk, .int .i64 mo]] w fun e w' => e = .returned (.bool true) ∧ Below w.heap.size w w' := by
  obtain ⟨Af, nf, cf, rfl, _, _, h3f⟩ := id hf
  obtain ⟨At, nt, ct, rfl, _, _, h3t⟩ := id ht
  have HLN : Hid (f.length = nf ∧ t.length = nt) := ⟨h3f.len, h3t.len⟩
  have hb : Below w.heap.size w ((w.alloc (.cells #[.slice Af nf cf, .slice At nt ct, .bool cl, .int .i64 sk, .int .i64 mo] 27)).alloc (.cells #[.bool false] 4)) := ((Below.refl _ w).alloc (Nat.le_refl _) _).alloc (by simp) _
  have e0 : ((w.alloc (.cells #[.slice Af nf cf, .slice At nt ct, .bool cl, .int .i64 sk, .int .i64 mo] 27)).alloc (.cells #[.bool false] 4)).heap[w.heap.size]? = some (.cells #[.slice Af nf cf, .slice At nt ct, .bool cl, .int .i64 sk, .int .i64 mo] 27 (0, 0)) := heap_old _ (heap_new w _)
  have e1 : One 4 ((w.alloc (.cells #[.slice Af nf cf, .slice At nt ct, .bool cl, .int .i64 sk, .int .i64 mo] 27)).alloc (.cells #[.bool false] 4)) (w.heap.size + 1) (.bool false) := by
    have := heap_new (w.alloc (.cells #[.slice Af nf cf, .slice At nt ct, .bool cl, .int .i64 sk, .int .i64 mo] 27)) (.cells #[.bool false] 4)
    rw [World.size_alloc] at this
    exact this
  have HO : Hid (∀ W, Below ((w.alloc (.cells #[.slice Af nf cf, .slice At nt ct, .bool cl, .int .i64 sk, .int .i64 mo] 27)).alloc (.cells #[.bool false] 4)).heap.size ((w.alloc (.cells #[.slice Af nf cf, .slice At nt ct, .bool cl, .int .i64 sk, .int .i64 mo] 27)).alloc (.cells #[.bool false] 4)) W →
      Below w.heap.size w W ∧ Ops W A n L ∧ BRaw W (.slice Af nf cf) f ∧ BRaw W (.slice At nt ct) t ∧ W.heap[w.heap.size]? = some (.cells #[.slice Af nf cf, .slice At nt ct, .bool cl, .int .i64 sk, .int .i64 mo] 27 (0, 0)) ∧ One 4 W (w.heap.size + 1) (.bool false) ∧ Tabs W) := fun W hW => by
    have h2 := hb.trans (hW.mono hb.size)
    exact ⟨h2, h.below h2, hf.below h2, ht.below h2, (hW.block _ (Array.getElem?_eq_some_iff.1 e0).1).trans e0, e1.below hW e1.lt, hT.below h2⟩
  have HWT := Lib.hid (fun (V : World) (hV : Below w.heap.size w V) => hT.below hV)
  clear h hf ht h3f h3t hb e0 e1 hT
  have HSKW := Lib.hid hsk
  clear hsk
  refine (callsIn_wide (n := 1)).1 (callsIn_of_wp_marks Tryz.func3 rfl trivial ((wpIn_wide (n := 1)).2 ?_) rfl)
  simp only [Tryz.ntmps3, List.size_toArray, List.length_cons, List.length_nil, Nat.reduceAdd, Nat.reduceSub, Array.replicate_succ, Array.replicate_zero, List.push_toArray, List.append_toArray, List.nil_append, List.cons_append]
  go_upto_region 1 with fail
  generalize ((w.alloc (.cells #[.slice Af nf cf, .slice At nt ct, .bool cl, .int .i64 sk, .int .i64 mo] 27)).alloc (.cells #[.bool false] 4)) = X at *
  have HF := Lib.hid (fine23_any A n c L Af At nf cf nt ct cl sk mo X (HO.out X (Below.refl _ _)).2.1)
  have b0 : X.cell? ⟨w.heap.size, 0, none⟩ = some (.slice Af nf cf) := cell_of_row X w.heap.size 0 _ _ _ (HO.out X (Below.refl _ _)).2.2.2.2.1
  have b1 : X.cell? ⟨w.heap.size, 1, none⟩ = some (.slice At nt ct) := cell_of_row X w.heap.size 1 _ _ _ (HO.out X (Below.refl _ _)).2.2.2.2.1
  have b2 : X.cell? ⟨w.heap.size, 2, none⟩ = some (.bool cl) := cell_of_row X w.heap.size 2 _ _ _ (HO.out X (Below.refl _ _)).2.2.2.2.1
  have b3 : X.cell? ⟨w.heap.size, 3, none⟩ = some (.int .i64 sk) := cell_of_row X w.heap.size 3 _ _ _ (HO.out X (Below.refl _ _)).2.2.2.2.1
  have b4 : X.cell? ⟨w.heap.size, 4, none⟩ = some (.int .i64 mo) := cell_of_row X w.heap.size 4 _ _ _ (HO.out X (Below.refl _ _)).2.2.2.2.1
  go_wp2_with fail
  refine HF.out.mono ?_
  rintro e w1 ⟨r, rfl, hr, hb1⟩
  have HB1 : Hid (Below X.heap.size X w1) := hb1
  clear hb1 b0 b1 b2 b3 b4
  cases r with
  | false =>
    clear hr
    go_wp2_with fail
    refine (awake23_any w1 (HO.out w1 HB1.out).2.2.2.2.2.2).mono ?_
    rintro e wz ⟨rfl, hz⟩
    have HZ : Hid (Below X.heap.size X wz) := HB1.out.trans (hz.mono HB1.out.size)
    clear hz
    have hr4 := (HO.out wz HZ.out).2.2.2.2.2.1
    have z0 := hr4.cell
    have zf := hr4.frozen
    have HFIN := Lib.hid (And.intro (hr4.set (.bool true)) ((HO.out wz HZ.out).1.setCell (p := ⟨w.heap.size + 1, 0, none⟩) (by show w.heap.size ≤ w.heap.size + 1; omega) (.bool true)))
    clear hr4
    go_wp2_with fail
    exact leave_one rfl (by rfl) HFIN.out.1 ⟨rfl, HFIN.out.2⟩
  | true =>
    have HFI := Lib.hid (hr rfl)
    clear hr
    have HSP : Hid (∀ W, Below X.heap.size X W → SIn (fun _ => True) W (.agg #[.slice Af nf cf, .slice At nt ct, .bool cl]) f t cl) := fun W hW => by
      have h1 := HFI.out
      have h2 := HLN.out
      have h3 := HO.out W hW
      exact ⟨_, _, rfl, h3.2.2.1.fine (by omega), h3.2.2.2.1.fine (by omega)⟩
    have HMD := Lib.hid (made23_any A n c L w1 (HO.out w1 HB1.out).2.1 HFI.out.1 (HO.out w1 HB1.out).2.2.2.2.2.2)
    go_wp2_with fail
    refine HMD.out.mono ?_
    rintro e w2 ⟨sd, u, tu, A', c', T, rfl, hI⟩
    have HB2 : Hid (Below X.heap.size X w2) := HB1.out.trans (hI.out.below.mono HB1.out.size)
    have HS := Lib.hid hI.out.sc.seed
    have HU := Lib.hid hI.out.sc.one
    have HZN : Hid ((w2.alloc (.cells z38 38)).heap[w2.heap.size]? = some (.cells z38 38 (0, 0))) := heap_new w2 _
    have HCB := Lib.hid (chBox w2 sd u tu)
    clear HMD
    go_upto_region 4 with (refine wpList_store_row rfl 38 _ _ rfl w2.heap.size (chA sd u (.pointer tu)) rfl rfl 38 _ HZN.out (size_of info38 (chA_size HS.out.1)) (by rw [chA_size HS.out.1]; rfl) (chA_one HS.out HU.out rfl) ?_)
    clear HZN
    generalize (w2.alloc (.cells z38 38)).setRow w2.heap.size (chA sd u (.pointer tu)) = Y at *
    have HBY : Hid (Below X.heap.size X Y) := HB2.out.trans (HCB.out.below.mono HB2.out.size)
    have HALL : Hid (∀ W, Below Y.heap.size Y W → Sc W sd u tu T ∧ SIn (fun _ => True) W (.agg #[.slice Af nf cf, .slice At nt ct, .bool cl]) f t cl ∧ MIn (fun _ => True) W A' T.list.length T.list ∧ W.rangeAt w2.heap.size 0 (chA sd u (.pointer tu)).toList ∧ W.heap[w.heap.size]? = some (.cells #[.slice Af nf cf, .slice At nt ct, .bool cl, .int .i64 sk, .int .i64 mo] 27 (0, 0)) ∧ Below X.heap.size X W) := fun W hW => by
      have h2 := HBY.out.trans (hW.mono HBY.out.size)
      have h3 := HCB.out.below.trans (hW.mono HCB.out.below.size)
      exact ⟨hI.out.sc.below h3, HSP.out W h2, hI.out.min.below h3, HCB.out.ra hW, (HO.out W h2).2.2.2.2.1, h2⟩
    have HLEN : Hid (T.list.length ≤ 61 ∧ (∀ p ∈ T.list, p.1.length ≤ 100000) ∧ Asc T.list ∧ T.size ≤ 1000) := ⟨hI.out.len, hI.out.keys, hI.out.sc.asc, hI.out.sc.sz⟩
    have in38 := in38' (u := u) (p := .pointer tu) HS.out
    have HCX : Hid ((cutM T.list f t cl true).length ≤ 61) := Nat.le_trans (cutM_len _ _ _ _ _) hI.out.len
    have HCK : Hid (∀ p ∈ cutM T.list f t cl true, p.1.length ≤ 100000) := cutM_keys f t cl true hI.out.keys
    clear hI
    obtain ⟨wn, hwn⟩ : ∃ wn : Nat, sk.toNat = wn := ⟨_, rfl⟩
    have HWN : Hid ((sk < 0 ∧ wn = 0) ∨ (0 ≤ sk ∧ (wn : Int) = sk ∧ ¬ sk < 0)) := by
      by_cases h0 : sk < 0
      · exact .inl ⟨h0, by omega⟩
      · exact .inr ⟨by omega, by omega, h0⟩
    have HWK := Lib.hid hwn
    clear hwn
    have ul38 := Tryz.underlying38
    go_cut [7] from 22 to 31 (fun p V => WantIn Y V p (grps wn (cutM T.list f t cl true)))
    case first =>
      refine wp_region_noPanic ?_
      refine start_ (n := 11) (S := fun w' => Below Y.heap.size Y w') (ds := [10]) #[false, false, false, false, false, false, false, false, false, false, false] (by kernel_rfl) rfl rfl (below_drew2 (Below.refl _ _)) (fun hHeld => ?_)
      refine pure_ (i := 0) (N := some 22) (v := ?vv1) (a' := ?aa1) #[true, false, false, false, false, false, false, false, false, false, false] rfl rfl (by kernel_rfl) (fun _ _ _ h => h) (Or.inl ⟨by rfl, ?hy1⟩) ?ha1 ?hn1
      case hy1 =>
        intro w'
        go_simp
        with_reducible rfl
      case ha1 =>
        simp only [Act.put, List.setIfInBounds_toArray, List.set_cons_zero, List.set_cons_succ]
        rfl
      refine pure_ (i := 1) (N := some 23) (v := ?vv2) (a' := ?aa2) #[true, true, false, false, false, false, false, false, false, false, false] rfl rfl (by kernel_rfl) (fun _ _ _ h => h) (Or.inl ⟨by rfl, ?hy2⟩) ?ha2 ?hn2
      case hy2 =>
        intro w'
        go_simp
        with_reducible rfl
      case ha2 =>
        simp only [Act.put, List.setIfInBounds_toArray, List.set_cons_zero, List.set_cons_succ]
        rfl
      refine take_ (i := 2) (N := some 24) (v := .agg #[.slice Af nf cf, .slice At nt ct, .bool cl]) (a' := ?aa3) #[true, true, true, false, false, false, false, false, false, false, false] rfl rfl (by kernel_rfl) (fun _ _ _ h => h) (Or.inl ⟨by rfl, ?hy3⟩) hHeld ?ha3 ?hn3
      case hy3 =>
        rintro w' hw'
        have d0 : w'.cell? ⟨w.heap.size, 0, none⟩ = some (.slice Af nf cf) := cell_of_row w' w.heap.size 0 _ _ _ (HALL.out w' hw').2.2.2.2.1
        have d1 : w'.cell? ⟨w.heap.size, 1, none⟩ = some (.slice At nt ct) := cell_of_row w' w.heap.size 1 _ _ _ (HALL.out w' hw').2.2.2.2.1
        have d2 : w'.cell? ⟨w.heap.size, 2, none⟩ = some (.bool cl) := cell_of_row w' w.heap.size 2 _ _ _ (HALL.out w' hw').2.2.2.2.1
        have d3 : w'.cell? ⟨w.heap.size, 3, none⟩ = some (.int .i64 sk) := cell_of_row w' w.heap.size 3 _ _ _ (HALL.out w' hw').2.2.2.2.1
        have d4 : w'.cell? ⟨w.heap.size, 4, none⟩ = some (.int .i64 mo) := cell_of_row w' w.heap.size 4 _ _ _ (HALL.out w' hw').2.2.2.2.1
        go_simp
      case ha3 =>
        simp only [Act.put, List.setIfInBounds_toArray, List.set_cons_zero, List.set_cons_succ]
        rfl
      refine pure_ (i := 5) (N := some 27) (v := ?vv4) (a' := ?aa4) #[true, true, true, false, false, true, false, false, false, false, false] rfl rfl (by kernel_rfl) (fun _ _ _ h => h) (Or.inl ⟨by rfl, ?hy4⟩) ?ha4 ?hn4
      case hy4 =>
        intro w'
        go_simp
        with_reducible rfl
      case ha4 =>
        simp only [Act.put, List.setIfInBounds_toArray, List.set_cons_zero, List.set_cons_succ]
        rfl
      refine take_ (i := 6) (N := some 28) (v := .int .i64 sk) (a' := ?aa5) #[true, true, true, false, false, true, true, false, false, false, false] rfl rfl (by kernel_rfl) (fun _ _ _ h => h) (Or.inl ⟨by rfl, ?hy5⟩) hHeld ?ha5 ?hn5
      case hy5 =>
        rintro w' hw'
        have d0 : w'.cell? ⟨w.heap.size, 0, none⟩ = some (.slice Af nf cf) := cell_of_row w' w.heap.size 0 _ _ _ (HALL.out w' hw').2.2.2.2.1
        have d1 : w'.cell? ⟨w.heap.size, 1, none⟩ = some (.slice At nt ct) := cell_of_row w' w.heap.size 1 _ _ _ (HALL.out w' hw').2.2.2.2.1
        have d2 : w'.cell? ⟨w.heap.size, 2, none⟩ = some (.bool cl) := cell_of_row w' w.heap.size 2 _ _ _ (HALL.out w' hw').2.2.2.2.1
        have d3 : w'.cell? ⟨w.heap.size, 3, none⟩ = some (.int .i64 sk) := cell_of_row w' w.heap.size 3 _ _ _ (HALL.out w' hw').2.2.2.2.1
        have d4 : w'.cell? ⟨w.heap.size, 4, none⟩ = some (.int .i64 mo) := cell_of_row w' w.heap.size 4 _ _ _ (HALL.out w' hw').2.2.2.2.1
        go_simp
      case ha5 =>
        simp only [Act.put, List.setIfInBounds_toArray, List.set_cons_zero, List.set_cons_succ]
        rfl
      refine pure_ (i := 7) (N := some 29) (v := .int .i64 (wn : Int)) (a' := ?aa6) #[true, true, true, false, false, true, true, true, false, false, false] rfl rfl (by kernel_rfl) (fun _ _ _ h => h) (Or.inl ⟨by rfl, ?hy6⟩) ?ha6 ?hn6
      case hy6 =>
        intro w'
        rcases HWN.out with ⟨hs1, rfl⟩ | ⟨hs1, hs2, hs3⟩
        · go_simp
        · rw [hs2]
          go_simp
      case ha6 =>
        simp only [Act.put, List.setIfInBounds_toArray, List.set_cons_zero, List.set_cons_succ]
        rfl
      have hb_ : Below Y.heap.size Y Y.drew := below_drew2 (Below.refl _ _)
      refine two_ (i := 3) (j := 9) (Ni := some 25) (Nj := some 7) #[true, true, true, true, false, true, true, true, false, false, false] #[true, true, true, false, false, true, true, true, false, true, false] rfl rfl rfl rfl (by kernel_rfl) (by decide) (by decide) (fun K hK => ?_) (fun K hK => ?_)
      · refine goes_ Tryz.func13 (by kernel_rfl) rfl #[.agg #[.slice Af nf cf, .slice At nt ct, .bool cl]] (by rfl) rfl rfl (by simp only [List.map_toArray, List.map_cons, List.map_nil]; rfl) ?_
        refine (ref_any (S := fun _ => True) _ f t cl Y.drew (HALL.out _ hb_).2.1).mono ?_
        rintro e w11 ⟨rfl, hbn_⟩
        replace hb_ : Below Y.heap.size Y w11 := hb_.trans (hbn_.mono hb_.size)
        clear hbn_
        refine ⟨_, rfl, hK.out _ _ hb_ (fun hHeld => ?_)⟩
        simp only [Act.put, List.setIfInBounds_toArray, List.set_cons_zero, List.set_cons_succ]
        refine two_ (i := 4) (j := 9) (Ni := some 26) (Nj := some 7) #[true, true, true, true, true, true, true, true, false, false, false] #[true, true, true, true, false, true, true, true, false, true, false] rfl rfl rfl rfl (by kernel_rfl) (by decide) (by decide) (fun K hK => ?_) (fun K hK => ?_)
        · refine goes_ Tryz.func12 (by kernel_rfl) rfl #[.slice A' T.list.length c', .agg #[.string (strO f), .string (strO t), .bool cl], .bool true] (by rfl) rfl rfl (by simp only [List.map_toArray, List.map_cons, List.map_nil]; rfl) ?_
          refine (mcut_any T.list A' T.list.length c' (strO f) (strO t) cl true w11 (HALL.out _ hb_).2.2.1 (by have := HLEN.out.1; omega) HLEN.out.2.1).mono ?_
          rw [strL_strO, strL_strO]
          rintro e w12 ⟨A5, c5, rfl, hl_, hm_, hbn_⟩
          clear hl_
          replace hb_ : Below Y.heap.size Y w12 := hb_.trans (hbn_.mono hb_.size)
          clear hbn_
          refine ⟨_, rfl, hK.out _ _ hb_ (fun hHeld => ?_)⟩
          simp only [Act.put, List.setIfInBounds_toArray, List.set_cons_zero, List.set_cons_succ]
          refine two_ (i := 8) (j := 9) (Ni := some 30) (Nj := some 7) #[true, true, true, true, true, true, true, true, true, false, false] #[true, true, true, true, true, true, true, true, false, true, false] rfl rfl rfl rfl (by kernel_rfl) (by decide) (by decide) (fun K hK => ?_) (fun K hK => ?_)
          · refine goes_ Tryz.func11 (by kernel_rfl) rfl #[.slice A5 (cutM T.list f t cl true).length c5, .int .i64 (wn : Int)] (by rfl) rfl rfl (by simp only [List.map_toArray, List.map_cons, List.map_nil]; rfl) ?_
            refine (rgroups_any (cutM T.list f t cl true) A5 (cutM T.list f t cl true).length c5 wn w12 hm_ (by have := HCX.out; omega) HCK.out).mono ?_
            rintro e w13 ⟨v5, rfl, hoo_, hbn_⟩
            obtain ⟨A6, c6, rfl⟩ := own_slice hoo_
            have ho_ : w13.ownsRow Y.heap.size 52 2 (.slice A6 (grps wn (cutM T.list f t cl true)).length c6) (grps wn (cutM T.list f t cl true)).length (gvals (grps wn (cutM T.list f t cl true))) := own_low hoo_ hb_.size
            clear hoo_
            clear hm_
            replace hb_ : Below Y.heap.size Y w13 := hb_.trans (hbn_.mono hb_.size)
            clear hbn_
            refine ⟨_, rfl, hK.out _ _ hb_ (fun hHeld => ?_)⟩
            simp only [Act.put, List.setIfInBounds_toArray, List.set_cons_zero, List.set_cons_succ]
            refine one_ (i := 9) (N := some 7) #[true, true, true, true, true, true, true, true, true, true, false] rfl rfl (by kernel_rfl) (by decide) (fun K hK => ?_)
            refine value_ (w1 := w13.alloc (.cells #[.slice none 0 0] 42)) (v := .pointer (some ⟨w13.heap.size, 0, none⟩)) (by rfl) rfl ?_ ?_
            · go_simp
            have hz_ : One 42 (w13.alloc (.cells #[.slice none 0 0] 42)) w13.heap.size (.slice none 0 0) := heap_new _ _
            have hq_ : Y.heap.size ≤ w13.heap.size := hb_.size
            replace ho_ := ho_.alloc (.cells #[.slice none 0 0] 42)
            replace hb_ := hb_.alloc hb_.size (.cells #[.slice none 0 0] 42)
            refine hK.out _ _ hb_ (fun hHeld => ?_)
            simp only [Act.put, List.setIfInBounds_toArray, List.set_cons_zero, List.set_cons_succ]
            obtain ⟨w14, hx_⟩ : ∃ V, w13.alloc (.cells #[.slice none 0 0] 42) = V := ⟨_, rfl⟩
            rw [hx_] at ho_ hz_ hb_ hHeld ⊢
            clear hx_
            have zc_ := hz_.cell
            have zf_ := hz_.frozen
            refine last_ (i := 10) (N := none) #[true, true, true, true, true, true, true, true, true, true, true] rfl rfl (by kernel_rfl) (by decide) (fun K hK => ?_)
            refine skip_ (w1 := w14.setCell ⟨w13.heap.size, 0, none⟩ (.slice A6 (grps wn (cutM T.list f t cl true)).length c6)) (by rfl) rfl ?_ ?_
            · go_simp
            refine hK.out _ _ ?_
            refine done_ (by kernel_rfl) (NoPanic.normal ?_)
            have HWF := Lib.hid (want_fin (by first | exact Nat.le_refl _ | exact hq_) hz_ ho_ hb_)
            clear zc_ zf_ hz_ ho_ hb_
            go_wp2_with fail
            go_meet
            exact HWF.out
          · refine value_ (w1 := w12.alloc (.cells #[.slice none 0 0] 42)) (v := .pointer (some ⟨w12.heap.size, 0, none⟩)) (by rfl) rfl ?_ ?_
            · go_simp
            have hz_ : One 42 (w12.alloc (.cells #[.slice none 0 0] 42)) w12.heap.size (.slice none 0 0) := heap_new _ _
            have hq_ : Y.heap.size ≤ w12.heap.size := hb_.size
            replace hm_ := hm_.below ((Below.refl _ _).alloc (Nat.le_refl _) (.cells #[.slice none 0 0] 42))
            replace hb_ := hb_.alloc hb_.size (.cells #[.slice none 0 0] 42)
            refine hK.out _ _ hb_ (fun hHeld => ?_)
            simp only [Act.put, List.setIfInBounds_toArray, List.set_cons_zero, List.set_cons_succ]
            obtain ⟨w15, hx_⟩ : ∃ V, w12.alloc (.cells #[.slice none 0 0] 42) = V := ⟨_, rfl⟩
            rw [hx_] at hm_ hz_ hb_ hHeld ⊢
            clear hx_
            refine one_ (i := 8) (N := some 30) #[true, true, true, true, true, true, true, true, true, true, false] rfl rfl (by kernel_rfl) (by decide) (fun K hK => ?_)
            refine goes_ Tryz.func11 (by kernel_rfl) rfl #[.slice A5 (cutM T.list f t cl true).length c5, .int .i64 (wn : Int)] (by rfl) rfl rfl (by simp only [List.map_toArray, List.map_cons, List.map_nil]; rfl) ?_
            refine (rgroups_any (cutM T.list f t cl true) A5 (cutM T.list f t cl true).length c5 wn w15 hm_ (by have := HCX.out; omega) HCK.out).mono ?_
            rintro e w16 ⟨v5, rfl, hoo_, hbn_⟩
            obtain ⟨A6, c6, rfl⟩ := own_slice hoo_
            have ho_ : w16.ownsRow Y.heap.size 52 2 (.slice A6 (grps wn (cutM T.list f t cl true)).length c6) (grps wn (cutM T.list f t cl true)).length (gvals (grps wn (cutM T.list f t cl true))) := own_low hoo_ hb_.size
            clear hoo_
            replace hz_ := hz_.below hbn_ hz_.lt
            clear hm_
            replace hb_ : Below Y.heap.size Y w16 := hb_.trans (hbn_.mono hb_.size)
            clear hbn_
            refine ⟨_, rfl, hK.out _ _ hb_ (fun hHeld => ?_)⟩
            simp only [Act.put, List.setIfInBounds_toArray, List.set_cons_zero, List.set_cons_succ]
            have zc_ := hz_.cell
            have zf_ := hz_.frozen
            refine last_ (i := 10) (N := none) #[true, true, true, true, true, true, true, true, true, true, true] rfl rfl (by kernel_rfl) (by decide) (fun K hK => ?_)
            refine skip_ (w1 := w16.setCell ⟨w12.heap.size, 0, none⟩ (.slice A6 (grps wn (cutM T.list f t cl true)).length c6)) (by rfl) rfl ?_ ?_
            · go_simp
            refine hK.out _ _ ?_
            refine done_ (by kernel_rfl) (NoPanic.normal ?_)
            have HWF := Lib.hid (want_fin (by first | exact Nat.le_refl _ | exact hq_) hz_ ho_ hb_)
            clear zc_ zf_ hz_ ho_ hb_
            go_wp2_with fail
            go_meet
            exact HWF.out
        · refine value_ (w1 := w11.alloc (.cells #[.slice none 0 0] 42)) (v := .pointer (some ⟨w11.heap.size, 0, none⟩)) (by rfl) rfl ?_ ?_
          · go_simp
          have hz_ : One 42 (w11.alloc (.cells #[.slice none 0 0] 42)) w11.heap.size (.slice none 0 0) := heap_new _ _
          have hq_ : Y.heap.size ≤ w11.heap.size := hb_.size
          replace hb_ := hb_.alloc hb_.size (.cells #[.slice none 0 0] 42)
          refine hK.out _ _ hb_ (fun hHeld => ?_)
          simp only [Act.put, List.setIfInBounds_toArray, List.set_cons_zero, List.set_cons_succ]
          obtain ⟨w17, hx_⟩ : ∃ V, w11.alloc (.cells #[.slice none 0 0] 42) = V := ⟨_, rfl⟩
          rw [hx_] at hz_ hb_ hHeld ⊢
          clear hx_
          refine one_ (i := 4) (N := some 26) #[true, true, true, true, true, true, true, true, false, true, false] rfl rfl (by kernel_rfl) (by decide) (fun K hK => ?_)
          refine goes_ Tryz.func12 (by kernel_rfl) rfl #[.slice A' T.list.length c', .agg #[.string (strO f), .string (strO t), .bool cl], .bool true] (by rfl) rfl rfl (by simp only [List.map_toArray, List.map_cons, List.map_nil]; rfl) ?_
          refine (mcut_any T.list A' T.list.length c' (strO f) (strO t) cl true w17 (HALL.out _ hb_).2.2.1 (by have := HLEN.out.1; omega) HLEN.out.2.1).mono ?_
          rw [strL_strO, strL_strO]
          rintro e w18 ⟨A5, c5, rfl, hl_, hm_, hbn_⟩
          clear hl_
          replace hz_ := hz_.below hbn_ hz_.lt
          replace hb_ : Below Y.heap.size Y w18 := hb_.trans (hbn_.mono hb_.size)
          clear hbn_
          refine ⟨_, rfl, hK.out _ _ hb_ (fun hHeld => ?_)⟩
          simp only [Act.put, List.setIfInBounds_toArray, List.set_cons_zero, List.set_cons_succ]
          refine one_ (i := 8) (N := some 30) #[true, true, true, true, true, true, true, true, true, true, false] rfl rfl (by kernel_rfl) (by decide) (fun K hK => ?_)
          refine goes_ Tryz.func11 (by kernel_rfl) rfl #[.slice A5 (cutM T.list f t cl true).length c5, .int .i64 (wn : Int)] (by rfl) rfl rfl (by simp only [List.map_toArray, List.map_cons, List.map_nil]; rfl) ?_
          refine (rgroups_any (cutM T.list f t cl true) A5 (cutM T.list f t cl true).length c5 wn w18 hm_ (by have := HCX.out; omega) HCK.out).mono ?_
          rintro e w19 ⟨v5, rfl, hoo_, hbn_⟩
          obtain ⟨A6, c6, rfl⟩ := own_slice hoo_
          have ho_ : w19.ownsRow Y.heap.size 52 2 (.slice A6 (grps wn (cutM T.list f t cl true)).length c6) (grps wn (cutM T.list f t cl true)).length (gvals (grps wn (cutM T.list f t cl true))) := own_low hoo_ hb_.size
          clear hoo_
          replace hz_ := hz_.below hbn_ hz_.lt
          clear hm_
          replace hb_ : Below Y.heap.size Y w19 := hb_.trans (hbn_.mono hb_.size)
          clear hbn_
          refine ⟨_, rfl, hK.out _ _ hb_ (fun hHeld => ?_)⟩
          simp only [Act.put, List.setIfInBounds_toArray, List.set_cons_zero, List.set_cons_succ]
          have zc_ := hz_.cell
          have zf_ := hz_.frozen
          refine last_ (i := 10) (N := none) #[true, true, true, true, true, true, true, true, true, true, true] rfl rfl (by kernel_rfl) (by decide) (fun K hK => ?_)
          refine skip_ (w1 := w19.setCell ⟨w11.heap.size, 0, none⟩ (.slice A6 (grps wn (cutM T.list f t cl true)).length c6)) (by rfl) rfl ?_ ?_
          · go_simp
          refine hK.out _ _ ?_
          refine done_ (by kernel_rfl) (NoPanic.normal ?_)
          have HWF := Lib.hid (want_fin (by first | exact Nat.le_refl _ | exact hq_) hz_ ho_ hb_)
          clear zc_ zf_ hz_ ho_ hb_
          go_wp2_with fail
          go_meet
          exact HWF.out
      · refine value_ (w1 := Y.drew.alloc (.cells #[.slice none 0 0] 42)) (v := .pointer (some ⟨Y.heap.size, 0, none⟩)) (by rfl) rfl ?_ ?_
        · go_simp
        have hz_ : One 42 (Y.drew.alloc (.cells #[.slice none 0 0] 42)) Y.heap.size (.slice none 0 0) := heap_new _ _
        have hq_ : Y.heap.size ≤ Y.heap.size := hb_.size
        replace hb_ := hb_.alloc hb_.size (.cells #[.slice none 0 0] 42)
        refine hK.out _ _ hb_ (fun hHeld => ?_)
        simp only [Act.put, List.setIfInBounds_toArray, List.set_cons_zero, List.set_cons_succ]
        obtain ⟨w20, hx_⟩ : ∃ V, Y.drew.alloc (.cells #[.slice none 0 0] 42) = V := ⟨_, rfl⟩
        rw [hx_] at hz_ hb_ hHeld ⊢
        clear hx_
        refine one_ (i := 3) (N := some 25) #[true, true, true, true, false, true, true, true, false, true, false] rfl rfl (by kernel_rfl) (by decide) (fun K hK => ?_)
        refine goes_ Tryz.func13 (by kernel_rfl) rfl #[.agg #[.slice Af nf cf, .slice At nt ct, .bool cl]] (by rfl) rfl rfl (by simp only [List.map_toArray, List.map_cons, List.map_nil]; rfl) ?_
        refine (ref_any (S := fun _ => True) _ f t cl w20 (HALL.out _ hb_).2.1).mono ?_
        rintro e w21 ⟨rfl, hbn_⟩
        replace hz_ := hz_.below hbn_ hz_.lt
        replace hb_ : Below Y.heap.size Y w21 := hb_.trans (hbn_.mono hb_.size)
        clear hbn_
        refine ⟨_, rfl, hK.out _ _ hb_ (fun hHeld => ?_)⟩
        simp only [Act.put, List.setIfInBounds_toArray, List.set_cons_zero, List.set_cons_succ]
        refine one_ (i := 4) (N := some 26) #[true, true, true, true, true, true, true, true, false, true, false] rfl rfl (by kernel_rfl) (by decide) (fun K hK => ?_)
        refine goes_ Tryz.func12 (by kernel_rfl) rfl #[.slice A' T.list.length c', .agg #[.string (strO f), .string (strO t), .bool cl], .bool true] (by rfl) rfl rfl (by simp only [List.map_toArray, List.map_cons, List.map_nil]; rfl) ?_
        refine (mcut_any T.list A' T.list.length c' (strO f) (strO t) cl true w21 (HALL.out _ hb_).2.2.1 (by have := HLEN.out.1; omega) HLEN.out.2.1).mono ?_
        rw [strL_strO, strL_strO]
        rintro e w22 ⟨A5, c5, rfl, hl_, hm_, hbn_⟩
        clear hl_
        replace hz_ := hz_.below hbn_ hz_.lt
        replace hb_ : Below Y.heap.size Y w22 := hb_.trans (hbn_.mono hb_.size)
        clear hbn_
        refine ⟨_, rfl, hK.out _ _ hb_ (fun hHeld => ?_)⟩
        simp only [Act.put, List.setIfInBounds_toArray, List.set_cons_zero, List.set_cons_succ]
        refine one_ (i := 8) (N := some 30) #[true, true, true, true, true, true, true, true, true, true, false] rfl rfl (by kernel_rfl) (by decide) (fun K hK => ?_)
        refine goes_ Tryz.func11 (by kernel_rfl) rfl #[.slice A5 (cutM T.list f t cl true).length c5, .int .i64 (wn : Int)] (by rfl) rfl rfl (by simp only [List.map_toArray, List.map_cons, List.map_nil]; rfl) ?_
        refine (rgroups_any (cutM T.list f t cl true) A5 (cutM T.list f t cl true).length c5 wn w22 hm_ (by have := HCX.out; omega) HCK.out).mono ?_
        rintro e w23 ⟨v5, rfl, hoo_, hbn_⟩
        obtain ⟨A6, c6, rfl⟩ := own_slice hoo_
        have ho_ : w23.ownsRow Y.heap.size 52 2 (.slice A6 (grps wn (cutM T.list f t cl true)).length c6) (grps wn (cutM T.list f t cl true)).length (gvals (grps wn (cutM T.list f t cl true))) := own_low hoo_ hb_.size
        clear hoo_
        replace hz_ := hz_.below hbn_ hz_.lt
        clear hm_
        replace hb_ : Below Y.heap.size Y w23 := hb_.trans (hbn_.mono hb_.size)
        clear hbn_
        refine ⟨_, rfl, hK.out _ _ hb_ (fun hHeld => ?_)⟩
        simp only [Act.put, List.setIfInBounds_toArray, List.set_cons_zero, List.set_cons_succ]
        have zc_ := hz_.cell
        have zf_ := hz_.frozen
        refine last_ (i := 10) (N := none) #[true, true, true, true, true, true, true, true, true, true, true] rfl rfl (by kernel_rfl) (by decide) (fun K hK => ?_)
        refine skip_ (w1 := w23.setCell ⟨Y.heap.size, 0, none⟩ (.slice A6 (grps wn (cutM T.list f t cl true)).length c6)) (by rfl) rfl ?_ ?_
        · go_simp
        refine hK.out _ _ ?_
        refine done_ (by kernel_rfl) (NoPanic.normal ?_)
        have HWF := Lib.hid (want_fin (by first | exact Nat.le_refl _ | exact hq_) hz_ ho_ hb_)
        clear zc_ zf_ hz_ ho_ hb_
        go_wp2_with fail
        go_meet
        exact HWF.out
    case rest =>
      obtain ⟨q, A6, c6, rfl, HW7⟩ := hcut
      have hP8 : One 3 (wc.alloc (.cells #[.int .i64 0] 3)) wc.heap.size (.int .i64 0) := heap_new wc _
      have hwp : Below wc.heap.size wc (wc.alloc (.cells #[.int .i64 0] 3)) := (Below.refl _ _).alloc (Nat.le_refl _) _
      have HP8 := Lib.hid hP8
      have HPP : Hid (∀ V, Below (wc.alloc (.cells #[.int .i64 0] 3)).heap.size (wc.alloc (.cells #[.int .i64 0] 3)) V → Below Y.heap.size Y V ∧ One 42 V q (.slice A6 (grps wn (cutM T.list f t cl true)).length c6) ∧ V.ownsRow Y.heap.size 52 2 (.slice A6 (grps wn (cutM T.list f t cl true)).length c6) (grps wn (cutM T.list f t cl true)).length (gvals (grps wn (cutM T.list f t cl true)))) := fun V hV => by
        have h1 := hwp.trans (hV.mono hwp.size)
        exact ⟨HW7.out.2.2.2.trans (h1.mono HW7.out.2.2.2.size), HW7.out.2.1.below h1 HW7.out.2.1.lt, own_below HW7.out.2.2.1 h1⟩
      have HLT8 : Hid (Y.heap.size ≤ wc.heap.size ∧ wc.heap.size < (wc.alloc (.cells #[.int .i64 0] 3)).heap.size ∧ w.heap.size + 1 < Y.heap.size) := ⟨HW7.out.2.2.2.size, by simp, by
        have h1 := (HO.out X (Below.refl _ _)).2.2.2.2.2.1.lt
        have h2 := HBY.out.size
        omega⟩
      go_upto_region 6 with fail
      clear hP8 hwp HW7
      generalize wc.alloc (.cells #[.int .i64 0] 3) = P at *
      have HPY := Lib.hid (HPP.out P (Below.refl _ _)).1
      have ra38 := (HALL.out P HPY.out).2.2.2.1
      have hcc := (HALL.out P HPY.out).2.2.2.2.1
      have b0 : P.cell? ⟨w.heap.size, 0, none⟩ = some (.slice Af nf cf) := cell_of_row P w.heap.size 0 _ _ _ hcc
      have b1 : P.cell? ⟨w.heap.size, 1, none⟩ = some (.slice At nt ct) := cell_of_row P w.heap.size 1 _ _ _ hcc
      have b2 : P.cell? ⟨w.heap.size, 2, none⟩ = some (.bool cl) := cell_of_row P w.heap.size 2 _ _ _ hcc
      have b3 : P.cell? ⟨w.heap.size, 3, none⟩ = some (.int .i64 sk) := cell_of_row P w.heap.size 3 _ _ _ hcc
      have b4 : P.cell? ⟨w.heap.size, 4, none⟩ = some (.int .i64 mo) := cell_of_row P w.heap.size 4 _ _ _ hcc
      have hti : TIn (fun b => b < Y.heap.size) P (.pointer tu) T := ((HALL.out Y (Below.refl _ _)).1.tin.imp (S' := fun b => b < Y.heap.size) fun b hb _ => hb).below HPY.out
      have HGR := Lib.hid (groups_any (sd := sd) (u := u) sk P hti (HALL.out P HPY.out).2.1 HLEN.out.2.2.1 (by have := HLEN.out.2.2.2; omega) (fun b hb => Nat.lt_of_lt_of_le hb HPY.out.size))
      have hfn := fun (W : World) (b1 b2 b3 : Nat) => func_nil W 35 #[.pointer (some ⟨b1, 0, none⟩), .pointer (some ⟨b2, 0, none⟩), .pointer (some ⟨b3, 0, none⟩)]
      clear hti hcc
      go_wp2_with (refine wpList_load_mid rfl 38 _ rfl w2.heap.size 0 (by rfl) (chA sd u (.pointer tu)).toList _ ra38 Tryz.underlying38 rfl in38 ?_)
      refine HGR.out.mono ?_
      rintro e w6 ⟨rfl, h6⟩
      have HC := Lib.hid h6.out.1
      have HB6 := Lib.hid h6.out.2
      clear h6 ra38 in38 b0 b1 b2 b3 b4 ul38 HGR
      go_wp2_with fail
      clear hfn
      have hsq := groups_seq (Own := fun b => b = wc.heap.size) HS.out HC.out (fun b (hb : b < Y.heap.size) e => by have h1 := HLT8.out; omega) (fun b e => by have h1 := HLT8.out; have h2 := HB6.out.size; omega) (fun e => by have h1 := HLT8.out; omega)
      rw [HWK.out] at hsq
      obtain ⟨G, hG⟩ : ∃ G, grps wn (cutM T.list f t cl true) = G := ⟨_, rfl⟩
      rw [hG] at hsq HPP
      have HGB : Hid (G.length ≤ 61) := by
        have h1 := gRun_bound wn (cutM T.list f t cl true)
        have h2 := HCX.out
        have : (grps wn (cutM T.list f t cl true)).length ≤ 61 := by
          unfold grps
          generalize gRun wn (cutM T.list f t cl true) = s at h1
          obtain ⟨em, cur⟩ := s
          cases cur with
          | none => have := h1.1; simp at this ⊢; omega
          | some z => obtain ⟨a, b⟩ := z; have := (h1.2.1 a b rfl).2.2; simp at this ⊢; omega
        rw [hG] at this
        exact this
      clear hG HWK
      have H6 : Hid (Below Y.heap.size Y w6 ∧ One 42 w6 q (.slice A6 G.length c6) ∧ w6.ownsRow Y.heap.size 52 2 (.slice A6 G.length c6) G.length (gvals G) ∧ One 3 w6 wc.heap.size (.int .i64 0) ∧ wc.heap.size < w6.heap.size) := by
        have h1 := HPP.out w6 HB6.out
        have h2 := HP8.out.below HB6.out HP8.out.lt
        exact ⟨h1.1, h1.2.1, h1.2.2, h2, h2.lt⟩
      have HQ8 : Hid (q ≠ wc.heap.size ∧ q < w6.heap.size) := by
        refine ⟨fun e => ?_, H6.out.2.1.lt⟩
        have h1 : w6.heap[q]? = some (.cells #[.slice A6 G.length c6] 42 (0, 0)) := H6.out.2.1
        have h2 : w6.heap[wc.heap.size]? = some (.cells #[.int .i64 0] 3 (0, 0)) := H6.out.2.2.2.1
        rw [e, h2] at h1
        cases h1
      refine wp_rangeFunc_O (gf := 35) (lb := #[.pointer (some ⟨P.heap.size, 0, none⟩), .pointer (some ⟨P.heap.size + 1, 0, none⟩), .pointer (some ⟨P.heap.size + 1 + 1, 0, none⟩)]) (by rfl) (enters_of Tryz.func35 (by kernel_rfl) rfl)
        hsq (Below.refl _ _) (fun b e => by have h2 := H6.out.2.2.2.2; omega) (fun _ => rfl)
        (fun p pre V => GrI wc.heap.size w6 pre V)
        (fun p cd pre V => GrX wc.heap.size w6 mo cd pre V)
        ?hI ?hIx ?h0 ?round ?done ?stop
      case hI =>
        rintro k s A0 B0 hk h ho
        exact h.outs ho H6.out.2.2.2.2
      case hIx =>
        rintro c_ k s A0 B0 hk ⟨h1, h2, h3⟩ ho
        exact ⟨h1, h2.outs ho H6.out.2.2.2.2, h3⟩
      case h0 =>
        intro k V hV hk hkl
        exact ⟨KD.of hV, H6.out.2.2.2.1.below hV H6.out.2.2.2.1.lt⟩
      case round =>
        rintro m' l' k pre ⟨kv, mm⟩ V hk hI ⟨g, hg, hm, hb⟩ hlt hkl
        simp only [] at hm
        subst hm
        obtain ⟨A1, n1, c1, rfl⟩ := hb.slice
        have hpl : pre.length < G.length := (List.getElem?_eq_some_iff.1 hg).1
        have hge : G[pre.length]'hpl = g := (List.getElem?_eq_some_iff.1 hg).2
        have hgv := gvals_get G pre.length hpl
        rw [hge] at hgv
        have HII := Lib.hid hI
        have HBB := Lib.hid hb
        have HGV := Lib.hid hgv
        clear hI hb hg hge hgv hsq
        gi_wp2
        refine ⟨KD.refl _ _, fun V2 hg2 => ?_⟩
        have hz8 := H6.out.2.2.2.2
        have hks := HII.out.1.size
        have HI2 : Hid (GrI wc.heap.size w6 pre V2) := ⟨HII.out.1.trans (KD.grown hg2 fun r e hD => by injection e with e; omega), HII.out.2.block (hg2.block _ (by omega) (fun e => by injection e with e; omega))⟩
        have HB2 : Hid (BIn (fun b => k ≤ b) V2 (.slice A1 n1 c1) g.1) := HBB.out.carry hg2.size fun b hb hl => hg2.block b hl (fun e => by injection e with e; have : k ≤ b := hb; omega)
        clear HII HBB hg2 hks hlt hkl
        -- what stands at the place of the document's list
        obtain ⟨g', cap', rfl, hgne, hgl⟩ : ∃ g' cap', A6 = some ⟨g', 0, none⟩ ∧ g' ≠ wc.heap.size ∧ g' < w6.heap.size := by
          rcases H6.out.2.2.1.2 with ⟨hv, h0⟩ | ⟨g', cap, cur, hv, _, hg, _⟩
          · omega
          · injection hv with hv1 hv2 hv3
            refine ⟨g', cap, hv1, fun e => ?_, (Array.getElem?_eq_some_iff.1 hg).1⟩
            have h2 : w6.heap[wc.heap.size]? = some (.cells #[.int .i64 0] 3 (0, 0)) := H6.out.2.2.2.1
            rw [e, h2] at hg
            cases hg
        have hb6 := H6.out.1
        have hcc := (HALL.out w6 hb6).2.2.2.2.1
        have hkd := HI2.out.1
        have hw27 : V2.heap[w.heap.size]? = some (.cells #[.slice Af nf cf, .slice At nt ct, .bool cl, .int .i64 sk, .int .i64 mo] 27 (0, 0)) := (hkd.block _ ⟨by have := HLT8.out; omega, (Array.getElem?_eq_some_iff.1 hcc).1⟩ (Array.getElem?_eq_some_iff.1 hcc).1).trans hcc
        have d4 := cell_of_row V2 w.heap.size 4 _ _ _ hw27
        simp at d4
        have hrow := hkd.block g' ⟨hgne, hgl⟩ hgl
        have ck : V2.cell? ⟨g', pre.length * 2, none⟩ = some (bs g.1) := (World.cell?_of_block (a := ⟨g', pre.length * 2, none⟩) hrow).trans ((World.ownsRow.cellAt H6.out.2.2.1 (pre.length * 2) (by omega)).trans HGV.out.1)
        have cn : V2.cell? ⟨g', pre.length * 2 + 1, none⟩ = some (.int .i64 (g.2 : Int)) := (World.cell?_of_block (a := ⟨g', pre.length * 2 + 1, none⟩) hrow).trans ((World.ownsRow.cellAt H6.out.2.2.1 (pre.length * 2 + 1) (by omega)).trans HGV.out.2)
        have y7 : V2.cell? ⟨q, 0, none⟩ = some (.slice (some ⟨g', 0, none⟩) G.length c6) := (H6.out.2.1.block (hkd.block q ⟨HQ8.out.1, HQ8.out.2⟩ HQ8.out.2)).cell
        have y8 := HI2.out.2.cell
        have z8 := HI2.out.2.frozen
        have hv := fun i => conv_bytes (HB2.out.below (below_drewN' (w := V2) i))
        simp only [bs] at ck
        have hi1 : (pre.length : Int) < (G.length : Int) := by omega
        have hi2 : ¬ (G.length : Int) ≤ (pre.length : Int) := by omega
        have hi3 : ¬ G.length ≤ pre.length := by omega
        have hmx : Tryz.prog.follows .mixedOrders = true := by kernel_rfl
        have hgb := HGB.out
        have hwi : IntKind.i64.wrap ((pre.length : Int) + 1) = (pre.length : Int) + 1 := wsm _ (by omega)
        obtain ⟨sg, hsg⟩ : ∃ sg, strO g.1 = sg := ⟨_, rfl⟩
        rw [hsg] at ck
        simp only [hsg] at hv
        have he : (sg.toList == sg.toList) = true := by simp
        clear hsg hcc hw27 hrow hkd hb6 hz8
        gi_wp2
        refine round_quiet (l := l') rfl (by kernel_rfl) (by kernel_rfl) (by kernel_rfl) ?_
        repeat (gi_big_quiet_step (fail))
        refine wpQuietIn_nil ?_
        intro _ hw'
        obtain ⟨nq, hw''⟩ := hw'
        subst hw''
        have hnb := below_drewN' (w := V2) nq
        have hset : KD (fun b => b ≠ wc.heap.size) V2 ((V2.drewN nq).setCell ⟨wc.heap.size, 0, none⟩ (.int .i64 ((pre.length : Int) + 1))) :=
          (KD.of hnb).trans ⟨rfl, rfl, rfl, by simp, fun b hb _ => heap_setCell_other _ _ _ _ (by simpa using hb)⟩
        have hfin : GrI wc.heap.size w6 (pre ++ [((.slice A1 n1 c1, g.2) : Value × Nat)]) ((V2.drewN nq).setCell ⟨wc.heap.size, 0, none⟩ (.int .i64 ((pre.length : Int) + 1))) := by
          refine ⟨HI2.out.1.trans ⟨hset.os, hset.tape, hset.output, hset.size, fun b hb hl => hset.block b hb.1 hl⟩, ?_⟩
          rw [List.length_append]
          have h1 : One 3 (V2.drewN nq) wc.heap.size (.int .i64 (pre.length : Int)) := HI2.out.2.below hnb HI2.out.2.lt
          exact h1.set _
        have HFIN := Lib.hid (And.intro hset hfin)
        clear hset hfin hnb
        by_cases hmm : (pre.length : Int) + 1 = mo
        · have hex : GrX wc.heap.size w6 mo (.exit 0) (pre ++ [((.slice A1 n1 c1, g.2) : Value × Nat)]) ((V2.drewN nq).setCell ⟨wc.heap.size, 0, none⟩ (.int .i64 ((pre.length : Int) + 1))) := ⟨rfl, HFIN.out.2, by rw [List.length_append]; exact hmm⟩
          have hk0 := HFIN.out.1
          rw [hmm] at hk0 hex
          have HEX := Lib.hid (And.intro hk0 hex)
          clear hex hk0
          gi_wp2
          exact HEX.out
        · gi_wp2
          exact HFIN.out
      case done =>
        rintro k s V hk hS ⟨hkd, hone⟩ hK
        rw [hS] at hone
        have hz8 := H6.out.2.2.2.2
        have hbw : Below w.heap.size w V := by
          have h1 := HLT8.out
          have h2 := (HO.out w6 (HALL.out w6 H6.out.1).2.2.2.2.2).1
          have h3 := h2.size
          have h4 := hkd.size
          exact ⟨hkd.os.trans h2.os, hkd.tape.trans h2.tape, hkd.output.trans h2.output, by omega, fun b hb => (hkd.block b ⟨by omega, by omega⟩ (by omega)).trans (h2.block b hb)⟩
        have hcc := (HALL.out w6 H6.out.1).2.2.2.2.1
        have hw27 : V.heap[w.heap.size]? = some (.cells #[.slice Af nf cf, .slice At nt ct, .bool cl, .int .i64 sk, .int .i64 mo] 27 (0, 0)) := (hkd.block _ ⟨by have := HLT8.out; omega, (Array.getElem?_eq_some_iff.1 hcc).1⟩ (Array.getElem?_eq_some_iff.1 hcc).1).trans hcc
        have d4 := cell_of_row V w.heap.size 4 _ _ _ hw27
        simp at d4
        have h4w := (HO.out w6 (HALL.out w6 H6.out.1).2.2.2.2.2).2.2.2.2.2.1
        have hr4 : One 4 V (w.heap.size + 1) (.bool false) := h4w.block (hkd.block _ ⟨by have := HLT8.out; omega, h4w.lt⟩ h4w.lt)
        have y7 : V.cell? ⟨q, 0, none⟩ = some (.slice A6 G.length c6) := (H6.out.2.1.block (hkd.block q ⟨HQ8.out.1, HQ8.out.2⟩ HQ8.out.2)).cell
        have y8 := hone.cell
        have HAW := Lib.hid (awake23_any V (HWT.out V hbw))
        have HBW := Lib.hid hbw
        have HR4 := Lib.hid hr4
        have HK := Lib.hid hK
        clear hbw hcc hw27 hkd hone hr4 hK h4w hz8 hsq
        by_cases hmm : (G.length : Int) = mo
        · go_wp2_with fail
          refine HAW.out.mono ?_
          rintro e wz ⟨rfl, hz⟩
          have hz4 := HR4.out.below hz HR4.out.lt
          have zc := hz4.cell
          have zf := hz4.frozen
          have hfin : Below w.heap.size w ((wz.setCell ⟨w.heap.size + 1, 0, none⟩ (.bool true)).putObj w6.heap.size (.deferred none)) := by
            have h1 : Below w.heap.size w (wz.setCell ⟨w.heap.size + 1, 0, none⟩ (.bool true)) := (HBW.out.trans (hz.mono HBW.out.size)).setCell (p := ⟨w.heap.size + 1, 0, none⟩) (by show w.heap.size ≤ w.heap.size + 1; omega) _
            exact h1.grown (grownBy_putObj' _ w6.heap.size _) h1.size (fun k e => by injection e with e; have h2 := HLT8.out; have h3 := H6.out.2.2.2.2; omega)
          have hK2 : (wz.setCell ⟨w.heap.size + 1, 0, none⟩ (.bool true)).heap[w6.heap.size]? = some (.deferred (some [])) := (heap_setCell_other _ _ _ _ (by simp only; have h2 := HLT8.out; have h3 := H6.out.2.2.2.2; omega)).trans ((hz.block _ (Array.getElem?_eq_some_iff.1 HK.out).1).trans HK.out)
          have HFIN := Lib.hid (And.intro (hz4.set (.bool true)) (And.intro hK2 hfin))
          clear hz hz4 hfin hK2
          go_wp2_with fail
          exact leave_mark rfl (by rfl) HFIN.out.1 HFIN.out.2.1 ⟨rfl, HFIN.out.2.2⟩
        · go_wp2_with fail
          refine HAW.out.mono ?_
          rintro e wz ⟨rfl, hz⟩
          have hz4 := HR4.out.below hz HR4.out.lt
          have zc := hz4.cell
          have zf := hz4.frozen
          have hfin : Below w.heap.size w ((wz.setCell ⟨w.heap.size + 1, 0, none⟩ (.bool true)).putObj w6.heap.size (.deferred none)) := by
            have h1 : Below w.heap.size w (wz.setCell ⟨w.heap.size + 1, 0, none⟩ (.bool true)) := (HBW.out.trans (hz.mono HBW.out.size)).setCell (p := ⟨w.heap.size + 1, 0, none⟩) (by show w.heap.size ≤ w.heap.size + 1; omega) _
            exact h1.grown (grownBy_putObj' _ w6.heap.size _) h1.size (fun k e => by injection e with e; have h2 := HLT8.out; have h3 := H6.out.2.2.2.2; omega)
          have hK2 : (wz.setCell ⟨w.heap.size + 1, 0, none⟩ (.bool true)).heap[w6.heap.size]? = some (.deferred (some [])) := (heap_setCell_other _ _ _ _ (by simp only; have h2 := HLT8.out; have h3 := H6.out.2.2.2.2; omega)).trans ((hz.block _ (Array.getElem?_eq_some_iff.1 HK.out).1).trans HK.out)
          have HFIN := Lib.hid (And.intro (hz4.set (.bool true)) (And.intro hK2 hfin))
          clear hz hz4 hfin hK2
          go_wp2_with fail
          exact leave_mark rfl (by rfl) HFIN.out.1 HFIN.out.2.1 ⟨rfl, HFIN.out.2.2⟩
      case stop =>
        rintro k cd s V hk hS ⟨rfl, ⟨hkd, hone⟩, hmo⟩ hK
        rw [hmo] at hone
        have hz8 := H6.out.2.2.2.2
        have hbw : Below w.heap.size w V := by
          have h1 := HLT8.out
          have h2 := (HO.out w6 (HALL.out w6 H6.out.1).2.2.2.2.2).1
          have h3 := h2.size
          have h4 := hkd.size
          exact ⟨hkd.os.trans h2.os, hkd.tape.trans h2.tape, hkd.output.trans h2.output, by omega, fun b hb => (hkd.block b ⟨by omega, by omega⟩ (by omega)).trans (h2.block b hb)⟩
        have hcc := (HALL.out w6 H6.out.1).2.2.2.2.1
        have hw27 : V.heap[w.heap.size]? = some (.cells #[.slice Af nf cf, .slice At nt ct, .bool cl, .int .i64 sk, .int .i64 mo] 27 (0, 0)) := (hkd.block _ ⟨by have := HLT8.out; omega, (Array.getElem?_eq_some_iff.1 hcc).1⟩ (Array.getElem?_eq_some_iff.1 hcc).1).trans hcc
        have d4 := cell_of_row V w.heap.size 4 _ _ _ hw27
        simp at d4
        have h4w := (HO.out w6 (HALL.out w6 H6.out.1).2.2.2.2.2).2.2.2.2.2.1
        have hr4 : One 4 V (w.heap.size + 1) (.bool false) := h4w.block (hkd.block _ ⟨by have := HLT8.out; omega, h4w.lt⟩ h4w.lt)
        have y7 : V.cell? ⟨q, 0, none⟩ = some (.slice A6 G.length c6) := (H6.out.2.1.block (hkd.block q ⟨HQ8.out.1, HQ8.out.2⟩ HQ8.out.2)).cell
        have y8 := hone.cell
        have HAW := Lib.hid (awake23_any V (HWT.out V hbw))
        have HBW := Lib.hid hbw
        have HR4 := Lib.hid hr4
        have HK := Lib.hid hK
        clear hbw hcc hw27 hkd hone hr4 hK h4w hz8 hsq
        go_wp2_with fail
        refine HAW.out.mono ?_
        rintro e wz ⟨rfl, hz⟩
        have hz4 := HR4.out.below hz HR4.out.lt
        have zc := hz4.cell
        have zf := hz4.frozen
        have hfin : Below w.heap.size w ((wz.setCell ⟨w.heap.size + 1, 0, none⟩ (.bool true)).putObj w6.heap.size (.deferred none)) := by
          have h1 : Below w.heap.size w (wz.setCell ⟨w.heap.size + 1, 0, none⟩ (.bool true)) := (HBW.out.trans (hz.mono HBW.out.size)).setCell (p := ⟨w.heap.size + 1, 0, none⟩) (by show w.heap.size ≤ w.heap.size + 1; omega) _
          exact h1.grown (grownBy_putObj' _ w6.heap.size _) h1.size (fun k e => by injection e with e; have h2 := HLT8.out; have h3 := H6.out.2.2.2.2; omega)
        have hK2 : (wz.setCell ⟨w.heap.size + 1, 0, none⟩ (.bool true)).heap[w6.heap.size]? = some (.deferred (some [])) := (heap_setCell_other _ _ _ _ (by simp only; have h2 := HLT8.out; have h3 := H6.out.2.2.2.2; omega)).trans ((hz.block _ (Array.getElem?_eq_some_iff.1 HK.out).1).trans HK.out)
        have HFIN := Lib.hid (And.intro (hz4.set (.bool true)) (And.intro hK2 hfin))
        clear hz hz4 hfin hK2
        go_wp2_with fail
        exact leave_mark rfl (by rfl) HFIN.out.1 HFIN.out.2.1 ⟨rfl, HFIN.out.2.2⟩

end Go.Proofs.YtphjaebkcimklaaGreatDoor
