/- The law ScanSums. -/
import Derived.Test.YtphjaebkcimklaaGreatDoorMlaw
import Derived.Test.YtphjaebkcimklaaGreatDoorMsm
import Derived.Test.YtphjaebkcimklaaGreatDoorFRoundR
set_option linter.unusedVariables false
set_option linter.unusedSimpArgs false
namespace Go.Proofs.YtphjaebkcimklaaGreatDoor
open Go.RowKit Go.Shelf Go.Proofs.YtphjaebkcimklaaGreatDoorW.PrintLast
attribute [local go_sem] Oper.semAt_some

theorem seed16 {sd : Array Value} (h : sd.size = 16) : ∃ s0_ s1_ s2_ s3_ s4_ s5_ s6_ s7_ s8_ s9_ s10_ s11_ s12_ s13_ s14_ s15_, sd = #[s0_, s1_, s2_, s3_, s4_, s5_, s6_, s7_, s8_, s9_, s10_, s11_, s12_, s13_, s14_, s15_] := by
  obtain ⟨l⟩ := sd
  simp at h
  match l, h with
  | [s0_, s1_, s2_, s3_, s4_, s5_, s6_, s7_, s8_, s9_, s10_, s11_, s12_, s13_, s14_, s15_], _ => exact ⟨s0_, s1_, s2_, s3_, s4_, s5_, s6_, s7_, s8_, s9_, s10_, s11_, s12_, s13_, s14_, s15_, rfl⟩

/-- The law's loop over the groups. -/
def SmI (b8 : Nat) (w6 : World) (G : Grps) (pre : List (Value × Nat)) (V : World) : Prop := KD (fun b => b ≠ b8 ∧ b < w6.heap.size) w6 V ∧ One 3 V b8 (.int .i64 (gsum (G.take pre.length) : Int))
theorem SmI.outs {b8 k : Nat} {w6 A B : World} {G : Grps} {pre : List (Value × Nat)} (h : SmI b8 w6 G pre A) (ho : Outs w6.heap.size k A B) (hb : b8 < w6.heap.size) : SmI b8 w6 G pre B :=
  ⟨h.1.trans ⟨ho.os, ho.tape, ho.output, ho.size, fun b hb' hlt => ho.block b hlt (by omega)⟩, h.2.block (ho.block _ h.2.lt (by omega))⟩
theorem gsum_take (G : Grps) (i : Nat) (h : i < G.length) : gsum (G.take (i + 1)) = gsum (G.take i) + (G[i]'h).2 := by
  rw [List.take_succ_eq_append_getElem h, gsum_append]; simp [gsum]
theorem gsum_le (G : Grps) (i : Nat) : gsum (G.take i) ≤ gsum G := by
  conv => rhs; rw [← List.take_append_drop i G]
  rw [gsum_append]; omega

set_option maxRecDepth 100000 in
set_option maxHeartbeats 3200000 in
theorem scanSums_any (A : Option Addr) (n c : Nat) (L : List (Int × Bytes × Bytes)) (kv : Value) (k : Bytes) (wd : Int) (w : World) (h : Ops w A n L) (hk : BRaw w kv k) (hwd : 0 ≤ wd ∧ wd < 256) (hT : Tabs w) :
    Calls Tryz.prog 4 #[.slice A n c, kv, .int .u8 wd] w fun e w' => e = .returned (.bool true) ∧ Below w.heap.size w w' := by
  obtain ⟨Ak, nk, ck, rfl, _, _, h3k⟩ := id hk
  have HLN : Hid (k.length = nk) := h3k.len
  have hb : Below w.heap.size w (w.alloc (.cells #[.bool false] 4)) := (Below.refl _ w).alloc (Nat.le_refl _) _
  have e1 : One 4 (w.alloc (.cells #[.bool false] 4)) w.heap.size (.bool false) := heap_new w _
  have HO : Hid (∀ W, Below (w.alloc (.cells #[.bool false] 4)).heap.size (w.alloc (.cells #[.bool false] 4)) W →
      Below w.heap.size w W ∧ Ops W A n L ∧ BRaw W (.slice Ak nk ck) k ∧ One 4 W w.heap.size (.bool false) ∧ Tabs W) := fun W hW => by
    have h2 := hb.trans (hW.mono hb.size)
    exact ⟨h2, h.below h2, hk.below h2, e1.below hW e1.lt, hT.below h2⟩
  have HWT := Lib.hid (fun (V : World) (hV : Below w.heap.size w V) => hT.below hV)
  have HWD := Lib.hid hwd
  clear h hk h3k hb e1 hT hwd
  refine (callsIn_wide (n := 1)).1 (callsIn_of_wp_marks Tryz.func4 rfl trivial ((wpIn_wide (n := 1)).2 ?_) rfl)
  simp only [Tryz.ntmps4, List.size_toArray, List.length_cons, List.length_nil, Nat.reduceAdd, Nat.reduceSub, Array.replicate_succ, Array.replicate_zero, List.push_toArray, List.append_toArray, List.nil_append, List.cons_append]
  go_upto_region 1 with fail
  generalize (w.alloc (.cells #[.bool false] 4)) = X at *
  have HF := Lib.hid (fine_any A n c L 60 X (HO.out X (Below.refl _ _)).2.1 (by omega))
  go_wp2_with fail
  refine HF.out.mono ?_
  rintro e w1 ⟨r, rfl, hr, hb1⟩
  have HB1 : Hid (Below X.heap.size X w1) := hb1
  clear hb1
  have HAW : Hid (∀ W, Below X.heap.size X W → Calls Tryz.prog 9 #[] W fun e w' => e = .returned (.bool true) ∧ Hid (One 4 w' w.heap.size (.bool false) ∧ Below w.heap.size w (w'.setCell ⟨w.heap.size, 0, none⟩ (.bool true)))) := fun W hW =>
    (awake23_any W (HO.out W hW).2.2.2.2).mono fun e w' ⟨he, hb⟩ => by
      have h2 := HO.out w' (hW.trans (hb.mono hW.size))
      exact ⟨he, Lib.hid ⟨h2.2.2.2.1, h2.1.setCell (p := ⟨w.heap.size, 0, none⟩) (Nat.le_refl _) _⟩⟩
  cases r with
  | false =>
    as_aux_lemma =>
      clear hr
      go_wp2_with fail
      refine (HAW.out w1 HB1.out).mono ?_
      rintro e wz ⟨rfl, hz⟩
      have z0 := hz.out.1.cell
      have zf := hz.out.1.frozen
      go_wp2_with fail
      exact leave_one rfl (by rfl) (hz.out.1.set _) ⟨rfl, hz.out.2⟩
  | true =>
    have HFI := Lib.hid (hr rfl)
    clear hr
    by_cases hkb : 100 < nk
    · have hkz : (100 : Int) < (nk : Int) := by omega
      go_wp2_with fail
      refine (HAW.out w1 HB1.out).mono ?_
      rintro e wz ⟨rfl, hz⟩
      have z0 := hz.out.1.cell
      have zf := hz.out.1.frozen
      go_wp2_with fail
      exact leave_one rfl (by rfl) (hz.out.1.set _) ⟨rfl, hz.out.2⟩
    have hsk : ¬ (100 : Int) < (nk : Int) := by omega
    have HKF : Hid (∀ W, Below X.heap.size X W → BIn (fun _ => True) W (.slice Ak nk ck) k) := fun W hW => (HO.out W hW).2.2.1.fine (by have := HLN.out; omega)
    have HMD := Lib.hid (made23_any A n c L w1 (HO.out w1 HB1.out).2.1 HFI.out (HO.out w1 HB1.out).2.2.2.2)
    clear hkb
    go_wp2_with fail
    refine HMD.out.mono ?_
    rintro e w2 ⟨sd, u, tu, A', c', T, rfl, hI⟩
    have HB2 : Hid (Below X.heap.size X w2) := HB1.out.trans (hI.out.below.mono HB1.out.size)
    have HS := Lib.hid hI.out.sc.seed
    have HU := Lib.hid hI.out.sc.one
    have HZN : Hid ((w2.alloc (.cells z38 38)).heap[w2.heap.size]? = some (.cells z38 38 (0, 0))) := heap_new w2 _
    have HCB := Lib.hid (chBox w2 sd u tu)
    clear HMD hsk
    go_upto_region 4 with (refine wpList_store_row rfl 38 _ _ rfl w2.heap.size (chA sd u (.pointer tu)) rfl rfl 38 _ HZN.out (size_of info38 (chA_size HS.out.1)) (by rw [chA_size HS.out.1]; rfl) (chA_one HS.out HU.out rfl) ?_)
    clear HZN
    generalize (w2.alloc (.cells z38 38)).setRow w2.heap.size (chA sd u (.pointer tu)) = Y at *
    have HBY : Hid (Below X.heap.size X Y) := HB2.out.trans (HCB.out.below.mono HB2.out.size)
    have HALL : Hid (∀ W, Below Y.heap.size Y W → Sc W sd u tu T ∧ BIn (fun _ => True) W (.slice Ak nk ck) k ∧ MIn (fun b => b < Y.heap.size) W A' T.list.length T.list ∧ W.rangeAt w2.heap.size 0 (chA sd u (.pointer tu)).toList ∧ Below X.heap.size X W) := fun W hW => by
      have h2 := HBY.out.trans (hW.mono HBY.out.size)
      have h3 := HCB.out.below.trans (hW.mono HCB.out.below.size)
      exact ⟨hI.out.sc.below h3, HKF.out W h2, ((hI.out.min.below HCB.out.below).imp (S' := fun b => b < Y.heap.size) fun b hb _ => hb).below hW, HCB.out.ra hW, h2⟩
    have HLEN : Hid (T.list.length ≤ 61 ∧ (∀ p ∈ T.list, p.1.length ≤ 100000) ∧ Asc T.list ∧ T.size ≤ 1000) := ⟨hI.out.len, hI.out.keys, hI.out.sc.asc, hI.out.sc.sz⟩
    have in38 := in38' (u := u) (p := .pointer tu) HS.out
    clear hI
    obtain ⟨ca, hca⟩ : ∃ ca, (cutM T.list [] k true true).length = ca := ⟨_, rfl⟩
    obtain ⟨cb, hcb⟩ : ∃ cb, (cutM T.list k [] false true).length = cb := ⟨_, rfl⟩
    have hcs : ca + cb = T.list.length := by rw [← hca, ← hcb]; exact two_sum T.list k
    have HC1 := Lib.hid (fun (V : World) (hV : Below Y.heap.size Y V) => count_any (A := none) (A' := Ak) (n := 0) (n' := nk) (c := 0) (c' := ck) (f := []) (t := k) (cl := true) V (HALL.out V hV).1 ⟨_, _, rfl, BIn.nil _ _, (HALL.out V hV).2.1⟩)
    have HC2 := Lib.hid (fun (V : World) (hV : Below Y.heap.size Y V) => count_any (A := Ak) (A' := none) (n := nk) (n' := 0) (c := ck) (c' := 0) (f := k) (t := []) (cl := false) V (HALL.out V hV).1 ⟨_, _, rfl, (HALL.out V hV).2.1, BIn.nil _ _⟩)
    rw [hca] at HC1
    rw [hcb] at HC2
    have hwab : IntKind.i64.wrap ((ca : Int) + (cb : Int)) = (T.list.length : Int) := (wsm _ (by have := HLEN.out.1; omega)).trans (by omega)
    clear hca hcb hcs
    have ul38 := Tryz.underlying38
    refine wp_region_noPanic ?_
    refine start_ (n := 12) (S := fun w' => Below Y.heap.size Y w') (ds := []) #[false, false, false, false, false, false, false, false, false, false, false, false] (by kernel_rfl) rfl rfl (below_drew2 (Below.refl _ _)) (fun hHeld => ?_)
    refine take_ (i := 0) (N := some 30) (v := .agg (chA sd u (.pointer tu))) (a' := ?aa1) #[true, false, false, false, false, false, false, false, false, false, false, false] rfl rfl (by kernel_rfl) (fun _ _ _ h => h) (yieldsIf_load_mid rfl 38 (.tmp 7) rfl w2.heap.size 0 rfl (chA sd u (.pointer tu)).toList _ (fun _ h => (HALL.out _ h).2.2.2.1) ul38 rfl in38) hHeld ?ha1 ?_
    case ha1 =>
      simp only [Act.put, List.setIfInBounds_toArray, List.set_cons_zero, List.set_cons_succ]
      rfl
    refine pure_ (i := 1) (N := some 31) (v := ?vv2) (a' := ?aa2) #[true, true, false, false, false, false, false, false, false, false, false, false] rfl rfl (by kernel_rfl) (fun _ _ _ h => h) (Or.inl ⟨by rfl, ?hy2⟩) ?ha2 ?hn2
    case hy2 =>
      intro w'
      go_simp
      with_reducible rfl
    case ha2 =>
      simp only [Act.put, List.setIfInBounds_toArray, List.set_cons_zero, List.set_cons_succ]
      rfl
    refine pure_ (i := 2) (N := some 32) (v := .agg #[.slice none 0 0, .slice Ak nk ck, .bool true]) (a' := ?aa3) #[true, true, true, false, false, false, false, false, false, false, false, false] rfl rfl (by kernel_rfl) (fun _ _ _ h => h) (Or.inl ⟨by rfl, ?hy3⟩) ?ha3 ?hn3
    case hy3 =>
      intro w'
      go_simp
    case ha3 =>
      simp only [Act.put, List.setIfInBounds_toArray, List.set_cons_zero, List.set_cons_succ]
      rfl
    refine take_ (i := 4) (N := some 34) (v := .agg (chA sd u (.pointer tu))) (a' := ?aa4) #[true, true, true, false, true, false, false, false, false, false, false, false] rfl rfl (by kernel_rfl) (fun _ _ _ h => h) (yieldsIf_load_mid rfl 38 (.tmp 7) rfl w2.heap.size 0 rfl (chA sd u (.pointer tu)).toList _ (fun _ h => (HALL.out _ h).2.2.2.1) ul38 rfl in38) hHeld ?ha4 ?_
    case ha4 =>
      simp only [Act.put, List.setIfInBounds_toArray, List.set_cons_zero, List.set_cons_succ]
      rfl
    refine pure_ (i := 5) (N := some 35) (v := ?vv5) (a' := ?aa5) #[true, true, true, false, true, true, false, false, false, false, false, false] rfl rfl (by kernel_rfl) (fun _ _ _ h => h) (Or.inl ⟨by rfl, ?hy5⟩) ?ha5 ?hn5
    case hy5 =>
      intro w'
      go_simp
      with_reducible rfl
    case ha5 =>
      simp only [Act.put, List.setIfInBounds_toArray, List.set_cons_zero, List.set_cons_succ]
      rfl
    refine pure_ (i := 6) (N := some 36) (v := .agg #[.slice Ak nk ck, .slice none 0 0, .bool false]) (a' := ?aa6) #[true, true, true, false, true, true, true, false, false, false, false, false] rfl rfl (by kernel_rfl) (fun _ _ _ h => h) (Or.inl ⟨by rfl, ?hy6⟩) ?ha6 ?hn6
    case hy6 =>
      intro w'
      go_simp
    case ha6 =>
      simp only [Act.put, List.setIfInBounds_toArray, List.set_cons_zero, List.set_cons_succ]
      rfl
    refine pure_ (i := 9) (N := some 39) (v := ?vv7) (a' := ?aa7) #[true, true, true, false, true, true, true, false, false, true, false, false] rfl rfl (by kernel_rfl) (fun _ _ _ h => h) (Or.inl ⟨by rfl, ?hy7⟩) ?ha7 ?hn7
    case hy7 =>
      intro w'
      go_simp
      with_reducible rfl
    case ha7 =>
      simp only [Act.put, List.setIfInBounds_toArray, List.set_cons_zero, List.set_cons_succ]
      rfl
    refine pure_ (i := 10) (N := some 40) (v := ?vv8) (a' := ?aa8) #[true, true, true, false, true, true, true, false, false, true, true, false] rfl rfl (by kernel_rfl) (fun _ _ _ h => h) (Or.inl ⟨by rfl, ?hy8⟩) ?ha8 ?hn8
    case hy8 =>
      intro w'
      go_simp
      with_reducible rfl
    case ha8 =>
      simp only [Act.put, List.setIfInBounds_toArray, List.set_cons_zero, List.set_cons_succ]
      rfl
    have hYd : Below Y.heap.size Y Y.drew := below_drew2 (Below.refl _ _)
    refine one_ (i := 3) (N := some 33) #[true, true, true, true, true, true, true, false, false, true, true, false] rfl rfl (by kernel_rfl) (by decide) (fun K hK => ?_)
    refine goes_ Tryz.func16 (by kernel_rfl) rfl #[.agg (chA sd u (.pointer tu)), .agg #[.slice none 0 0, .slice Ak nk ck, .bool true]] (by rfl) rfl rfl (by simp only [List.map_toArray, List.map_cons, List.map_nil]; rfl) ?_
    refine (HC1.out Y.drew hYd).mono ?_
    rintro e w3 ⟨rfl, hb_⟩
    have HB3 : Hid (Below Y.heap.size Y w3) := below_drew1 hb_
    clear hb_
    refine ⟨_, rfl, hK.out _ _ HB3.out (fun hHeld => ?_)⟩
    simp only [Act.put, List.setIfInBounds_toArray, List.set_cons_zero, List.set_cons_succ]
    refine one_ (i := 7) (N := some 37) #[true, true, true, true, true, true, true, true, false, true, true, false] rfl rfl (by kernel_rfl) (by decide) (fun K hK => ?_)
    refine goes_ Tryz.func16 (by kernel_rfl) rfl #[.agg (chA sd u (.pointer tu)), .agg #[.slice Ak nk ck, .slice none 0 0, .bool false]] (by rfl) rfl rfl (by simp only [List.map_toArray, List.map_cons, List.map_nil]; rfl) ?_
    refine (HC2.out w3 HB3.out).mono ?_
    rintro e w4 ⟨rfl, hb_⟩
    have HB4 : Hid (Below Y.heap.size Y w4) := HB3.out.trans (hb_.mono HB3.out.size)
    clear hb_
    refine ⟨_, rfl, hK.out _ _ HB4.out (fun hHeld => ?_)⟩
    simp only [Act.put, List.setIfInBounds_toArray, List.set_cons_zero, List.set_cons_succ]
    refine pure_ (i := 8) (N := some 38) (v := .int .i64 (T.list.length : Int)) (a' := ?aa9) #[true, true, true, true, true, true, true, true, true, true, true, false] rfl rfl (by kernel_rfl) (fun _ _ _ h => h) (Or.inl ⟨by rfl, ?hy9⟩) ?ha9 ?hn9
    case hy9 =>
      intro w'
      go_simp
    case ha9 =>
      simp only [Act.put, List.setIfInBounds_toArray, List.set_cons_zero, List.set_cons_succ]
      rfl
    refine pure_ (i := 11) (N := some 41) (v := .bool false) (a' := ?aa10) #[true, true, true, true, true, true, true, true, true, true, true, true] rfl rfl (by kernel_rfl) (fun _ _ _ h => h) (Or.inl ⟨by rfl, ?hy10⟩) ?ha10 ?hn10
    case hy10 =>
      intro w'
      go_simp
    case ha10 =>
      simp only [Act.put, List.setIfInBounds_toArray, List.set_cons_zero, List.set_cons_succ]
      rfl
    refine done_ (by kernel_rfl) (NoPanic.normal ?_)
    clear hwab hYd
    obtain ⟨m, rfl⟩ : ∃ m : Nat, wd = (m : Int) := ⟨wd.toNat, by have := HWD.out; omega⟩
    have hm2 : m < 256 := by have := HWD.out; omega
    go_upto_region 7 with fail
    obtain ⟨w0, hw0⟩ : ∃ w0, m % 4 = w0 := ⟨_, rfl⟩
    have hwi : (m : Int) % 4 = (w0 : Int) := by omega
    have hw3 : w0 ≤ 3 := by omega
    rw [hwi]
    clear hwi hw0 hm2
    have HBM : Hid (Below Y.heap.size Y w4) := HB4
    obtain ⟨q, hq⟩ : ∃ q, T.list.length = q := ⟨_, rfl⟩
    have HQ := Lib.hid hq
    have hq61 : q ≤ 61 := by have := HLEN.out.1; omega
    simp only [hq]
    clear hq
    go_wp2_with fail
    go_loopw [9, 47] (fun a_ v wr => ∃ j wv : Nat, a_ = .int .i64 (wv : Int) ∧ v = .int .i64 (j : Int) ∧ j ≤ q ∧ wv ≤ 3 ∧ Hid ((∀ p ∈ T.list.take j, wv ≤ p.1.length) ∧ Below Y.heap.size Y wr)) (fun _ v _ => q - (intOf v).toNat)
    case atStart => exact ⟨0, w0, rfl, rfl, by omega, hw3, Lib.hid ⟨fun p hp => by simp at hp, HBM.out⟩⟩
    case round =>
      obtain ⟨j, wv, rfl, rfl, hj, hwv, hI⟩ := hrel
      have hmi := (HALL.out wr hI.out.2).2.2.1
      rw [HQ.out] at hmi
      by_cases hlt : j < q
      · obtain ⟨b, o, rfl, hbl, hSb, hc⟩ := hmi.cell (by omega)
        obtain ⟨c0, c1⟩ := hc j hlt
        obtain ⟨sk, hsk⟩ : ∃ sk, strO (T.list.getD j ([], [])).1 = sk := ⟨_, rfl⟩
        obtain ⟨sx, hsx⟩ : ∃ sx, strO (T.list.getD j ([], [])).2 = sx := ⟨_, rfl⟩
        have hsz : sk.size = (T.list.getD j ([], [])).1.length := by rw [← hsk, strO_size]
        simp only [bs, hsk, hsx] at c0 c1
        have htk : T.list.take (j + 1) = T.list.take j ++ [T.list.getD j ([], [])] := by
          rw [List.take_succ_eq_append_getElem (by rw [HQ.out]; exact hlt), List.getD_eq_getElem?_getD, List.getElem?_eq_getElem (by rw [HQ.out]; exact hlt), Option.getD_some]
        have HB5 : Hid (Below Y.heap.size Y (wr.alloc (.cells #[.string sk, .string sx] 56))) := hI.out.2.alloc hI.out.2.size _
        have al : (0 : Int) ≤ (j : Int) := by omega
        have al3 : (j : Int) < (q : Int) := by omega
        have HI := Lib.hid hI.out.1
        have HTK := Lib.hid (And.intro htk hsz)
        clear hc hsk hsx hmi htk hsz hI
        by_cases hmn : (sk.size : Int) < (wv : Int)
        · have hle : sk.size ≤ wv := by omega
          have HN : Hid (∀ p ∈ T.list.take (j + 1), sk.size ≤ p.1.length) := by
            intro p hp
            rw [HTK.out.1, List.mem_append, List.mem_singleton] at hp
            rcases hp with hp | rfl
            · exact Nat.le_trans hle (HI.out p hp)
            · rw [HTK.out.2]; exact Nat.le_refl _
          go_wp2_with fail
          go_roundw
          case rel => exact ⟨j + 1, sk.size, rfl, by go_num, by omega, by omega, Lib.hid ⟨HN.out, HB5.out⟩⟩
          case measure => simp [intOf]; omega
        · have hle : (wv : Int) ≤ (sk.size : Int) := by omega
          have HN : Hid (∀ p ∈ T.list.take (j + 1), wv ≤ p.1.length) := by
            intro p hp
            rw [HTK.out.1, List.mem_append, List.mem_singleton] at hp
            rcases hp with hp | rfl
            · exact HI.out p hp
            · have := HTK.out.2; omega
          go_wp2_with fail
          go_roundw
          case rel => exact ⟨j + 1, wv, rfl, by go_num, by omega, by omega, Lib.hid ⟨HN.out, HB5.out⟩⟩
          case measure => simp [intOf]; omega
      · obtain rfl : j = q := by omega
        have HKW : Hid (∀ p ∈ T.list, wv ≤ p.1.length) := by
          have := hI.out.1
          rwa [List.take_of_length_le (by rw [HQ.out]; exact Nat.le_refl _)] at this
        have HBR := Lib.hid hI.out.2
        clear hI hmi hlt
        have hP8 : One 3 (wr.alloc (.cells #[.int .i64 0] 3)) wr.heap.size (.int .i64 0) := heap_new wr _
        have HPY : Hid (Below Y.heap.size Y (wr.alloc (.cells #[.int .i64 0] 3))) := HBR.out.alloc HBR.out.size _
        have HLT8 : Hid (Y.heap.size ≤ wr.heap.size ∧ wr.heap.size < (wr.alloc (.cells #[.int .i64 0] 3)).heap.size ∧ w.heap.size < Y.heap.size) := ⟨HBR.out.size, by simp, by
          have h1 := (HO.out X (Below.refl _ _)).2.2.2.1.lt
          have h2 := HBY.out.size
          omega⟩
        have HP8 := Lib.hid hP8
        go_upto_region 13 with fail
        clear hP8
        generalize hb8 : wr.heap.size = b8 at *
        generalize wr.alloc (.cells #[.int .i64 0] 3) = P at *
        clear hb8
        have ra38 := (HALL.out P HPY.out).2.2.2.1
        have hti : TIn (fun b => b < Y.heap.size) P (.pointer tu) T := ((HALL.out Y (Below.refl _ _)).1.tin.imp (S' := fun b => b < Y.heap.size) fun b hb _ => hb).below HPY.out
        have HGR := Lib.hid (groups_any (sd := sd) (u := u) (A := none) (A' := none) (n := 0) (n' := 0) (c := 0) (c' := 0) (f := []) (t := []) (cl := false) (wv : Int) P hti ⟨_, _, rfl, BIn.nil _ _, BIn.nil _ _⟩ HLEN.out.2.2.1 (by have := HLEN.out.2.2.2; omega) (fun b hb => Nat.lt_of_lt_of_le hb HPY.out.size))
        have hfn := fun (W : World) (b1 b2 b3 : Nat) => func_nil W 35 #[.pointer (some ⟨b1, 0, none⟩), .pointer (some ⟨b2, 0, none⟩), .pointer (some ⟨b3, 0, none⟩)]
        clear hti
        go_wp2_with (refine wpList_load_mid rfl 38 _ rfl w2.heap.size 0 (by rfl) (chA sd u (.pointer tu)).toList _ ra38 Tryz.underlying38 rfl in38 ?_)
        refine HGR.out.mono ?_
        rintro e w6 ⟨rfl, h6⟩
        have HC := Lib.hid h6.out.1
        have HB6 := Lib.hid h6.out.2
        clear h6 ra38 HGR
        go_wp2_with fail
        clear hfn
        have hsq := groups_seq (Own := fun b => b = b8) HS.out HC.out (fun b (hb : b < Y.heap.size) e => by have h1 := HLT8.out; omega) (fun b e => by have h1 := HLT8.out; have h2 := HB6.out.size; omega) (fun e => by have h1 := HLT8.out; omega)
        rw [Int.toNat_natCast, cut_none] at hsq
        have HGC := Lib.hid (fun g hg => grps_count wv T.list HLEN.out.2.2.1 HKW.out g hg)
        have HGS : Hid (gsum (grps wv T.list) = j) := (grps_sum wv T.list).trans HQ.out
        generalize grps wv T.list = G at *
        have H6 : Hid (Below Y.heap.size Y w6 ∧ One 3 w6 b8 (.int .i64 0) ∧ b8 < w6.heap.size) := by
          have h2 := HP8.out.below HB6.out HP8.out.lt
          exact ⟨HPY.out.trans (HB6.out.mono HPY.out.size), h2, h2.lt⟩
        -- what there was is there in each round
        have HRD : Hid (∀ V, KD (fun b => b ≠ b8 ∧ b < w6.heap.size) w6 V → Sc V sd u tu T ∧ V.heap[w2.heap.size]? = some (.cells (chA sd u (.pointer tu)) 38 (0, 0)) ∧ Below w.heap.size w V ∧ One 4 V w.heap.size (.bool false)) := fun V hV => by
          have h1 := HLT8.out
          have h2 := (HALL.out w6 H6.out.1).1
          have h3 : TIn (fun b => b < Y.heap.size) w6 (.pointer tu) T := ((HALL.out Y (Below.refl _ _)).1.tin.imp (S' := fun b => b < Y.heap.size) fun b hb _ => hb).below H6.out.1
          have h4 := HCB.out.row w6 H6.out.1
          have h4l := (Array.getElem?_eq_some_iff.1 h4).1
          have h5 := (HO.out w6 (HALL.out w6 H6.out.1).2.2.2.2)
          have h6 := h5.1.size
          have h7 := hV.size
          have h8 := H6.out.1.size
          have h9 := HCB.out.lt
          refine ⟨⟨h2.seed, (h3.carry hV.size fun b hb hl => hV.block b ⟨by omega, hl⟩ hl).imp fun _ _ _ => trivial, h2.asc, h2.sz, h2.one⟩, (hV.block _ ⟨by omega, h4l⟩ h4l).trans h4, ⟨hV.os.trans h5.1.os, hV.tape.trans h5.1.tape, hV.output.trans h5.1.output, by omega, fun b hb => (hV.block b ⟨by omega, by omega⟩ (by omega)).trans (h5.1.block b hb)⟩, h5.2.2.2.1.block (hV.block _ ⟨by omega, h5.2.2.2.1.lt⟩ h5.2.2.2.1.lt)⟩
        refine wp_rangeFunc_O (gf := 35) (lb := #[.pointer (some ⟨P.heap.size, 0, none⟩), .pointer (some ⟨P.heap.size + 1, 0, none⟩), .pointer (some ⟨P.heap.size + 1 + 1, 0, none⟩)]) (by rfl) (enters_of Tryz.func35 (by kernel_rfl) rfl)
          hsq (Below.refl _ _) (fun b e => by have h2 := H6.out.2.2; omega) (fun _ => rfl)
          (fun p pre V => SmI b8 w6 G pre V)
          (fun _ _ _ _ => False)
          ?hI ?hIx ?h0 ?round ?done ?stop
        case hI =>
          rintro k s A0 B0 hk h ho
          exact h.outs ho H6.out.2.2
        case hIx => intro c_ k s A0 B0 _ h _; exact h
        case h0 =>
          intro k V hV hk hkl
          exact ⟨KD.of hV, H6.out.2.1.below hV H6.out.2.1.lt⟩
        case round =>
          rintro m' l' k pre ⟨kv, mm⟩ V hk hI ⟨g, hg, hm, hb⟩ hlt hkl
          simp only [] at hm
          subst hm
          obtain ⟨A1, n1, c1, rfl⟩ := hb.slice
          have hpl : pre.length < G.length := (List.getElem?_eq_some_iff.1 hg).1
          have hge : G[pre.length]'hpl = g := (List.getElem?_eq_some_iff.1 hg).2
          have hgs := gsum_take G pre.length hpl
          rw [hge] at hgs
          have HGE : Hid (g ∈ G) := hge ▸ List.getElem_mem hpl
          have hgl := gsum_le G (pre.length + 1)
          have HGT := Lib.hid (And.intro hgs hgl)
          have HII := Lib.hid hI
          have HBB := Lib.hid hb
          clear hI hb hg hge hsq hgs hgl hpl
          gi_wp2
          refine ⟨KD.refl _ _, fun V2 hg2 => ?_⟩
          have hz8 := H6.out.2.2
          have hks := HII.out.1.size
          have HI2 : Hid (SmI b8 w6 G pre V2) := ⟨HII.out.1.trans (KD.grown hg2 fun r e hD => by injection e with e; omega), HII.out.2.block (hg2.block _ (by omega) (fun e => by injection e with e; omega))⟩
          have HB2 : Hid (BIn (fun b => k ≤ b) V2 (.slice A1 n1 c1) g.1) := HBB.out.carry hg2.size fun b hb hl => hg2.block b hl (fun e => by injection e with e; have : k ≤ b := hb; omega)
          clear HII HBB hg2 hks hlt hkl hz8
          have hgt := HGT.out
          have hgs2 := HGS.out
          have hwg : IntKind.i64.wrap ((gsum (G.take pre.length) : Int) + (g.2 : Int)) = (gsum (G.take pre.length) : Int) + (g.2 : Int) := wsm _ (by omega)
          have hrd := HRD.out V2 HI2.out.1
          have HSC := Lib.hid hrd.1
          have HRA : Hid (∀ W, Below V2.heap.size V2 W → W.rangeAt w2.heap.size 0 (chA sd u (.pointer tu)).toList) := fun W hW => range_row 0 ((hW.block _ (Array.getElem?_eq_some_iff.1 hrd.2.1).1).trans hrd.2.1) fun j _ => by rw [Nat.zero_add]
          have HOF := Lib.hid (of_any A1 n1 c1 g.1 V2.drew (HB2.out.below (below_drew2 (Below.refl _ _))))
          have in38b := in38' (u := u) (p := .pointer tu) HS.out
          clear hgt hgs2 hrd
          gi_wp2
          refine rstart_ (k := 6) (S := fun w' => Below V2.heap.size V2 w') (ds := []) #[false, false, false, false, false, false] (fun h => by obtain ⟨_, _, h⟩ := h; exact h) (by kernel_rfl) (by kernel_rfl) rfl rfl (below_drew2 (Below.refl _ _)) (fun hHeld => ?_)
          refine pure_ (i := 0) (N := some 66) (v := .int .i64 (g.2 : Int)) (a' := ?aa51) #[true, false, false, false, false, false] rfl rfl (by kernel_rfl) (fun _ _ _ h => h) (Or.inl ⟨by rfl, ?hy51⟩) ?ha51 ?hn51
          case hy51 =>
            intro w'
            go_simp
          case ha51 =>
            simp only [Act.put, List.setIfInBounds_toArray, List.set_cons_zero, List.set_cons_succ]
            rfl
          refine take_ (i := 1) (N := some 67) (v := .agg (chA sd u (.pointer tu))) (a' := ?aa52) #[true, true, false, false, false, false] rfl rfl (by kernel_rfl) (fun _ _ _ h => h) (yieldsIf_load_mid rfl 38 (.tmp 7) rfl w2.heap.size 0 rfl (chA sd u (.pointer tu)).toList _ (fun _ h => HRA.out _ h) ul38 rfl in38b) hHeld ?ha52 ?_
          case ha52 =>
            simp only [Act.put, List.setIfInBounds_toArray, List.set_cons_zero, List.set_cons_succ]
            rfl
          refine pure_ (i := 2) (N := some 68) (v := .slice A1 n1 c1) (a' := ?aa53) #[true, true, true, false, false, false] rfl rfl (by kernel_rfl) (fun _ _ _ h => h) (Or.inl ⟨by rfl, ?hy53⟩) ?ha53 ?hn53
          case hy53 =>
            intro w'
            go_simp
          case ha53 =>
            simp only [Act.put, List.setIfInBounds_toArray, List.set_cons_zero, List.set_cons_succ]
            rfl
          refine one_ (i := 3) (N := some 69) #[true, true, true, true, false, false] rfl rfl (by kernel_rfl) (by decide) (fun K hK => ?_)
          refine goes_ Tryz.func17 (by kernel_rfl) rfl #[.slice A1 n1 c1] (by rfl) rfl rfl (by simp only [List.map_toArray, List.map_cons, List.map_nil]; rfl) ?_
          refine HOF.out.mono ?_
          rintro e w7 ⟨Af, nf, cf, At, nt, ct, rfl, ho⟩
          have HB7 : Hid (Below V2.heap.size V2 w7) := below_drew1 ho.out.2
          have hcn := count_any (A := Af) (A' := At) (n := nf) (n' := nt) (c := cf) (c' := ct) (f := g.1) (t := (behind g.1).getD []) (cl := (behind g.1).isSome) w7 (HSC.out.below HB7.out) ho.out.1
          rw [HGC.out g HGE.out] at hcn
          have HCN := Lib.hid hcn
          clear hcn ho
          refine ⟨_, rfl, hK.out _ _ HB7.out (fun hHeld => ?_)⟩
          simp only [Act.put, List.setIfInBounds_toArray, List.set_cons_zero, List.set_cons_succ]
          refine one_ (i := 4) (N := some 70) #[true, true, true, true, true, false] rfl rfl (by kernel_rfl) (by decide) (fun K hK => ?_)
          refine goes_ Tryz.func16 (by kernel_rfl) rfl #[.agg (chA sd u (.pointer tu)), .agg #[.slice Af nf cf, .slice At nt ct, .bool (behind g.1).isSome]] (by rfl) rfl rfl (by simp only [List.map_toArray, List.map_cons, List.map_nil]; rfl) ?_
          refine HCN.out.mono ?_
          rintro e w8 ⟨rfl, hb8⟩
          have HB8 : Hid (Below w7.heap.size w7 w8) := hb8
          clear hb8
          refine ⟨_, rfl, hK.out _ _ (HB7.out.trans (HB8.out.mono HB7.out.size)) (fun hHeld => ?_)⟩
          simp only [Act.put, List.setIfInBounds_toArray, List.set_cons_zero, List.set_cons_succ]
          refine pure_ (i := 5) (N := some 71) (v := .bool false) (a' := ?aa54) #[true, true, true, true, true, true] rfl rfl (by kernel_rfl) (fun _ _ _ h => h) (Or.inl ⟨by rfl, ?hy54⟩) ?ha54 ?hn54
          case hy54 =>
            intro w'
            go_simp
          case ha54 =>
            simp only [Act.put, List.setIfInBounds_toArray, List.set_cons_zero, List.set_cons_succ]
            rfl
          refine done_ (by kernel_rfl) ?_
          have hb28 := HB7.out.trans (HB8.out.mono HB7.out.size)
          have h1 : One 3 w8 b8 (.int .i64 (gsum (G.take pre.length) : Int)) := HI2.out.2.below hb28 HI2.out.2.lt
          have hs1 : KD (fun b => b ≠ b8) w8 (w8.setCell ⟨b8, 0, none⟩ (.int .i64 ((gsum (G.take pre.length) : Int) + (g.2 : Int)))) :=
            ⟨rfl, rfl, rfl, by simp, fun b hb _ => heap_setCell_other w8 ⟨b8, 0, none⟩ b _ (by simpa using hb)⟩
          have hset : KD (fun b => b ≠ b8) V2 (w8.setCell ⟨b8, 0, none⟩ (.int .i64 ((gsum (G.take pre.length) : Int) + (g.2 : Int)))) := (KD.of hb28).trans hs1
          have hfin : SmI b8 w6 G (pre ++ [((.slice A1 n1 c1, g.2) : Value × Nat)]) (w8.setCell ⟨b8, 0, none⟩ (.int .i64 ((gsum (G.take pre.length) : Int) + (g.2 : Int)))) := by
            refine ⟨HI2.out.1.trans ⟨hset.os, hset.tape, hset.output, hset.size, fun b hb hl => hset.block b hb.1 hl⟩, ?_⟩
            rw [List.length_append, List.length_singleton, HGT.out.1]
            exact h1.set _
          have HFIN := Lib.hid (And.intro hset hfin)
          have x8 := h1.cell
          have z8 := h1.frozen
          clear hs1 hset hfin hb28 h1 
          gi_wp2
          exact HFIN.out
        case done =>
          as_aux_lemma =>
            rintro k s V hk hS ⟨hkd, hone⟩ hK
            rw [hS, List.take_length, HGS.out] at hone
            have hrd := HRD.out V hkd
            have y8 := hone.cell
            have HAW2 := Lib.hid (awake23_any V (HWT.out V hrd.2.2.1))
            have HBW := Lib.hid hrd.2.2.1
            have HR4 := Lib.hid hrd.2.2.2
            have HK := Lib.hid hK
            clear hkd hone hK hrd hsq
            go_wp2_with fail
            refine HAW2.out.mono ?_
            rintro e wz ⟨rfl, hz⟩
            have hz4 := HR4.out.below hz HR4.out.lt
            have zc := hz4.cell
            have zf := hz4.frozen
            have hfin : Below w.heap.size w ((wz.setCell ⟨w.heap.size, 0, none⟩ (.bool true)).putObj w6.heap.size (.deferred none)) := by
              have h1 : Below w.heap.size w (wz.setCell ⟨w.heap.size, 0, none⟩ (.bool true)) := (HBW.out.trans (hz.mono HBW.out.size)).setCell (p := ⟨w.heap.size, 0, none⟩) (Nat.le_refl _) _
              exact h1.grown (grownBy_putObj' _ w6.heap.size _) h1.size (fun k e => by injection e with e; have h2 := HLT8.out; have h3 := H6.out.2.2; omega)
            have hK2 : (wz.setCell ⟨w.heap.size, 0, none⟩ (.bool true)).heap[w6.heap.size]? = some (.deferred (some [])) := (heap_setCell_other _ _ _ _ (by simp only; have h2 := HLT8.out; have h3 := H6.out.2.2; omega)).trans ((hz.block _ (Array.getElem?_eq_some_iff.1 HK.out).1).trans HK.out)
            have HFIN := Lib.hid (And.intro (hz4.set (.bool true)) (And.intro hK2 hfin))
            clear hz hz4 hfin hK2
            go_wp2_with fail
            exact leave_mark rfl (by rfl) HFIN.out.1 HFIN.out.2.1 ⟨rfl, HFIN.out.2.2⟩
        case stop => intro _ _ _ _ _ _ h; exact h.elim

end Go.Proofs.YtphjaebkcimklaaGreatDoor
