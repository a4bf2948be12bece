/- The law ScanParts. -/
import Derived.Test.YtphjaebkcimklaaGreatDoorMlaw
import Derived.Test.YtphjaebkcimklaaGreatDoorMpr
import Derived.Test.YtphjaebkcimklaaGreatDoorMs2
set_option linter.unusedVariables false
set_option linter.unusedSimpArgs false
namespace Go.Proofs.YtphjaebkcimklaaGreatDoor
open Go.RowKit Go.Shelf Go.Proofs.YtphjaebkcimklaaGreatDoorW.PrintLast
attribute [local go_sem] Oper.semAt_some

theorem sm_join (C : Pairs) (at_ by_ : Nat) : C.take at_ ++ sm (at_ : Int) (by_ : Int) C = C.take (at_ + by_) := by
  unfold sm
  rw [Int.toNat_natCast, Int.toNat_natCast]
  exact (List.take_add).symm
/-- What ScanParts' loop has put together. -/
def PartO (base : Nat) (V : World) (v : Value) (L : Pairs) : Prop := ∃ A c vs, v = .slice A L.length c ∧ V.ownsRow base 60 2 v L.length vs ∧ PsOf (fun b => v.ownBlock ≠ some b) V vs L

set_option maxRecDepth 100000 in
set_option maxHeartbeats 3200000 in
theorem scanParts_any (A : Option Addr) (n c : Nat) (L : List (Int × Bytes × Bytes)) (fv tv : Value) (f t : Bytes) (cl : Bool) (wd : Int) (w : World) (h : Ops w A n L) (hf : BRaw w fv f) (ht : BRaw w tv t) (hwd : 0 ≤ wd ∧ wd < 256) (hT : Tabs w) :
    Calls Tryz.prog 7 #[.slice A n c, .agg #[fv, tv, .bool cl], .int .u8 wd] w fun e w' => e = .returned (.bool true) ∧ Below w.heap.size w w' := by
  obtain ⟨Af, nf, cf, rfl, _, _, h3f⟩ := id hf
  obtain ⟨At, nt, ct, rfl, _, _, h3t⟩ := id ht
  have HLN : Hid (f.length = nf ∧ t.length = nt) := ⟨h3f.len, h3t.len⟩
  have hb : Below w.heap.size w (w.alloc (.cells #[.slice Af nf cf, .slice At nt ct, .bool cl] 25)) := (Below.refl _ w).alloc (Nat.le_refl _) _
  have e0 : (w.alloc (.cells #[.slice Af nf cf, .slice At nt ct, .bool cl] 25)).heap[w.heap.size]? = some (.cells #[.slice Af nf cf, .slice At nt ct, .bool cl] 25 (0, 0)) := heap_new w _
  have HO : Hid (∀ W, Below (w.alloc (.cells #[.slice Af nf cf, .slice At nt ct, .bool cl] 25)).heap.size (w.alloc (.cells #[.slice Af nf cf, .slice At nt ct, .bool cl] 25)) W →
      Below w.heap.size w W ∧ Ops W A n L ∧ BRaw W (.slice Af nf cf) f ∧ BRaw W (.slice At nt ct) t ∧ W.heap[w.heap.size]? = some (.cells #[.slice Af nf cf, .slice At nt ct, .bool cl] 25 (0, 0)) ∧ Tabs W) := fun W hW => by
    have h2 := hb.trans (hW.mono hb.size)
    exact ⟨h2, h.below h2, hf.below h2, ht.below h2, (hW.block _ (Array.getElem?_eq_some_iff.1 e0).1).trans e0, hT.below h2⟩
  clear h hf ht h3f h3t hb e0 hT
  have HWD := Lib.hid hwd
  clear hwd
  go_enter Tryz.func7, Tryz.ntmps7
  go_upto_region 1 with fail
  generalize (w.alloc (.cells #[.slice Af nf cf, .slice At nt ct, .bool cl] 25)) = X at *
  have HF := Lib.hid (fine23_any A n c L Af At nf cf nt ct cl 0 0 X (HO.out X (Below.refl _ _)).2.1)
  have b0 : X.cell? ⟨w.heap.size, 0, none⟩ = some (.slice Af nf cf) := cell_of_row X w.heap.size 0 _ _ _ (HO.out X (Below.refl _ _)).2.2.2.2.1
  have b1 : X.cell? ⟨w.heap.size, 1, none⟩ = some (.slice At nt ct) := cell_of_row X w.heap.size 1 _ _ _ (HO.out X (Below.refl _ _)).2.2.2.2.1
  have b2 : X.cell? ⟨w.heap.size, 2, none⟩ = some (.bool cl) := cell_of_row X w.heap.size 2 _ _ _ (HO.out X (Below.refl _ _)).2.2.2.2.1
  go_wp2_with fail
  refine HF.out.mono ?_
  rintro e w1 ⟨r, rfl, hr, hb1⟩
  have HB1 : Hid (Below X.heap.size X w1) := hb1
  clear hb1 b0 b1 b2
  have HAW : Hid (∀ W, Below X.heap.size X W → Calls Tryz.prog 9 #[] W fun e w' => e = .returned (.bool true) ∧ Below w.heap.size w w') := fun W hW =>
    (awake23_any W (HO.out W hW).2.2.2.2.2).mono fun e w' ⟨he, hb⟩ => ⟨he, (HO.out W hW).1.trans (hb.mono (HO.out W hW).1.size)⟩
  cases r with
  | false =>
    clear hr
    go_wp2_with fail
    refine (HAW.out w1 HB1.out).mono ?_
    rintro e wz ⟨rfl, hz⟩
    have HZ := Lib.hid hz
    clear hz
    go_wp2_with fail
    go_ret
    exact ⟨rfl, HZ.out⟩
  | true =>
    have HFI := Lib.hid (hr rfl)
    clear hr
    have HSP : Hid (∀ W, Below X.heap.size X W → SIn (fun _ => True) W (.agg #[.slice Af nf cf, .slice At nt ct, .bool cl]) f t cl) := fun W hW => by
      have h1 := HFI.out
      have h2 := HLN.out
      have h3 := HO.out W hW
      exact ⟨_, _, rfl, h3.2.2.1.fine (by omega), h3.2.2.2.1.fine (by omega)⟩
    have HMD := Lib.hid (made23_any A n c L w1 (HO.out w1 HB1.out).2.1 HFI.out.1 (HO.out w1 HB1.out).2.2.2.2.2)
    go_wp2_with fail
    refine HMD.out.mono ?_
    rintro e w2 ⟨sd, u, tu, A', c', T, rfl, hI⟩
    have HB2 : Hid (Below X.heap.size X w2) := HB1.out.trans (hI.out.below.mono HB1.out.size)
    have HS := Lib.hid hI.out.sc.seed
    have HU := Lib.hid hI.out.sc.one
    have HZN : Hid ((w2.alloc (.cells z38 38)).heap[w2.heap.size]? = some (.cells z38 38 (0, 0))) := heap_new w2 _
    have HCB := Lib.hid (chBox w2 sd u tu)
    clear HMD
    go_upto_region 4 with (refine wpList_store_row rfl 38 _ _ rfl w2.heap.size (chA sd u (.pointer tu)) rfl rfl 38 _ HZN.out (size_of info38 (chA_size HS.out.1)) (by rw [chA_size HS.out.1]; rfl) (chA_one HS.out HU.out rfl) ?_)
    clear HZN
    generalize (w2.alloc (.cells z38 38)).setRow w2.heap.size (chA sd u (.pointer tu)) = Y at *
    have HBY : Hid (Below X.heap.size X Y) := HB2.out.trans (HCB.out.below.mono HB2.out.size)
    have HALL : Hid (∀ W, Below Y.heap.size Y W → Sc W sd u tu T ∧ SIn (fun _ => True) W (.agg #[.slice Af nf cf, .slice At nt ct, .bool cl]) f t cl ∧ W.rangeAt w2.heap.size 0 (chA sd u (.pointer tu)).toList ∧ W.heap[w.heap.size]? = some (.cells #[.slice Af nf cf, .slice At nt ct, .bool cl] 25 (0, 0)) ∧ Below X.heap.size X W) := fun W hW => by
      have h2 := HBY.out.trans (hW.mono HBY.out.size)
      have h3 := HCB.out.below.trans (hW.mono HCB.out.below.size)
      exact ⟨hI.out.sc.below h3, HSP.out W h2, HCB.out.ra hW, (HO.out W h2).2.2.2.2.1, h2⟩
    have HLEN : Hid (T.list.length ≤ 61 ∧ T.size = T.list.length) := ⟨hI.out.len, T.size_list.symm⟩
    have in38 := in38' (u := u) (p := .pointer tu) HS.out
    have HCL : Hid ((cutM T.list f t cl true).length ≤ T.list.length) := cutM_len _ _ _ _ _
    have HRG := Lib.hid (fun (sk mo : Int) (V : World) (h1 : Sc V sd u tu T) (h2 : SIn (fun _ => True) V (.agg #[.slice Af nf cf, .slice At nt ct, .bool cl]) f t cl) (h3 : (Lit.int .i64 sk).wf = true) => range_any sk mo V h1 h2 h3)
    have HCT := Lib.hid (fun (V : World) (h1 : Sc V sd u tu T) (h2 : SIn (fun _ => True) V (.agg #[.slice Af nf cf, .slice At nt ct, .bool cl]) f t cl) => count_any V h1 h2)
    clear hI
    generalize cutM T.list f t cl true = C at *
    have ul38 := Tryz.underlying38
    refine start_ (n := 6) (S := fun w' => Below Y.heap.size Y w') (ds := []) #[false, false, false, false, false, false] (by kernel_rfl) rfl rfl (below_drew2 (Below.refl _ _)) (fun hHeld => ?_)
    refine take_ (i := 0) (N := some 24) (v := .agg (chA sd u (.pointer tu))) (a' := ?aa1) #[true, false, false, false, false, false] rfl rfl (by kernel_rfl) (fun _ _ _ h => h) (yieldsIf_load_mid rfl 38 (.tmp 7) rfl w2.heap.size 0 rfl (chA sd u (.pointer tu)).toList _ (fun _ h => (HALL.out _ h).2.2.1) ul38 rfl in38) hHeld ?ha1 ?_
    case ha1 =>
      simp only [Act.put, List.setIfInBounds_toArray, List.set_cons_zero, List.set_cons_succ]
      rfl
    refine take_ (i := 1) (N := some 25) (v := .agg #[.slice Af nf cf, .slice At nt ct, .bool cl]) (a' := ?aa2) #[true, true, false, false, false, false] rfl rfl (by kernel_rfl) (fun _ _ _ h => h) (Or.inl ⟨by rfl, ?hy2⟩) hHeld ?ha2 ?hn2
    case hy2 =>
      rintro w' hw'
      have d0 : w'.cell? ⟨w.heap.size, 0, none⟩ = some (.slice Af nf cf) := cell_of_row w' w.heap.size 0 _ _ _ (HALL.out w' hw').2.2.2.1
      have d1 : w'.cell? ⟨w.heap.size, 1, none⟩ = some (.slice At nt ct) := cell_of_row w' w.heap.size 1 _ _ _ (HALL.out w' hw').2.2.2.1
      have d2 : w'.cell? ⟨w.heap.size, 2, none⟩ = some (.bool cl) := cell_of_row w' w.heap.size 2 _ _ _ (HALL.out w' hw').2.2.2.1
      go_simp
    case ha2 =>
      simp only [Act.put, List.setIfInBounds_toArray, List.set_cons_zero, List.set_cons_succ]
      rfl
    refine take_ (i := 2) (N := some 26) (v := .agg (chA sd u (.pointer tu))) (a' := ?aa3) #[true, true, true, false, false, false] rfl rfl (by kernel_rfl) (fun _ _ _ h => h) (yieldsIf_load_mid rfl 38 (.tmp 7) rfl w2.heap.size 0 rfl (chA sd u (.pointer tu)).toList _ (fun _ h => (HALL.out _ h).2.2.1) ul38 rfl in38) hHeld ?ha3 ?_
    case ha3 =>
      simp only [Act.put, List.setIfInBounds_toArray, List.set_cons_zero, List.set_cons_succ]
      rfl
    refine one_ (i := 3) (N := some 27) #[true, true, true, true, false, false] rfl rfl (by kernel_rfl) (by decide) (fun K hK => ?_)
    refine goes_ Tryz.func29 (by kernel_rfl) rfl #[.agg (chA sd u (.pointer tu))] (by rfl) rfl rfl (by simp only [List.map_toArray, List.map_cons, List.map_nil]; rfl) ?_
    refine (chLen_any sd HS.out u (.pointer tu) T Y.drew (HALL.out _ (below_drew2 (Below.refl _ _))).1.tin).mono ?_
    rintro e w3 ⟨rfl, hb_⟩
    have HB3 : Hid (Below Y.heap.size Y w3) := below_drew1 hb_
    clear hb_
    rw [HLEN.out.2]
    refine ⟨_, rfl, hK.out _ _ HB3.out (fun hHeld => ?_)⟩
    simp only [Act.put, List.setIfInBounds_toArray, List.set_cons_zero, List.set_cons_succ]
    refine one_ (i := 4) (N := some 28) #[true, true, true, true, true, false] rfl rfl (by kernel_rfl) (by decide) (fun K hK => ?_)
    refine goes_ Tryz.func25 (by kernel_rfl) rfl #[.agg (chA sd u (.pointer tu)), .agg #[.slice Af nf cf, .slice At nt ct, .bool cl], .int .i64 0, .int .i64 (T.list.length : Int)] (by rfl) rfl rfl (by simp only [List.map_toArray, List.map_cons, List.map_nil]; rfl) ?_
    refine (HRG.out 0 (T.list.length : Int) w3 (HALL.out _ HB3.out).1 (HALL.out _ HB3.out).2.1 (by decide)).mono ?_
    have hall : sm 0 (T.list.length : Int) C = C := by
      unfold sm
      rw [Int.toNat_natCast, Int.toNat_zero, List.drop_zero, List.take_of_length_le HCL.out]
    rw [hall]
    rintro e w4 ⟨A9, c9, rfl, hl_, hr_, hb_⟩
    have HB4 : Hid (Below Y.heap.size Y w4) := HB3.out.trans (hb_.mono HB3.out.size)
    have HR9 : Hid (LIn (fun _ => True) w4 A9 C.length C) := hr_.imp fun _ _ _ => trivial
    clear hl_ hr_ hb_ hall
    refine ⟨_, rfl, hK.out _ _ HB4.out (fun hHeld => ?_)⟩
    simp only [Act.put, List.setIfInBounds_toArray, List.set_cons_zero, List.set_cons_succ]
    refine pure_ (i := 5) (N := some 9) (v := ?vv4) (a' := ?aa4) #[true, true, true, true, true, true] rfl rfl (by kernel_rfl) (fun _ _ _ h => h) (Or.inl ⟨by rfl, ?hy4⟩) ?ha4 ?hn4
    case hy4 =>
      intro w'
      go_simp
      with_reducible rfl
    case ha4 =>
      simp only [Act.put, List.setIfInBounds_toArray, List.set_cons_zero, List.set_cons_succ]
      rfl
    refine done_ (by kernel_rfl) ?_
    have HQL : Hid (C.length ≤ 61) := Nat.le_trans HCL.out HLEN.out.1
    go_upto_region 5 with fail
    obtain ⟨m, rfl⟩ : ∃ m : Nat, wd = (m : Int) := ⟨wd.toNat, by have := HWD.out; omega⟩
    have hm2 : m < 256 := by have := HWD.out; omega
    have hw1 : IntKind.i64.wrap (m : Int) = (m : Int) := wsm _ (by omega)
    obtain ⟨bq, hbq⟩ : ∃ bq : Nat, 1 + m % 20 = bq := ⟨_, rfl⟩
    have htm : Int.tmod (m : Int) 20 = ((m % 20 : Nat) : Int) := rfl
    have hw2 : IntKind.i64.wrap ((m % 20 : Nat) : Int) = ((m % 20 : Nat) : Int) := wsm _ (by omega)
    have hw3 : IntKind.i64.wrap (1 + ((m % 20 : Nat) : Int)) = (bq : Int) := (wsm _ (by omega)).trans (by omega)
    go_upto_region 7 with fail
    have hbi : 1 + (m : Int) % 20 = (bq : Int) := by omega
    have hb1 : 1 ≤ bq ∧ bq ≤ 20 := by omega
    rw [hbi]
    clear hw1 hw2 hw3 htm hbq hbi hm2
    have HBQ := Lib.hid hb1
    clear hb1
    obtain ⟨q, hq⟩ : ∃ q, C.length = q := ⟨_, rfl⟩
    have HQ := Lib.hid hq
    rw [hq] at HR9 HQL ⊢
    have hql := HQL.out
    clear hq
    have HRN : Hid (∀ (at_ : Nat) V, at_ ≤ 1000 → Below w4.heap.size w4 V → Below Y.heap.size Y V ∧ Calls Tryz.prog 25 #[.agg (chA sd u (.pointer tu)), .agg #[.slice Af nf cf, .slice At nt ct, .bool cl], .int .i64 (at_ : Int), .int .i64 (bq : Int)] V fun e w' => GotL V w' e (sm (at_ : Int) (bq : Int) C)) := fun at_ V ha hV => by
      have h1 := HB4.out.trans (hV.mono HB4.out.size)
      exact ⟨h1, HRG.out _ _ V (HALL.out V h1).1 (HALL.out V h1).2.1 (WalkArith.wf_i64 (by omega))⟩
    go_wp2_with fail
    go_loopw [11, 12] (fun u v wr => ∃ at_ : Nat, v = .int .i64 (at_ : Int) ∧ at_ ≤ q + 20 ∧ Hid (PartO w4.heap.size wr u (C.take at_) ∧ Below w4.heap.size w4 wr)) (fun _ v _ => q + 1 - (intOf v).toNat)
    case atStart => exact ⟨0, rfl, by omega, Lib.hid ⟨⟨none, 0, [], rfl, World.ownsRow_nil _ _ _ _, ⟨rfl, fun j hj => by simp at hj⟩⟩, Below.refl _ _⟩⟩
    case round =>
      obtain ⟨at_, rfl, hle, hI⟩ := hrel
      by_cases hlt : at_ ≤ q
      · have hlti : (at_ : Int) ≤ (q : Int) := by omega
        obtain ⟨⟨Ao, co, vs, rfl, hown, hps⟩, hbr⟩ := hI.out
        obtain ⟨D, hD⟩ : ∃ D, C.take at_ = D := ⟨_, rfl⟩
        obtain ⟨dn, hdn⟩ : ∃ dn, D.length = dn := ⟨_, rfl⟩
        have HDD := Lib.hid (And.intro hD hdn)
        rw [hD, hdn] at hown
        rw [hD, hdn] at hps
        simp only [hD, hdn]
        clear hD hdn
        have HI2 := Lib.hid (And.intro hown (And.intro hps hbr))
        have hbw := HBQ.out
        have hrn := HRN.out at_ _ (by omega) hbr
        have HRN2 := Lib.hid hrn
        have ra38 := (HALL.out _ hrn.1).2.2.1
        have hcc := (HALL.out _ hrn.1).2.2.2.1
        have b0 := cell_of_row _ w.heap.size 0 _ _ _ hcc
        have b1 := cell_of_row _ w.heap.size 1 _ _ _ hcc
        have b2 := cell_of_row _ w.heap.size 2 _ _ _ hcc
        simp at b0 b1 b2
        have hwa : IntKind.i64.wrap ((at_ : Int) + (bq : Int)) = (at_ : Int) + (bq : Int) := wsm _ (by omega)
        have HTL : Hid (dn ≤ 61) := (by rw [← HDD.out.2, ← HDD.out.1, List.length_take, HQ.out]; omega : dn ≤ 61)
        clear hown hps hbr hrn hcc hI
        go_wp2_with (refine wpList_load_mid rfl 38 _ rfl w2.heap.size 0 (by rfl) (chA sd u (.pointer tu)).toList _ ra38 Tryz.underlying38 rfl in38 ?_)
        refine HRN2.out.2.mono ?_
        rintro e w5 ⟨A6, c6, rfl, hl6, hr6, hb6⟩
        have hown5 := own_below HI2.out.1 hb6
        have hps5 : PsOf (fun b => (Value.slice Ao dn co).ownBlock ≠ some b) w5 vs D := HI2.out.2.1.carry hb6.size fun b _ hl => hb6.block b hl
        have hbr5 : Below w4.heap.size w4 w5 := HI2.out.2.2.trans (hb6.mono HI2.out.2.2.size)
        have hr6' : LIn (fun b => (Value.slice Ao dn co).ownBlock ≠ some b) w5 A6 (sm (at_ : Int) (bq : Int) C).length (sm (at_ : Int) (bq : Int) C) := hr6.imp fun b _ hb e => by
          have h1 := (HI2.out.1.lt b e).2
          have h2 : wr.heap.size ≤ b := hb
          omega
        have hsl : (sm (at_ : Int) (bq : Int) C).length ≤ 100 := by rw [sm_len, HQ.out]; omega
        have H5 := Lib.hid (And.intro hown5 (And.intro hps5 (And.intro hbr5 (And.intro hr6' hsl))))
        clear hown5 hps5 hbr5 hr6' hsl hl6 hr6 hb6 b0 b1 b2 ra38
        go_wp2_with (at_builtin; go_loud (refine step_row (S := fun b => (Value.slice Ao dn co).ownBlock ≠ some b ∧ b < w5.heap.size) rfl _ _ rfl w4.heap.size _ _ vs D rfl H5.out.1 (H5.out.2.1.imp fun b hl hb => ⟨hb, hl⟩) A6 (sm (at_ : Int) (bq : Int) C).length c6 (sm (at_ : Int) (bq : Int) C) rfl (H5.out.2.2.2.1.imp fun b hl hb => ⟨hb, hl⟩) (by have h1 := HTL.out; have h2 := H5.out.2.2.2.2; omega) H5.out.2.2.1.size (fun b hb => hb.1) ?_))
        intro v6 w6 ys6 hown6 hps6 hg6 ho6
        have hjl : dn + (sm (at_ : Int) (bq : Int) C).length = (C.take (at_ + bq)).length := by rw [← HDD.out.2, ← HDD.out.1, ← sm_join, List.length_append]
        rw [hjl] at hown6
        rw [← HDD.out.1, sm_join] at hps6
        obtain ⟨A7, c7, rfl⟩ := own_slice hown6
        have HN : Hid (PartO w4.heap.size w6 (.slice A7 (C.take (at_ + bq)).length c7) (C.take (at_ + bq)) ∧ Below w4.heap.size w4 w6) := by
          refine ⟨⟨A7, c7, ys6, rfl, hown6, hps6.imp fun b _ hb e => ?_⟩, H5.out.2.2.1.grown hg6 H5.out.2.2.1.size (fun k e => (H5.out.1.lt k e).1)⟩
          rcases ho6 with h | h
          · rw [h] at e; exact hb.1 e
          · rw [h] at e; injection e with e; have := hb.2; omega
        clear hown6 hps6 hg6 ho6 hjl
        have hbw := HBQ.out
        go_wp2_with fail
        go_roundw
        case rel => exact ⟨at_ + bq, by go_num, by omega, HN⟩
        case measure => simp [intOf]; omega
      · have hgt : ¬ (at_ : Int) ≤ (q : Int) := by omega
        have HT : Hid (C.take at_ = C) := List.take_of_length_le (by rw [HQ.out]; omega)
        obtain ⟨hpo, hbr⟩ := hI.out
        rw [HT.out] at hpo
        obtain ⟨Ao, co, vs, rfl, hown, hps⟩ := hpo
        have hr := reads_own (S := fun _ => True) hown hps rfl (fun _ _ _ => trivial) (fun _ _ => trivial)
        rw [HQ.out] at hr ⊢
        have h9 := HR9.out.below hbr
        have hby : Below Y.heap.size Y wr := HB4.out.trans (hbr.mono HB4.out.size)
        have HSM := Lib.hid (same_any C C Ao A9 q q co c9 wr hr.1 h9 (by omega) (by omega))
        rw [decide_eq_true rfl] at HSM
        have HBR := Lib.hid hby
        clear hbr hown hps hr h9 hby hI
        go_wp2_with fail
        refine HSM.out.mono ?_
        rintro e w5 ⟨rfl, hb5⟩
        have HB5 : Hid (Below Y.heap.size Y w5) := HBR.out.trans (hb5.mono HBR.out.size)
        clear hb5
        have ra38 := (HALL.out _ HB5.out).2.2.1
        have hcc := (HALL.out _ HB5.out).2.2.2.1
        have b0 := cell_of_row _ w.heap.size 0 _ _ _ hcc
        have b1 := cell_of_row _ w.heap.size 1 _ _ _ hcc
        have b2 := cell_of_row _ w.heap.size 2 _ _ _ hcc
        simp at b0 b1 b2
        have hct := HCT.out w5 (HALL.out _ HB5.out).1 (HALL.out _ HB5.out).2.1
        rw [HQ.out] at hct
        have HC5 := Lib.hid hct
        clear hcc hct
        go_wp2_with (refine wpList_load_mid_g (by rfl) 38 _ rfl w2.heap.size 0 (by rfl) (chA sd u (.pointer tu)).toList _ ra38 Tryz.underlying38 rfl in38 ?_)
        refine HC5.out.mono ?_
        rintro e w6 ⟨rfl, hb6⟩
        have HB6 : Hid (Below X.heap.size X w6) := by
          have h1 := HB5.out.trans (hb6.mono HB5.out.size)
          exact (HALL.out _ h1).2.2.2.2
        clear hb6 b0 b1 b2 ra38
        go_wp2_with fail
        refine (HAW.out w6 HB6.out).mono ?_
        rintro e wz ⟨rfl, hz⟩
        have HZ := Lib.hid hz
        clear hz
        go_wp2_with fail
        go_ret
        exact ⟨rfl, HZ.out⟩

end Go.Proofs.YtphjaebkcimklaaGreatDoor
