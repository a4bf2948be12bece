/- The law ScanTells. -/
import Derived.Test.YtphjaebkcimklaaGreatDoorMlaw
set_option linter.unusedVariables false
set_option linter.unusedSimpArgs false
namespace Go.Proofs.YtphjaebkcimklaaGreatDoor
open Go.RowKit Go.Shelf Go.Proofs.YtphjaebkcimklaaGreatDoorW.PrintLast
attribute [local go_sem] Oper.semAt_some

theorem Told.to {Y : World} {g : Nat} {A : Option Addr} {n c : Nat} {A' : Option Addr} {n' c' : Nat} {L : Pairs} {i j : Int} (h : Told Y g A n c A' n' c' L i) (e : i = j ∨ (¬ (0 ≤ i ∧ i < (L.length : Int)) ∧ ¬ (0 ≤ j ∧ j < (L.length : Int)))) : Told Y g A n c A' n' c' L j := by
  rcases e with rfl | ⟨h1, h2⟩
  · exact h
  · have hp := h.pin
    rw [if_neg h1] at hp
    exact ⟨h.two, by rw [if_neg h2]; exact hp⟩
theorem ceil_alike (M : Pairs) (key : Bytes) : (belowM M key : Int) = ceilM M key ∨ (¬ (0 ≤ (belowM M key : Int) ∧ (belowM M key : Int) < (M.length : Int)) ∧ ¬ (0 ≤ ceilM M key ∧ ceilM M key < (M.length : Int))) := by
  unfold ceilM
  by_cases h : belowM M key < M.length
  · rw [if_pos h]; exact .inl rfl
  · rw [if_neg h]; exact .inr ⟨by omega, by omega⟩
theorem rank_belowM (T : PT) (key : Bytes) (h : Asc T.list) : T.belowT (fun k => decide (cmp k key = -1)) = belowM T.list key :=
  below_plain T _ h fun a b h1 h2 => decide_eq_true (cmp_lt_trans _ _ _ h1 (of_decide_eq_true h2))
theorem floor_leM (T : PT) (key : Bytes) (h : Asc T.list) : T.belowT (fun k => decide (cmp k key ≠ 1)) = leM T.list key := by
  rw [below_plain T _ h]
  · unfold leM
    congr 1
    funext q
    rw [decide_eq_decide, cmp_neg key q.1]
    constructor
    · intro h1 h2; exact h1 (by omega)
    · intro h1 h2; exact h1 (by omega)
  · intro a b h1 h2
    have h3 := of_decide_eq_true h2
    refine decide_eq_true fun h4 => ?_
    exact h3 (by rw [cmp_neg, cmp_lt_trans _ _ _ (cmp_gt h4) h1]; rfl)

set_option maxRecDepth 100000 in
set_option maxHeartbeats 1600000 in
theorem scanTells_any (A : Option Addr) (n c : Nat) (L : List (Int × Bytes × Bytes)) (sv kv : Value) (f t : Bytes) (cl : Bool) (k : Bytes) (w : World) (h : Ops w A n L) (hs : SRaw w sv f t cl) (hk : BRaw w kv k) (hT : Tabs w) :
    Calls Tryz.prog 5 #[.slice A n c, sv, kv] w fun e w' => e = .returned (.bool true) ∧ Below w.heap.size w w' := by
  obtain ⟨fv, tv, rfl, hf, ht⟩ := hs
  obtain ⟨Af, nf, cf, rfl, _, _, h3f⟩ := id hf
  obtain ⟨At, nt, ct, rfl, _, _, h3t⟩ := id ht
  obtain ⟨Ak, nk, ck, rfl, _, _, h3k⟩ := id hk
  have HLN : Hid (f.length = nf ∧ t.length = nt ∧ k.length = nk) := ⟨h3f.len, h3t.len, h3k.len⟩
  have hb : Below w.heap.size w (w.alloc (.cells #[.slice Af nf cf, .slice At nt ct, .bool cl] 25)) := (Below.refl _ w).alloc (Nat.le_refl _) _
  have e0 : Tri 25 (w.alloc (.cells #[.slice Af nf cf, .slice At nt ct, .bool cl] 25)) w.heap.size (.slice Af nf cf) (.slice At nt ct) (.bool cl) := heap_new w _
  have HO : Hid (∀ W, Below (w.alloc (.cells #[.slice Af nf cf, .slice At nt ct, .bool cl] 25)).heap.size (w.alloc (.cells #[.slice Af nf cf, .slice At nt ct, .bool cl] 25)) W →
      Below w.heap.size w W ∧ Ops W A n L ∧ BRaw W (.slice Af nf cf) f ∧ BRaw W (.slice At nt ct) t ∧ BRaw W (.slice Ak nk ck) k ∧ Tri 25 W w.heap.size (.slice Af nf cf) (.slice At nt ct) (.bool cl) ∧ Tabs W) := fun W hW => by
    have h2 := hb.trans (hW.mono hb.size)
    exact ⟨h2, h.below h2, hf.below h2, ht.below h2, hk.below h2, e0.below hW e0.lt, hT.below h2⟩
  clear h hf ht hk h3f h3t h3k hb e0 hT
  go_enter Tryz.func5, Tryz.ntmps5
  go_upto_region 1 with fail
  generalize w.alloc (.cells #[.slice Af nf cf, .slice At nt ct, .bool cl] 25) = X at *
  have HF := Lib.hid (fine23_any A n c L Af At nf cf nt ct cl 0 0 X (HO.out X (Below.refl _ _)).2.1)
  obtain ⟨b0, b1, b2⟩ := (HO.out X (Below.refl _ _)).2.2.2.2.2.1.cells
  go_wp2_with fail
  refine HF.out.mono ?_
  rintro e w1 ⟨r, rfl, hr, hb1⟩
  have HB1 : Hid (Below X.heap.size X w1) := hb1
  clear hb1 b0 b1 b2
  have HAW : Hid (∀ W, Below X.heap.size X W → Calls Tryz.prog 9 #[] W fun e w' => e = .returned (.bool true) ∧ Below w.heap.size w w') := fun W hW =>
    (awake23_any W (HO.out W hW).2.2.2.2.2.2).mono fun e w' ⟨he, hb⟩ => ⟨he, (HO.out W hW).1.trans (hb.mono (HO.out W hW).1.size)⟩
  cases r with
  | false =>
    clear hr
    go_wp2_with fail
    refine (HAW.out w1 HB1.out).mono ?_
    rintro e wz ⟨rfl, hz⟩
    have HZ := Lib.hid hz
    clear hz
    go_wp2_with fail
    go_ret
    exact ⟨rfl, HZ.out⟩
  | true =>
    have HFI := Lib.hid (hr rfl)
    clear hr
    by_cases hkb : 100 < nk
    · have hkz : (100 : Int) < (nk : Int) := by omega
      go_wp2_with fail
      refine (HAW.out w1 HB1.out).mono ?_
      rintro e wz ⟨rfl, hz⟩
      have HZ := Lib.hid hz
      clear hz
      go_wp2_with fail
      go_ret
      exact ⟨rfl, HZ.out⟩
    have hsk : ¬ (100 : Int) < (nk : Int) := by omega
    have HSP : Hid (∀ W, Below X.heap.size X W → SIn (fun _ => True) W (.agg #[.slice Af nf cf, .slice At nt ct, .bool cl]) f t cl ∧ BIn (fun _ => True) W (.slice Ak nk ck) k) := fun W hW => by
      have h1 := HFI.out
      have h2 := HLN.out
      have h3 := HO.out W hW
      exact ⟨⟨_, _, rfl, h3.2.2.1.fine (by omega), h3.2.2.2.1.fine (by omega)⟩, h3.2.2.2.2.1.fine (by omega)⟩
    have HMD := Lib.hid (made23_any A n c L w1 (HO.out w1 HB1.out).2.1 HFI.out.1 (HO.out w1 HB1.out).2.2.2.2.2.2)
    have hnk : nk ≤ 100 := by omega
    have HNK := Lib.hid hnk
    clear hkb hnk
    go_wp2_with fail
    refine HMD.out.mono ?_
    rintro e w2 ⟨sd, u, tu, A', c', T, rfl, hI⟩
    have HB2 : Hid (Below X.heap.size X w2) := HB1.out.trans (hI.out.below.mono HB1.out.size)
    have HS := Lib.hid hI.out.sc.seed
    have HU := Lib.hid hI.out.sc.one
    have HZN : Hid ((w2.alloc (.cells z38 38)).heap[w2.heap.size]? = some (.cells z38 38 (0, 0))) := heap_new w2 _
    have HCB := Lib.hid (chBox w2 sd u tu)
    clear HMD
    go_upto_region 4 with (refine wpList_store_row rfl 38 _ _ rfl w2.heap.size (chA sd u (.pointer tu)) rfl rfl 38 _ HZN.out (size_of info38 (chA_size HS.out.1)) (by rw [chA_size HS.out.1]; rfl) (chA_one HS.out HU.out rfl) ?_)
    clear HZN
    generalize (w2.alloc (.cells z38 38)).setRow w2.heap.size (chA sd u (.pointer tu)) = Y at *
    have HBY : Hid (Below X.heap.size X Y) := HB2.out.trans (HCB.out.below.mono HB2.out.size)
    have HALL : Hid (∀ W, Below Y.heap.size Y W → Sc W sd u tu T ∧ SIn (fun _ => True) W (.agg #[.slice Af nf cf, .slice At nt ct, .bool cl]) f t cl ∧ BIn (fun _ => True) W (.slice Ak nk ck) k ∧ MIn (fun _ => True) W A' T.list.length T.list ∧ W.rangeAt w2.heap.size 0 (chA sd u (.pointer tu)).toList ∧ Tri 25 W w.heap.size (.slice Af nf cf) (.slice At nt ct) (.bool cl) ∧ Below X.heap.size X W) := fun W hW => by
      have h2 := HBY.out.trans (hW.mono HBY.out.size)
      have h3 := HCB.out.below.trans (hW.mono HCB.out.below.size)
      exact ⟨hI.out.sc.below h3, (HSP.out W h2).1, (HSP.out W h2).2, hI.out.min.below h3, HCB.out.ra hW, (HO.out W h2).2.2.2.2.2.1, h2⟩
    have HLEN : Hid (T.list.length ≤ 61 ∧ (∀ p ∈ T.list, p.1.length ≤ 100000) ∧ Asc T.list) := ⟨hI.out.len, hI.out.keys, hI.out.sc.asc⟩
    have in38 := in38' (u := u) (p := .pointer tu) HS.out
    clear hI
    -- the document's stretch
    obtain ⟨b0, b1, b2⟩ := (HALL.out Y (Below.refl _ _)).2.2.2.2.2.1.cells
    go_wp2_with fail
    refine (ref_any (S := fun _ => True) _ f t cl Y (HALL.out Y (Below.refl _ _)).2.1).mono ?_
    rintro e w3 ⟨rfl, hb3⟩
    have HB3 : Hid (Below Y.heap.size Y w3) := hb3
    clear hb3 b0 b1 b2
    have hmc := mcut_any T.list A' T.list.length c' (strO f) (strO t) cl true w3 (HALL.out w3 HB3.out).2.2.2.1 (by have := HLEN.out.1; omega) HLEN.out.2.1
    rw [strL_strO, strL_strO] at hmc
    have HMC := Lib.hid hmc
    have HCX : Hid ((cutM T.list f t cl true).length ≤ 61) := Nat.le_trans (cutM_len _ _ _ _ _) HLEN.out.1
    have HCT := Lib.hid (fun (V : World) (h1 : Sc V sd u tu T) (h2 : SIn (fun _ => True) V (.agg #[.slice Af nf cf, .slice At nt ct, .bool cl]) f t cl) => And.intro (ends23_any V h1 h2) (count_any V h1 h2))
    clear hmc
    generalize cutM T.list f t cl true = C at *
    go_wp2_with fail
    refine HMC.out.mono ?_
    rintro e w4 ⟨A5, c5, rfl, h51, h52, h53⟩
    have HB4 : Hid (Below Y.heap.size Y w4) := HB3.out.trans (h53.mono HB3.out.size)
    have HM5 := Lib.hid h52
    clear h51 h52 h53 HMC
    obtain ⟨b0, b1, b2⟩ := (HALL.out w4 HB4.out).2.2.2.2.2.1.cells
    have ra38 := (HALL.out w4 HB4.out).2.2.2.2.1
    go_wp2_with (refine wpList_load_mid rfl 38 _ rfl w2.heap.size 0 (by rfl) (chA sd u (.pointer tu)).toList _ ra38 Tryz.underlying38 rfl in38 ?_)
    refine (HCT.out w4 (HALL.out w4 HB4.out).1 (HALL.out w4 HB4.out).2.1).1.mono ?_
    rintro e w5 ⟨A1, n1, c1, A2, n2, c2, A3, n3, c3, A4, n4, c4, rfl, hp1, hp2, hb5⟩
    have HB5 : Hid (Below Y.heap.size Y w5) := HB4.out.trans (hb5.mono HB4.out.size)
    have HP := Lib.hid (And.intro hp1 hp2)
    have HM6 : Hid (MIn (New w3.heap.size) w5 A5 C.length C) := HM5.out.below hb5
    clear b0 b1 b2 ra38 hp1 hp2 hb5
    go_upto_region 6 with fail
    have h5z : ((w5.alloc (.cells #[.slice A1 n1 c1, .slice A2 n2 c2] 60)).alloc (.cells #[.slice A3 n3 c3, .slice A4 n4 c4] 60)).heap.size = w5.heap.size + 1 + 1 := by simp
    have hb56 : Below w5.heap.size w5 ((w5.alloc (.cells #[.slice A1 n1 c1, .slice A2 n2 c2] 60)).alloc (.cells #[.slice A3 n3 c3, .slice A4 n4 c4] 60)) := ((Below.refl _ _).alloc (Nat.le_refl _) _).alloc (by simp) _
    have hq1 : Two ((w5.alloc (.cells #[.slice A1 n1 c1, .slice A2 n2 c2] 60)).alloc (.cells #[.slice A3 n3 c3, .slice A4 n4 c4] 60)) w5.heap.size (.slice A1 n1 c1) (.slice A2 n2 c2) := heap_old _ (heap_new w5 _)
    have hq2 : Two ((w5.alloc (.cells #[.slice A1 n1 c1, .slice A2 n2 c2] 60)).alloc (.cells #[.slice A3 n3 c3, .slice A4 n4 c4] 60)) (w5.heap.size + 1) (.slice A3 n3 c3) (.slice A4 n4 c4) := by
      have := heap_new (w5.alloc (.cells #[.slice A1 n1 c1, .slice A2 n2 c2] 60)) (.cells #[.slice A3 n3 c3, .slice A4 n4 c4] 60)
      rw [World.size_alloc] at this
      exact this
    obtain ⟨q, hq⟩ : ∃ q, C.length = q := ⟨_, rfl⟩
    have HQ := Lib.hid hq
    have hm7 : MIn (New w3.heap.size) _ A5 C.length C := HM6.out.below hb56
    have HZ : Hid (∀ W, Below ((w5.alloc (.cells #[.slice A1 n1 c1, .slice A2 n2 c2] 60)).alloc (.cells #[.slice A3 n3 c3, .slice A4 n4 c4] 60)).heap.size ((w5.alloc (.cells #[.slice A1 n1 c1, .slice A2 n2 c2] 60)).alloc (.cells #[.slice A3 n3 c3, .slice A4 n4 c4] 60)) W →
        Below Y.heap.size Y W ∧ Two W w5.heap.size (.slice A1 n1 c1) (.slice A2 n2 c2) ∧ Two W (w5.heap.size + 1) (.slice A3 n3 c3) (.slice A4 n4 c4) ∧ Calls Tryz.prog 16 #[.agg (chA sd u (.pointer tu)), .agg #[.slice Af nf cf, .slice At nt ct, .bool cl]] W (fun e w' => e = .returned (.int .i64 (q : Int)) ∧ Below W.heap.size W w') ∧
        Calls Tryz.prog 19 #[.agg #[.slice A1 n1 c1, .slice A2 n2 c2], .bool (decide (0 < q)), .slice A5 q c5, .int .i64 0] W (fun e w' => e = .returned (.bool true) ∧ Below W.heap.size W w') ∧
        Calls Tryz.prog 19 #[.agg #[.slice A3 n3 c3, .slice A4 n4 c4], .bool (decide (0 < q)), .slice A5 q c5, .int .i64 ((q : Int) - 1)] W (fun e w' => e = .returned (.bool true) ∧ Below W.heap.size W w')) := fun W hW => by
      have hy : Below Y.heap.size Y W := HB5.out.trans ((hb56.trans (hW.mono hb56.size)).mono HB5.out.size)
      have hw5 : Below w5.heap.size w5 W := hb56.trans (hW.mono hb56.size)
      have hc := (HCT.out W (HALL.out W hy).1 (HALL.out W hy).2.1).2
      rw [hq] at hc
      have hm := hm7.below hW
      refine ⟨hy, hq1.below hW hq1.lt, hq2.below hW hq2.lt, hc, ?_, ?_⟩
      · have := is23_any C A5 c5 A1 A2 n1 c1 n2 c2 (decide (0 < q)) 0 W hm (by have := HCX.out; omega) (by rw [decide_eq_decide, hq]; omega) (by
          have hp := HP.out.1.below hw5
          by_cases h0 : 0 < q
          · rw [if_pos ⟨by omega, by omega⟩]; exact hp
          · rw [if_neg (by omega)]
            rw [List.eq_nil_of_length_eq_zero (show C.length = 0 by omega)] at hp
            exact hp)
        rw [hq] at this
        exact this
      · have := is23_any C A5 c5 A3 A4 n3 c3 n4 c4 (decide (0 < q)) ((q : Int) - 1) W hm (by have := HCX.out; omega) (by rw [decide_eq_decide, hq]; omega) (by
          have hp := HP.out.2.below hw5
          by_cases h0 : 0 < q
          · rw [if_pos ⟨by omega, by omega⟩, show ((q : Int) - 1).toNat = C.length - 1 by omega]; exact hp
          · rw [if_neg (by omega)]
            rw [List.eq_nil_of_length_eq_zero (show C.length = 0 by omega)] at hp
            exact hp)
        rw [hq] at this
        exact this
    have HG5 : Hid (w5.heap.size + 1 < ((w5.alloc (.cells #[.slice A1 n1 c1, .slice A2 n2 c2] 60)).alloc (.cells #[.slice A3 n3 c3, .slice A4 n4 c4] 60)).heap.size) := hq2.lt
    have hcx := HCX.out
    rw [hq] at hcx
    simp only [hq]
    clear h5z hb56 hq1 hq2 hm7 hq HM6 HM5 HP HCT
    generalize (w5.alloc (.cells #[.slice A1 n1 c1, .slice A2 n2 c2] 60)).alloc (.cells #[.slice A3 n3 c3, .slice A4 n4 c4] 60) = Z at *
    obtain ⟨ok, hok⟩ : ∃ ok, decide (0 < q) = ok := ⟨_, rfl⟩
    have hok2 : decide ((0 : Int) < (q : Int)) = ok := by rw [← hok, decide_eq_decide]; omega
    simp only [hok] at HZ ⊢
    have hok3 := hok
    have hwq : IntKind.i64.wrap ((q : Int) - 1) = (q : Int) - 1 := wsm _ (by omega)
    obtain ⟨b0, b1, b2⟩ := (HALL.out Z (HZ.out Z (Below.refl _ _)).1).2.2.2.2.2.1.cells
    have ra38 := (HALL.out Z (HZ.out Z (Below.refl _ _)).1).2.2.2.2.1
    go_wp2_with (refine wpList_load_mid rfl 38 _ rfl w2.heap.size 0 (by rfl) (chA sd u (.pointer tu)).toList _ ra38 Tryz.underlying38 rfl in38 ?_)
    refine (HZ.out Z (Below.refl _ _)).2.2.2.1.mono ?_
    rintro e w6 ⟨rfl, hb6⟩
    have HB6 : Hid (Below Z.heap.size Z w6) := hb6
    clear b0 b1 b2 ra38 hb6
    obtain ⟨b0, b1⟩ := (HZ.out w6 HB6.out).2.1.cells
    go_wp2_with fail
    refine (HZ.out w6 HB6.out).2.2.2.2.1.mono ?_
    rintro e w7 ⟨rfl, hb7⟩
    have HB7 : Hid (Below Z.heap.size Z w7) := HB6.out.trans (hb7.mono HB6.out.size)
    clear b0 b1 hb7
    obtain ⟨b0, b1⟩ := (HZ.out w7 HB7.out).2.2.1.cells
    go_wp2_with fail
    refine (HZ.out w7 HB7.out).2.2.2.2.2.mono ?_
    rintro e w8 ⟨rfl, hb8⟩
    have HB8 : Hid (Below Y.heap.size Y w8) := (HZ.out Z (Below.refl _ _)).1.trans ((HB7.out.trans (hb8.mono HB7.out.size)).mono (HZ.out Z (Below.refl _ _)).1.size)
    clear b0 b1 hb8 hok hok2 hok3 hwq
    have ra38 := (HALL.out w8 HB8.out).2.2.2.2.1
    have HRB := Lib.hid (rank_belowM T k HLEN.out.2.2)
    have HFB := Lib.hid (floor_leM T k HLEN.out.2.2)
    go_wp2_with (refine wpList_load_mid rfl 38 _ rfl w2.heap.size 0 (by rfl) (chA sd u (.pointer tu)).toList _ ra38 Tryz.underlying38 rfl in38 ?_)
    refine (sfloor_any Ak nk ck k w8 (HALL.out w8 HB8.out).1 (HALL.out w8 HB8.out).2.2.1).mono ?_
    rintro e w9 hr
    rw [HFB.out] at hr
    obtain ⟨D1, m1, d1, D2, m2, d2, ok3, rfl, o3, t3, b3⟩ := hr.told
    clear hr ra38
    go_upto_region 11 with fail
    generalize w9.heap.size = g3 at *
    generalize w9.alloc (.cells #[.slice D1 m1 d1, .slice D2 m2 d2] 60) = P at *
    have HBP : Hid (Below Y.heap.size Y P) := HB8.out.trans (b3.out.mono HB8.out.size)
    have ra38 := (HALL.out P HBP.out).2.2.2.2.1
    go_wp2_with (refine wpList_load_mid rfl 38 _ rfl w2.heap.size 0 (by rfl) (chA sd u (.pointer tu)).toList _ ra38 Tryz.underlying38 rfl in38 ?_)
    refine (sceil_any Ak nk ck k P (HALL.out P HBP.out).1 (HALL.out P HBP.out).2.2.1).mono ?_
    rintro e w10 hr
    rw [HRB.out] at hr
    obtain ⟨D3, m3, d3, D4, m4, d4, ok4, rfl, o4, t4, b4⟩ := hr.told
    clear hr ra38
    go_upto_region 12 with fail
    generalize w10.heap.size = g4 at *
    generalize w10.alloc (.cells #[.slice D3 m3 d3, .slice D4 m4 d4] 60) = R at *
    have HBR : Hid (Below Y.heap.size Y R) := HBP.out.trans (b4.out.mono HBP.out.size)
    have T3 := Lib.hid (t3.out.below b4.out)
    have hcA := ceil_alike T.list k
    have T4 := Lib.hid (t4.out.to hcA)
    have hdec : decide (0 ≤ (belowM T.list k : Int) ∧ (belowM T.list k : Int) < (T.list.length : Int)) = decide (0 ≤ ceilM T.list k ∧ ceilM T.list k < (T.list.length : Int)) := by
      rcases hcA with e | ⟨h1, h2⟩
      · rw [e]
      · rw [decide_eq_false h1, decide_eq_false h2]
    have O4 : Hid (ok4 = decide (0 ≤ ceilM T.list k ∧ ceilM T.list k < (T.list.length : Int))) := o4.out.trans hdec
    clear hdec hcA t3 t4 b3 b4 o4
    have HRR : Hid (∀ p : BelowBy R, Below Y.heap.size Y p.W) := fun p => HBR.out.trans (p.below.mono HBR.out.size)
    have HAL : Hid (T.list.length ≤ 1000000) := (by have := HLEN.out.1; omega : T.list.length ≤ 1000000)
    have CMF : Hid (∀ p : BelowBy R, Calls Tryz.prog 22 #[.slice A' T.list.length c', .string (strO k)] p.W fun e w' => e = .returned (.int .i64 ((leM T.list k : Int) - 1)) ∧ Below p.W.heap.size p.W w') := fun p => by
      have := mfloor_any T.list A' T.list.length c' (strO k) p.W (HALL.out _ (HRR.out p)).2.2.2.1 HAL.out (by rw [strO_size]; have h1 := HLN.out; have h2 := HNK.out; omega) HLEN.out.2.2
      rw [strL_strO] at this
      exact this
    have CMC : Hid (∀ p : BelowBy R, Calls Tryz.prog 23 #[.slice A' T.list.length c', .string (strO k)] p.W fun e w' => e = .returned (.int .i64 (ceilM T.list k)) ∧ Below p.W.heap.size p.W w') := fun p => by
      have := mceil_any T.list A' T.list.length c' (strO k) p.W (HALL.out _ (HRR.out p)).2.2.2.1 HAL.out HLEN.out.2.1 HLEN.out.2.2
      rw [strL_strO] at this
      exact this
    have CA1 := Lib.hid (fun p : BelowBy R => is23_any T.list A' c' D1 D2 m1 d1 m2 d2 ok3 ((leM T.list k : Int) - 1) p.W (HALL.out _ (HRR.out p)).2.2.2.1 HAL.out o3.out (T3.out.below p.below).pin)
    have CA2 := Lib.hid (fun p : BelowBy R => is23_any T.list A' c' D3 D4 m3 d3 m4 d4 ok4 (ceilM T.list k) p.W (HALL.out _ (HRR.out p)).2.2.2.1 HAL.out O4.out (T4.out.below p.below).pin)
    have CAW := Lib.hid (fun p : BelowBy R => awake23_any p.W (HO.out _ (HALL.out _ (HRR.out p)).2.2.2.2.2.2).2.2.2.2.2.2)
    have q0 := fun p : BelowBy R => (T3.out.below p.below).two.cells.1
    have q1 := fun p : BelowBy R => (T3.out.below p.below).two.cells.2
    have q2 := fun p : BelowBy R => (T4.out.below p.below).two.cells.1
    have q3 := fun p : BelowBy R => (T4.out.below p.below).two.cells.2
    have hcv := fun p : BelowBy R => conv_bytes (HALL.out _ (HRR.out p)).2.2.1
    generalize ceilM T.list k = ic at *
    generalize (leM T.list k : Int) - 1 = il at *
    refine wp_region_quiet_below (by kernel_rfl) (by kernel_rfl) ?_
    repeat (quiet_step (first
      | (go_at_call 22; with_reducible refine Calls.below_of (CMF.out _))
      | (go_at_call 23; with_reducible refine Calls.below_of (CMC.out _))
      | (go_at_call 19; with_reducible refine Calls.below_of (CA1.out _))
      | (go_at_call 19; with_reducible refine Calls.below_of (CA2.out _))
      | (go_at_call 9; with_reducible refine Calls.below_of (CAW.out _))))
    refine wpQuiet_nil ?_
    intro _ hw'
    obtain ⟨p, rfl⟩ := hw'
    have HBQ : Hid (Below w.heap.size w p.W) := (HO.out _ (HALL.out _ (HRR.out p)).2.2.2.2.2.2).1
    clear q0 q1 q2 q3 hcv
    go_wp2_with fail
    go_ret
    exact ⟨rfl, HBQ.out⟩

end Go.Proofs.YtphjaebkcimklaaGreatDoor
