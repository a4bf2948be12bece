/- The law WalkPlays. -/
import Derived.Test.YtnfhbljhohjkhaaWBack
set_option linter.unusedVariables false
set_option linter.unusedSimpArgs false
namespace Go.Proofs.Ytnfhbljhohjkhaa
open Go.RowKit
attribute [local go_sem] max2_num min2_num maxOf_two minOf_two

/-- A row of a cursor's calls. -/
structure Moves (w : World) (A : Option Addr) (n : Nat) (L : List (Int × Bytes)) : Prop where
  len : L.length = n
  le : n ≤ 9223372036854775807
  cell : 0 < n → ∃ b o, A = some ⟨b, o, none⟩ ∧ b < w.heap.size ∧ ∀ j, j < n → ∃ kv, w.cell? ⟨b, o + j * 2, none⟩ = some (.int .i64 (L.getD j (0, [])).1) ∧ w.cell? ⟨b, o + j * 2 + 1, none⟩ = some kv ∧ BRaw w kv (L.getD j (0, [])).2
theorem Moves.below {w w1 : World} {A : Option Addr} {n : Nat} {L : List (Int × Bytes)} (h : Moves w A n L) (hb : Below w.heap.size w w1) : Moves w1 A n L :=
  ⟨h.len, h.le, fun hn => by
    obtain ⟨b, o, e, hlt, hc⟩ := h.cell hn
    refine ⟨b, o, e, Nat.lt_of_lt_of_le hlt hb.size, fun j hj => ?_⟩
    obtain ⟨kv, h1, h2, h3⟩ := hc j hj
    exact ⟨kv, (cell_block (hb.block b hlt)).trans h1, (cell_block (hb.block b hlt)).trans h2, h3.below hb⟩⟩

theorem below_rank (T : PT) (key : Bytes) (h : Asc T.list) : T.belowT (fun k => decide (cmp k key = -1)) = belowM T.list key := by
  rw [below_less T key h, belowM, List.countP_eq_length_filter]; rfl

/-- The world of a round, and the tree that is changed meanwhile. -/
structure Round (X W : World) (g : Nat) (tu : Option Addr) (T : PT) (k : Nat) (u : Option Addr) (T' : PT) : Prop where
  ci : CI X W g tu T k
  tin : TIn (fun b => b ≠ g) W (.pointer u) T'
  even : T'.even
  asc : Asc T'.list
  sz : T'.size ≤ 60

set_option maxRecDepth 100000 in
set_option maxHeartbeats 12800000 in
theorem walkPlays_any (A : Option Addr) (n c : Nat) (L : List (Int × Bytes × Bytes)) (i : Int) (B : Option Addr) (m d : Nat) (M : List (Int × Bytes)) (w : World) (h : Ops w A n L) (hm : Moves w B m M) :
    Calls Try.prog 12 #[.slice A n c, .int .i64 i, .slice B m d] w fun e w' => e = .returned (.bool true) ∧ Below w.heap.size w w' := by
  have HO := Lib.hid h
  have HMV := Lib.hid hm
  have hmle := hm.le
  have HF := Lib.hid (fine_any A n c L 60 w h (by omega))
  clear h hm
  go_enter Try.func12, Try.ntmps12
  go_wp2_with fail
  refine HF.out.mono ?_
  rintro e w1 ⟨r, rfl, hr, hb1⟩
  have HB1 := Lib.hid hb1
  clear hb1
  cases r with
  | false =>
    clear hr
    go_wp2_with fail
    refine (awake15_any w1).mono ?_
    rintro e w2 ⟨rfl, hb2⟩
    have HB2 : Hid (Below w.heap.size w w2) := HB1.out.trans (hb2.mono HB1.out.size)
    clear hb2
    go_wp2_with fail
    go_ret
    exact ⟨rfl, HB2.out⟩
  | true =>
    have HFI := Lib.hid (hr rfl)
    clear hr
    have hn1 : n ≤ 60 := by have := HFI.out.1; rw [HO.out.len] at this; exact this
    by_cases hbm : 60 < m
    · have hbz : (60 : Int) < (m : Int) := by omega
      go_wp2_with fail
      refine (awake15_any w1).mono ?_
      rintro e w2 ⟨rfl, hb2⟩
      have HB2 : Hid (Below w.heap.size w w2) := HB1.out.trans (hb2.mono HB1.out.size)
      clear hb2
      go_wp2_with fail
      go_ret
      exact ⟨rfl, HB2.out⟩
    have hsm : ¬ (60 : Int) < (m : Int) := by omega
    have hm60 : m ≤ 60 := by omega
    have HMD := Lib.hid (made15_any A n c L w1 (HO.out.below HB1.out) ⟨by have := HFI.out.1; omega, HFI.out.2⟩)
    clear hbm hmle
    go_wp2_with fail
    refine HMD.out.mono ?_
    rintro e w2 ⟨u, A', c', T, rfl, hI⟩
    have HB2 : Hid (Below w.heap.size w w2) := HB1.out.trans (hI.out.below.mono HB1.out.size)
    have hsz : T.size ≤ 60 := by have := hI.out.size; omega
    have hll : T.list.length ≤ 60 := by rw [PT.size_list]; exact hsz
    have HTI := Lib.hid hI.out.tin
    have HWA := Lib.hid (wat_any T (.pointer u) i w2 hI.out.tin (by omega))
    have HMI := Lib.hid (hI.out.min.imp (S' := fun b => b < w2.heap.size) (fun b hb _ => hb))
    have HKY : Hid (T.even ∧ Asc T.list ∧ (∀ p ∈ T.list, p.1.length ≤ 100000)) := ⟨hI.out.even, hI.out.asc, hI.out.keys⟩
    have hkl : heldN i T.list.length ≤ T.list.length := heldN_le _ _
    clear HMD hI
    go_wp2_with fail
    refine HWA.out.mono ?_
    rintro e w3 ⟨rfl, h3⟩
    have HC3 : Hid (CI w3 w3 w2.heap.size u T (heldN i T.list.length)) :=
      ⟨(HTI.out.imp (fun b hb _ => hb)).below h3.out.2.1, by rw [PT.size_list]; exact h3.out.1, Kept.refl _ _, heldN_le _ _, by omega⟩
    have HM3 : Hid (∀ W, Kept (some w2.heap.size) w3 W → MIn (fun b => b < w2.heap.size) W A' T.list.length T.list) := fun W hW => (HMI.out.below h3.out.2.1).kept hW (fun b hb e => by injection e with e; subst e; exact Nat.lt_irrefl _ hb)
    have HB3 : Hid (∀ W, Kept (some w2.heap.size) w3 W → Below w.heap.size w W) := fun W hW => Kept.over (HB2.out.trans (h3.out.2.1.mono HB2.out.size)) HB2.out.size hW
    have HR3 : Hid (Round w3 w3 w2.heap.size u T (heldN i T.list.length) u T) := ⟨HC3.out, (HTI.out.imp (S' := fun b => b ≠ w2.heap.size) (fun b hb _ => Nat.ne_of_lt hb)).below h3.out.2.1, HKY.out.1, HKY.out.2.1, hsz⟩
    clear h3 HWA HTI HMI HC3
    generalize w2.heap.size = g at *
    have HHE := Lib.hid (fun W => held_any i T.list.length W)
    generalize heldN i T.list.length = k0 at *
    go_wp2_with fail
    refine (HHE.out w3).mono ?_
    rintro e w4 ⟨rfl, rfl⟩
    go_wp2_with fail
    go_loopw [7, 10, 42] (fun tv kv iv wr => ∃ (j k : Nat) (u' : Option Addr) (T' : PT), iv = .int .i64 (j : Int) ∧ j ≤ m ∧ kv = .int .i64 (k : Int) ∧ k ≤ T.list.length ∧ tv = .pointer u' ∧ Hid (Round w3 wr g u T k u' T')) (fun _ _ v _ => m - (intOf v).toNat)
    case atStart => exact ⟨0, k0, u, T, rfl, by omega, rfl, hkl, rfl, HR3⟩
    case round =>
      obtain ⟨j, k, u', T', rfl, hj, rfl, hk, rfl, hR⟩ := hrel
      by_cases hlt : j < m
      · obtain ⟨b, o, rfl, hbl, hc⟩ := HMV.out.cell (by omega)
        obtain ⟨kv, c0w, c1w, ⟨Ak, nk, ck, rfl, hk1, hk2, hk3⟩⟩ := hc j hlt
        have hBW : Below w.heap.size w wr := HB3.out _ hR.out.ci.kept
        have c0 := (cell_block (hBW.block b hbl)).trans c0w
        have c1 := (cell_block (hBW.block b hbl)).trans c1w
        have hkk : BRaw w (.slice Ak nk ck) (M.getD j (0, [])).2 := ⟨_, _, _, rfl, hk1, hk2, hk3⟩
        have HKL := Lib.hid hk3.len
        have al : (0 : Int) ≤ (j : Int) := by omega
        have al3 : (j : Int) < (m : Int) := by omega
        obtain ⟨op, hop⟩ : ∃ op, (M.getD j (0, [])).1 = op := ⟨_, rfl⟩
        rw [hop] at c0
        obtain ⟨key, hkey⟩ : ∃ key, (M.getD j (0, [])).2 = key := ⟨_, rfl⟩
        rw [hkey] at hkk HKL
        have HKK := Lib.hid hkk
        have hbn : Below wr.heap.size wr (wr.alloc (.cells #[.int .i64 op, .slice Ak nk ck] 72)) := (Below.refl _ _).alloc (Nat.le_refl _) _
        have HCM := Lib.hid (hR.out.ci.below hbn)
        have HTM := Lib.hid (hR.out.tin.below hbn)
        have hgl : g < wr.heap.size := hR.out.ci.cur.lt
        have HBX : Hid (∀ W, Kept (some g) (wr.alloc (.cells #[.int .i64 op, .slice Ak nk ck] 72)) W → W.cell? ⟨wr.heap.size, 0, none⟩ = some (.int .i64 op) ∧ W.cell? ⟨wr.heap.size, 1, none⟩ = some (.slice Ak nk ck)) := fun W hW => by
          have h1 := hW.block wr.heap.size (by simp) (by intro e; injection e with e; omega)
          have h2 := h1.trans (heap_new wr (.cells #[.int .i64 op, .slice Ak nk ck] 72))
          exact ⟨cell_of_row W _ 0 _ _ _ h2, cell_of_row W _ 1 _ _ _ h2⟩
        have HTP : Hid (T'.even ∧ Asc T'.list ∧ T'.size ≤ 60) := ⟨hR.out.even, hR.out.asc, hR.out.sz⟩
        clear hc c0w c1w hk3 hop hkey hbn hkk hR hBW
        by_cases hbk : 100 < nk
        · have hbz : (100 : Int) < (nk : Int) := by omega
          go_wp2_with fail
          refine (awake15_any _).mono ?_
          rintro e w5 ⟨rfl, hb5⟩
          have HB5 := Lib.hid (HB3.out w5 (HCM.out.below hb5).kept)
          clear hb5
          go_wp2_with fail
          go_ret
          exact ⟨rfl, HB5.out⟩
        have hsk : ¬ (100 : Int) < (nk : Int) := by omega
        have HKI : Hid (∀ W, Kept (some g) w3 W → BIn (fun _ => True) W (.slice Ak nk ck) key) := fun W hW => (HKK.out.below (HB3.out W hW)).fine (by have := HKL.out; omega)
        clear hbk hgl
        go_upto_block 2 with fail
        clear c0 c1
        generalize wr.heap.size = mb at *
        generalize wr.alloc (.cells #[.int .i64 op, .slice Ak nk ck] 72) = X at *
        go_cut [10] (fun kv V => ∃ k' : Nat, kv = .int .i64 (k' : Int) ∧ k' ≤ T.list.length ∧ Hid (CI w3 V g u T k' ∧ Kept (some g) X V))
        case first =>
          by_cases h1 : op = 1
          · subst h1
            by_cases hkl : k < T.list.length
            · have HN := Lib.hid (next_yes HCM.out hkl)
              have hmn : ¬ ((T.list.length : Int) < (k : Int) + 1) := by omega
              go_wp2_with fail
              refine HN.out.mono ?_
              rintro e w5 ⟨A1, n1, c1, A2, n2, c2, rfl, h5⟩
              have hbn : Below w5.heap.size w5 (w5.alloc (.cells #[.slice A1 n1 c1, .slice A2 n2 c2] 40)) := (Below.refl _ _).alloc (Nat.le_refl _) _
              have HC5 := Lib.hid (h5.out.2.2.below hbn)
              have HK5 : Hid (Kept (some g) X (w5.alloc (.cells #[.slice A1 n1 c1, .slice A2 n2 c2] 40))) := h5.out.2.1.trans (Kept.of hbn)
              have HAT := Lib.hid (at45_yes T.list A' c' A1 A2 n1 c1 n2 c2 (k : Int) k rfl (w5.alloc (.cells #[.slice A1 n1 c1, .slice A2 n2 c2] 40)) (HM3.out _ HC5.out.kept) (by omega) hkl (PIn.below h5.out.1 hbn))
              clear h5 hbn HN
              go_wp2_with fail
              refine HAT.out.mono ?_
              rintro e w6 ⟨rfl, hb6⟩
              have HC6 : Hid (CI w3 w6 g u T (k + 1) ∧ Kept (some g) X w6) := ⟨HC5.out.below hb6, HK5.out.trans (Kept.of hb6)⟩
              clear hb6 HAT
              go_wp2_with fail
              go_meet
              exact ⟨k + 1, by go_num, by omega, HC6⟩
            · have HN := Lib.hid (next_no HCM.out hkl)
              have hmn : (T.list.length : Int) < (k : Int) + 1 := by omega
              have hkz : Hid (k = T.list.length) := (by omega : k = T.list.length)
              go_wp2_with fail
              refine HN.out.mono ?_
              rintro e w5 ⟨A1, n1, c1, A2, n2, c2, rfl, h5⟩
              have hbn : Below w5.heap.size w5 (w5.alloc (.cells #[.slice A1 n1 c1, .slice A2 n2 c2] 40)) := (Below.refl _ _).alloc (Nat.le_refl _) _
              have HC5 := Lib.hid (h5.out.2.2.below hbn)
              have HK5 : Hid (Kept (some g) X (w5.alloc (.cells #[.slice A1 n1 c1, .slice A2 n2 c2] 40))) := h5.out.2.1.trans (Kept.of hbn)
              have HAT := Lib.hid (at45_no T.list A' c' A1 A2 n1 c1 n2 c2 (k : Int) (w5.alloc (.cells #[.slice A1 n1 c1, .slice A2 n2 c2] 40)) (HM3.out _ HC5.out.kept) (by omega) (by omega) (PIn.below h5.out.1 hbn))
              clear h5 hbn HN
              go_wp2_with fail
              refine HAT.out.mono ?_
              rintro e w6 ⟨rfl, hb6⟩
              have HC6 : Hid (CI w3 w6 g u T T.list.length ∧ Kept (some g) X w6) := by
                have h1 := HC5.out.below hb6
                rw [hkz.out] at h1
                exact And.intro h1 (HK5.out.trans (Kept.of hb6))
              clear hb6 HAT
              go_wp2_with fail
              go_meet
              exact ⟨T.list.length, rfl, by omega, HC6⟩
          · have h1b : (op == 1) = false := by simpa using h1
            by_cases h2 : op = 2
            · subst h2
              clear h1
              have hw1 : IntKind.i64.wrap ((k : Int) - 1) = (k : Int) - 1 := wsm _ (by omega)
              by_cases hkl : 0 < k
              · have HN := Lib.hid (back_yes HCM.out hkl)
                have hmn : ¬ ((k : Int) - 1 < 0) := by omega
                go_wp2_with fail
                refine HN.out.mono ?_
                rintro e w5 ⟨A1, n1, c1, A2, n2, c2, rfl, h5⟩
                have hbn : Below w5.heap.size w5 (w5.alloc (.cells #[.slice A1 n1 c1, .slice A2 n2 c2] 40)) := (Below.refl _ _).alloc (Nat.le_refl _) _
                have HC5 := Lib.hid (h5.out.2.2.below hbn)
                have HK5 : Hid (Kept (some g) X (w5.alloc (.cells #[.slice A1 n1 c1, .slice A2 n2 c2] 40))) := h5.out.2.1.trans (Kept.of hbn)
                have HAT := Lib.hid (at45_yes T.list A' c' A1 A2 n1 c1 n2 c2 ((k : Int) - 1) (k - 1) (by omega) (w5.alloc (.cells #[.slice A1 n1 c1, .slice A2 n2 c2] 40)) (HM3.out _ HC5.out.kept) (by omega) (by omega) (PIn.below h5.out.1 hbn))
                clear h5 hbn HN
                go_wp2_with fail
                refine HAT.out.mono ?_
                rintro e w6 ⟨rfl, hb6⟩
                have HC6 : Hid (CI w3 w6 g u T (k - 1) ∧ Kept (some g) X w6) := ⟨HC5.out.below hb6, HK5.out.trans (Kept.of hb6)⟩
                have hkc : Hid (((k - 1 : Nat) : Int) = (k : Int) - 1) := (by omega : ((k - 1 : Nat) : Int) = (k : Int) - 1)
                clear hb6 HAT
                go_wp2_with fail
                go_meet
                exact ⟨k - 1, by rw [hkc.out], by omega, HC6⟩
              · have HN := Lib.hid (back_no HCM.out hkl)
                have hmn : (k : Int) - 1 < 0 := by omega
                have hkz : Hid (k = 0) := (by omega : k = 0)
                go_wp2_with fail
                refine HN.out.mono ?_
                rintro e w5 ⟨A1, n1, c1, A2, n2, c2, rfl, h5⟩
                have hbn : Below w5.heap.size w5 (w5.alloc (.cells #[.slice A1 n1 c1, .slice A2 n2 c2] 40)) := (Below.refl _ _).alloc (Nat.le_refl _) _
                have HC5 := Lib.hid (h5.out.2.2.below hbn)
                have HK5 : Hid (Kept (some g) X (w5.alloc (.cells #[.slice A1 n1 c1, .slice A2 n2 c2] 40))) := h5.out.2.1.trans (Kept.of hbn)
                have HAT := Lib.hid (at45_no T.list A' c' A1 A2 n1 c1 n2 c2 ((k : Int) - 1) (w5.alloc (.cells #[.slice A1 n1 c1, .slice A2 n2 c2] 40)) (HM3.out _ HC5.out.kept) (by omega) (by omega) (PIn.below h5.out.1 hbn))
                clear h5 hbn HN
                go_wp2_with fail
                refine HAT.out.mono ?_
                rintro e w6 ⟨rfl, hb6⟩
                have HC6 : Hid (CI w3 w6 g u T 0 ∧ Kept (some g) X w6) := by
                  have h1 := HC5.out.below hb6
                  rw [hkz.out] at h1
                  exact And.intro h1 (HK5.out.trans (Kept.of hb6))
                clear hb6 HAT
                go_wp2_with fail
                go_meet
                exact ⟨0, rfl, by omega, HC6⟩
            · have h2b : (op == 2) = false := by simpa using h2
              by_cases h3 : op = 3
              · subst h3
                clear h1 h2
                obtain ⟨b0, b1⟩ := HBX.out X (Kept.refl _ _)
                have HSE := Lib.hid (seek_ci (.slice Ak nk ck) key HCM.out (HKI.out X HCM.out.kept))
                have HBR := Lib.hid (below_rank T key HKY.out.2.1)
                rw [HBR.out] at HSE
                have hbl : belowM T.list key ≤ T.list.length := List.countP_le_length
                generalize hbm : belowM T.list key = p at *
                have HBM := Lib.hid hbm
                clear hbm HBR
                go_wp2_with fail
                refine HSE.out.mono ?_
                rintro e w5 ⟨⟨vv, rfl⟩, hk5, hc5⟩
                have HC5 : Hid (CI w3 w5 g u T p ∧ Kept (some g) X w5) := ⟨hc5, hk5⟩
                clear b0 b1 hk5 hc5
                obtain ⟨b0, b1⟩ := HBX.out w5 HC5.out.2
                have hcv := conv_bytes (HKI.out w5 HC5.out.1.kept)
                have hmr := mrank_any T.list A' T.list.length c' (strO key) w5 (HM3.out w5 HC5.out.1.kept) (by omega) HKY.out.2.2
                rw [strL_strO, HBM.out] at hmr
                have HMR := Lib.hid hmr
                clear hmr
                go_wp2_with fail
                refine HMR.out.mono ?_
                rintro e w6 ⟨rfl, hb6⟩
                have HC6 : Hid (CI w3 w6 g u T p ∧ Kept (some g) X w6) := ⟨HC5.out.1.below hb6, HC5.out.2.trans (Kept.of hb6)⟩
                clear hb6 hcv b0 b1
                go_wp2_with fail
                go_meet
                exact ⟨p, rfl, hbl, HC6⟩
              · have h3b : (op == 3) = false := by simpa using h3
                clear h1 h2 h3
                have HC6 : Hid (CI w3 X g u T k ∧ Kept (some g) X X) := ⟨HCM.out, Kept.refl _ _⟩
                go_wp2_with fail
                go_meet
                exact ⟨k, rfl, hk, HC6⟩
        case rest =>
          obtain ⟨k', rfl, hk', hC⟩ := hcut
          obtain ⟨b0, b1⟩ := HBX.out wc hC.out.2
          have HTW := Lib.hid (HTM.out.kept hC.out.2 (fun b hb e => by injection e with e; exact hb e.symm))
          have hdl := Delete_any (S := fun b => b ≠ g) (S' := fun _ => True) none (by simp) (by simp) key T' (.pointer u') (.slice Ak nk ck) 0 0 wc HTW.out (HKI.out wc hC.out.1.kept) (fun b e => by cases e) HTP.out.1 (by have := HTP.out.2.2; omega) (by have := T'.height_le; have := HTP.out.2.2; omega) (by have := T'.height_le; have := HTP.out.2.2; omega)
          rw [(del_plain T' key HTP.out.2.1).1] at hdl
          have HDL := Lib.hid hdl
          have HMN : Hid (mV none = .pointer none) := rfl
          rw [HMN.out] at HDL
          have hgl : g < wc.heap.size := hC.out.1.cur.lt
          have HGL := Lib.hid hgl
          clear hdl HTM HTW hgl
          go_wp2_with fail
          refine HDL.out.mono ?_
          rintro e w6 ⟨u6, T6, vi, co, rfl, t1, t2, t3, t4⟩
          have HR6 : Hid (Round w3 w6 g u T k' u6 T6) := ⟨hC.out.1.below t4.kept.to, t3.imp (fun b _ hb => by
              rcases hb with hb | hb
              · exact hb
              · have := HGL.out; omega), t2, by rw [t1]; exact without_asc _ _ HTP.out.2.1, by
              have h1 := PT.size_of t1
              have h2 : (withoutM T'.list key).length ≤ T'.list.length := List.length_filter_le _ _
              rw [PT.size_list] at h2
              have := HTP.out.2.2
              omega⟩
          have HPL := Lib.hid (place_any w6 g (.pointer u) (k' : Int) HR6.out.ci.cur)
          have HLF := Lib.hid (wleft_any HR6.out.ci)
          have hw1 : IntKind.i64.wrap ((T.list.length : Int) - (k' : Int)) = (T.list.length : Int) - (k' : Int) := wsm _ (by omega)
          clear t1 t2 t3 t4 b0 b1 HDL
          go_wp2_with fail
          refine HPL.out.mono ?_
          rintro e w7 ⟨rfl, rfl⟩
          go_wp2_with fail
          refine HLF.out.mono ?_
          rintro e w7 ⟨rfl, hb7⟩
          have HR7 : Hid (Round w3 w7 g u T k' u6 T6) := ⟨HR6.out.ci.below hb7, HR6.out.tin.below hb7, HR6.out.even, HR6.out.asc, HR6.out.sz⟩
          clear hb7
          go_wp2_with fail
          clear hw1
          go_roundw
          case rel => exact ⟨j + 1, k', u6, T6, by go_num, by omega, rfl, hk', rfl, HR7⟩
          case measure => simp [intOf]; omega
      · obtain rfl : j = m := by omega
        go_wp2_with fail
        refine (awake15_any _).mono ?_
        rintro e w5 ⟨rfl, hb5⟩
        have HB5 := Lib.hid (HB3.out w5 (hR.out.ci.below hb5).kept)
        clear hb5
        go_wp2_with fail
        go_ret
        exact ⟨rfl, HB5.out⟩

end Go.Proofs.Ytnfhbljhohjkhaa
