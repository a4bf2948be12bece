/- The law PairOwn. -/
import Derived.Test.YtocideolihbnaaaCOwnW
import Derived.Test.YtocideolihbnaaaCAwake
set_option linter.unusedVariables false
set_option linter.unusedSimpArgs false
namespace Go.Proofs.Ytocideolihbnaaa
open Go.RowKit Go.Deep

theorem MIn.wr {S : Nat → Prop} {H : Nat} {W W' : World} {A : Option Addr} {n : Nat} {M : Pairs} (h : MIn S W A n M) (hw : Wr H W W') : MIn S W' A n M :=
  ⟨h.len, fun hn => by
    obtain ⟨b, o, e, hlt, hSb, hc⟩ := h.cell hn
    exact ⟨b, o, e, Nat.lt_of_lt_of_le hlt hw.size, hSb, fun j hj => ⟨hw.keep _ _ (hc j hj).1 (fun x e => by cases e), hw.keep _ _ (hc j hj).2 (fun x e => by cases e)⟩⟩⟩
theorem two_rows {H : Nat} {W : World} {A B : Option Addr} {n m c d : Nat} (hA : PW H W A n) (hB : PW H W B m) (k : Nat) (hk : k < 2) :
    ∃ A' n' c', (n' = n ∨ n' = m) ∧ PW H W A' n' ∧ ∀ w, (Instr.index 31 (.agg #[.slice A n c, .slice B m d]) (.int .i64 (k : Int))).run Try.prog w = .ok (.slice A' n' c') w := by
  rcases Nat.lt_succ_iff_lt_or_eq.1 hk with h | h
  · obtain rfl : k = 0 := by omega
    refine ⟨A, n, c, .inl rfl, hA, fun w => ?_⟩
    have u31 := Try.underlying31
    unfold Instr.index
    go_simp
  · subst h
    refine ⟨B, m, d, .inr rfl, hB, fun w => ?_⟩
    have u31 := Try.underlying31
    unfold Instr.index
    go_simp

set_option maxRecDepth 100000 in
set_option maxHeartbeats 1600000 in
theorem pairOwn_any (A : Option Addr) (n c : Nat) (L : Pairs) (A' : Option Addr) (n' c' : Nat) (M : Pairs) (w : World) (h : PRaw w A n L) (hc : n ≤ c) (h' : PRaw w A' n' M) (hc' : n' ≤ c') :
    Calls Try.prog 4 #[.slice A n c, .slice A' n' c'] w fun e w' => e = .returned (.bool true) ∧ Below w.heap.size w w' := by
  have HO := Lib.hid h
  have HO' := Lib.hid h'
  have HF := Lib.hid (small_any A n c L 30 w h (by omega))
  clear h h'
  go_enter Try.func4, Try.ntmps4
  go_wp2_with fail
  refine HF.out.mono ?_
  rintro e w0 ⟨r, rfl, hr, hb0⟩
  have HB0 := Lib.hid hb0
  clear hb0
  cases r with
  | false =>
    clear hr
    go_wp2_with fail
    refine (awake_any w0).mono ?_
    rintro e w2 ⟨rfl, hb2⟩
    have HB2 : Hid (Below w.heap.size w w2) := HB0.out.trans (hb2.mono HB0.out.size)
    clear hb2
    go_wp2_with fail
    go_ret
    exact ⟨rfl, HB2.out⟩
  | true =>
    have HFI := Lib.hid (hr rfl)
    clear hr
    have HF' := Lib.hid (small_any A' n' c' M 30 w0 (HO'.out.below HB0.out) (by omega))
    go_wp2_with fail
    refine HF'.out.mono ?_
    rintro e w1 ⟨r, rfl, hr, hb1⟩
    have HB1 : Hid (Below w.heap.size w w1) := HB0.out.trans (hb1.mono HB0.out.size)
    clear hb1
    cases r with
    | false =>
      clear hr
      go_wp2_with fail
      refine (awake_any w1).mono ?_
      rintro e w2 ⟨rfl, hb2⟩
      have HB2 : Hid (Below w.heap.size w w2) := HB1.out.trans (hb2.mono HB1.out.size)
      clear hb2
      go_wp2_with fail
      go_ret
      exact ⟨rfl, HB2.out⟩
    | true =>
      have HFI' := Lib.hid (hr rfl)
      clear hr
      have hn30 : n ≤ 30 := by have := HFI.out.1; rw [HO.out.len] at this; exact this
      have hn30' : n' ≤ 30 := by have := HFI'.out.1; rw [HO'.out.len] at this; exact this
      have HLL : Hid (L.length = n ∧ M.length = n') := ⟨HO.out.len, HO'.out.len⟩
      have HA : Hid (LIn (fun _ => True) w A n L) := HO.out.fine HFI.out
      have HA' : Hid (LIn (fun _ => True) w A' n' M) := HO'.out.fine HFI'.out
      clear HF HF'
      -- the two maps of the reference
      have HP1 := Lib.hid (of_any L A n c w1 (HA.out.below HB1.out) (by omega))
      go_wp2_with fail
      refine HP1.out.mono ?_
      rintro e w2 hgot
      obtain ⟨X2, d2, rfl, g1, g2, g3⟩ := hgot
      rw [HLL.out.1] at g1 g2 ⊢
      have HB2 : Hid (Below w.heap.size w w2) := HB1.out.trans (g3.mono HB1.out.size)
      have HX2 : Hid (MIn (fun _ => True) w2 X2 n L) := g2.imp fun _ _ _ => trivial
      clear g1 g2 g3 HP1
      have HP1 := Lib.hid (of_any M A' n' c' w2 (HA'.out.below HB2.out) (by omega))
      go_wp2_with fail
      refine HP1.out.mono ?_
      rintro e w3 hgot
      obtain ⟨X3, d3, rfl, g1, g2, g3⟩ := hgot
      rw [HLL.out.2] at g1 g2 ⊢
      have HB3 : Hid (Below w.heap.size w w3) := HB2.out.trans (g3.mono HB2.out.size)
      have HX3 : Hid (MIn (fun _ => True) w3 X3 n' M) := g2.imp fun _ _ _ => trivial
      have HX2 : Hid (MIn (fun _ => True) w3 X2 n L) := HX2.out.below g3
      clear g1 g2 g3 HP1
      -- new memory
      have HP1 := Lib.hid (Own_nf L A n c w3 (HA.out.below HB3.out) (by omega) hc)
      go_wp2_with fail
      refine HP1.out.mono ?_
      rintro e w4 ⟨B4, c4, vs, rfl, hO, hb, hnf⟩
      have hrd := reads_own (S := New w.heap.size) hO.own hO.ps hO.len (fun b _ hb => Nat.le_trans HB3.out.size hb.1) (fun b hb => Nat.le_trans HB3.out.size hb)
      have HR4 : Hid (LIn (New w.heap.size) w4 B4 n L ∧ n ≤ c4 ∧ NfR w4 B4 n) := ⟨hrd.1, hrd.2, nfR_of hO.own hnf⟩
      have HB4 : Hid (Below w.heap.size w w4) := HB3.out.trans (hb.mono HB3.out.size)
      have HX3 : Hid (MIn (fun _ => True) w4 X3 n' M) := HX3.out.below hb
      have HX2 : Hid (MIn (fun _ => True) w4 X2 n L) := HX2.out.below hb
      clear hrd hO hb hnf HP1
      have HP1 := Lib.hid (is_any L L B4 X2 n n c4 d2 w4 HR4.out.1 HX2.out (by omega) (by omega))
      rw [decide_eq_true rfl] at HP1
      go_wp2_with fail
      refine HP1.out.mono ?_
      rintro e w5 ⟨rfl, hb⟩
      have HB5 : Hid (Below w.heap.size w w5 ∧ Below w4.heap.size w4 w5) := ⟨HB4.out.trans (hb.mono HB4.out.size), hb⟩
      clear hb HP1
      have HP1 := Lib.hid (same_any L L B4 A n n c4 c w5 (HR4.out.1.below HB5.out.2) (HA.out.below HB5.out.1) (by omega) (by omega))
      rw [decide_eq_true rfl] at HP1
      go_wp2_with fail
      refine HP1.out.mono ?_
      rintro e w6 ⟨rfl, hb⟩
      have HB6 : Hid (Below w.heap.size w w6 ∧ Below w4.heap.size w4 w6) := ⟨HB5.out.1.trans (hb.mono HB5.out.1.size), HB5.out.2.trans (hb.mono HB5.out.2.size)⟩
      clear hb HP1
      obtain ⟨d, hd⟩ : ∃ d, decide (L = M) = d := ⟨_, rfl⟩
      have HD := Lib.hid hd
      clear hd
      have HP1 := Lib.hid (same_any L M A A' n n' c c' w6 (HA.out.below HB6.out.1) (HA'.out.below HB6.out.1) (by omega) (by omega))
      rw [HD.out] at HP1
      go_wp2_with fail
      refine HP1.out.mono ?_
      rintro e w7 ⟨rfl, hb⟩
      have HB7 : Hid (Below w.heap.size w w7 ∧ Below w4.heap.size w4 w7) := ⟨HB6.out.1.trans (hb.mono HB6.out.1.size), HB6.out.2.trans (hb.mono HB6.out.2.size)⟩
      clear hb HP1
      have HP1 := Lib.hid (rsame_any L M X2 X3 n n' d2 d3 w7 (HX2.out.below HB7.out.2) (HX3.out.below HB7.out.2) (by omega) (by omega))
      rw [HD.out] at HP1
      go_wp2_with fail
      refine HP1.out.mono ?_
      rintro e w8 ⟨rfl, hb⟩
      have HB8 : Hid (Below w.heap.size w w8 ∧ Below w4.heap.size w4 w8) := ⟨HB7.out.1.trans (hb.mono HB7.out.1.size), HB7.out.2.trans (hb.mono HB7.out.2.size)⟩
      clear hb HP1
      have hdd : ∀ w, (binOp .neq 4 (.bool d) (.bool d)).run Try.prog w = .ok (.bool false) w := fun w => by cases d <;> go_simp
      have HP1 := Lib.hid (Come_nf L A n c w8 (HA.out.below HB8.out.1) (by omega) hc)
      go_wp2_with fail
      refine HP1.out.mono ?_
      rintro e w9 ⟨B9, c9, f, rfl, hq⟩
      obtain ⟨m, hm⟩ : ∃ m, (dd (sortL L f n) n).length = m := ⟨_, rfl⟩
      rw [hm] at hq ⊢
      have HQ := hq
      have HMM := Lib.hid hm
      clear hm hq
      have HPWS : Hid (PW w.heap.size w9 B4 n ∧ PW w.heap.size w9 B9 m ∧ MIn (fun _ => True) w9 X2 n L ∧ Below w.heap.size w w9) := by
        have h9 : Below w4.heap.size w4 w9 := HB8.out.2.trans (HQ.out.2.2.1.mono HB8.out.2.size)
        refine ⟨(PW.of HR4.out.1 HR4.out.2.2).wr (Wr.of_below HB4.out.size h9), PW.of (HQ.out.2.1.imp fun b _ hb => Nat.le_trans HB8.out.1.size hb) HQ.out.2.2.2, HX2.out.below h9, HB8.out.1.trans (HQ.out.2.2.1.mono HB8.out.1.size)⟩
      have hm30 : m ≤ 100000 := by have := dd_len (sortL L f n) n; have := HMM.out; omega
      clear HP1 HQ
      go_wp2_with fail
      go_loopw [54] (fun v wr => ∃ (k : Nat), v = .int .i64 (k : Int) ∧ k ≤ 2 ∧ Hid (Wr w.heap.size w9 wr)) (fun v _ => 2 - (intOf v).toNat)
      case atStart => exact ⟨0, by go_num, by omega, Lib.hid (Wr.refl _ _)⟩
      case round =>
        obtain ⟨k, rfl, hk, hI⟩ := hrel
        by_cases hlt : k < 2
        · obtain ⟨R, r, rc, hrr, hPW, hix⟩ := two_rows (c := c4) (d := c9) HPWS.out.1 HPWS.out.2.1 k hlt
          have HPW := Lib.hid hPW
          have hr5 : r ≤ 100000 := by omega
          have hlt' : (k : Int) < 2 := by omega
          clear hPW hrr
          go_wp2_with fail
          go_loopw [59] (fun v wr => ∃ (j : Nat), v = .int .i64 (j : Int) ∧ j ≤ r ∧ Hid (Wr w.heap.size w9 wr)) (fun v _ => r - (intOf v).toNat)
          case atStart => exact ⟨0, by go_num, by omega, hI⟩
          case round =>
            obtain ⟨j, rfl, hj, hJ⟩ := hrel
            by_cases hltj : j < r
            · obtain ⟨b, o, rfl, hcc⟩ := (HPW.out.wr hJ.out) (by omega)
              obtain ⟨kv, xv, c0, c1, hkv, hxv⟩ := hcc j hltj
              have HK := Lib.hid hkv
              have HX := Lib.hid hxv
              obtain ⟨Ak, nk, ck, rfl, hnk, _⟩ := hkv
              obtain ⟨Ax, nx, cx, rfl, hnx, _⟩ := hxv
              have al : (0 : Int) ≤ (j : Int) := by omega
              have al3 : (j : Int) < (r : Int) := by omega
              have HWX : Hid (Wr w.heap.size w9 (wr.alloc (.cells #[.slice Ak nk ck, .slice Ax nx cx] 34)) ∧ Wr w.heap.size wr (wr.alloc (.cells #[.slice Ak nk ck, .slice Ax nx cx] 34))) := by
                have hq : Wr w.heap.size wr (wr.alloc (.cells #[.slice Ak nk ck, .slice Ax nx cx] 34)) := Wr.of_below (Nat.le_trans HPWS.out.2.2.2.size hJ.out.size) ((Below.refl _ _).alloc (Nat.le_refl _) _)
                exact ⟨hJ.out.trans hq, hq⟩
              have HG : Hid ((wr.alloc (.cells #[.slice Ak nk ck, .slice Ax nx cx] 34)).cell? ⟨wr.heap.size, 0, none⟩ = some (.slice Ak nk ck) ∧ (wr.alloc (.cells #[.slice Ak nk ck, .slice Ax nx cx] 34)).cell? ⟨wr.heap.size, 1, none⟩ = some (.slice Ax nx cx)) :=
                ⟨by rw [World.cell?_alloc_new]; rfl, by rw [World.cell?_alloc_new]; rfl⟩
              clear hcc
              go_wp2_with fail
              obtain ⟨X, hXX⟩ : ∃ X, wr.alloc (.cells #[.slice Ak nk ck, .slice Ax nx cx] 34) = X := ⟨_, rfl⟩
              obtain ⟨g, hgg⟩ : ∃ g, wr.heap.size = g := ⟨_, rfl⟩
              rw [hXX] at HWX HG ⊢
              rw [hgg] at HG
              simp only [hgg]
              clear hXX hgg
              go_loopw [66] (fun v wx => ∃ (i : Nat), v = .int .i64 (i : Int) ∧ i ≤ nk ∧ Hid (Wr w.heap.size X wx)) (fun v _ => nk - (intOf v).toNat)
              case atStart => exact ⟨0, by go_num, by omega, Lib.hid (Wr.refl _ _)⟩
              case round =>
                obtain ⟨i, rfl, hi, hXk⟩ := hrel
                have d0 := hXk.out.keep _ _ HG.out.1 (fun x e => by cases e)
                have d1 := hXk.out.keep _ _ HG.out.2 (fun x e => by cases e)
                by_cases hlti : i < nk
                · obtain ⟨_, _, _, e, _, hsw⟩ := (HK.out.wr (HWX.out.2.trans hXk.out))
                  cases e
                  obtain ⟨b2, o2, rfl, hbH, hnf, hcl⟩ := hsw (by omega)
                  obtain ⟨x, hx⟩ := hcl i hlti
                  have hfz := hnf.free (o2 + i)
                  have HS := Lib.hid (fun y => hXk.out.trans (Wr.set (y := y) hx hbH))
                  have bl : (0 : Int) ≤ (i : Int) := by omega
                  have bl3 : (i : Int) < (nk : Int) := by omega
                  clear hcl hnf hsw
                  go_wp2_with fail
                  go_roundw
                  case rel => exact ⟨i + 1, by go_num, by omega, Lib.hid (HS.out _)⟩
                  case measure => simp [intOf]; omega
                · obtain rfl : i = nk := by omega
                  clear hlti
                  go_wp2_with fail
                  go_loopw [80] (fun v wx => ∃ (i : Nat), v = .int .i64 (i : Int) ∧ i ≤ nx ∧ Hid (Wr w.heap.size X wx)) (fun v _ => nx - (intOf v).toNat)
                  case atStart => exact ⟨0, by go_num, by omega, hXk⟩
                  case round =>
                    obtain ⟨i, rfl, hi, hXx⟩ := hrel
                    have d0 := hXx.out.keep _ _ HG.out.1 (fun x e => by cases e)
                    have d1 := hXx.out.keep _ _ HG.out.2 (fun x e => by cases e)
                    by_cases hlti : i < nx
                    · obtain ⟨_, _, _, e, _, hsw⟩ := (HX.out.wr (HWX.out.2.trans hXx.out))
                      cases e
                      obtain ⟨b2, o2, rfl, hbH, hnf, hcl⟩ := hsw (by omega)
                      obtain ⟨x, hx⟩ := hcl i hlti
                      have hfz := hnf.free (o2 + i)
                      have HS := Lib.hid (fun y => hXx.out.trans (Wr.set (y := y) hx hbH))
                      have bl : (0 : Int) ≤ (i : Int) := by omega
                      have bl3 : (i : Int) < (nx : Int) := by omega
                      clear hcl hnf hsw
                      go_wp2_with fail
                      go_roundw
                      case rel => exact ⟨i + 1, by go_num, by omega, Lib.hid (HS.out _)⟩
                      case measure => simp [intOf]; omega
                    · obtain rfl : i = nx := by omega
                      clear hlti
                      go_wp2_with fail
                      go_roundw
                      case rel => exact ⟨j + 1, by go_num, by omega, Lib.hid (HWX.out.1.trans hXx.out)⟩
                      case measure => simp [intOf]; omega
            · obtain rfl : j = r := by omega
              clear hltj
              go_wp2_with fail
              go_roundw
              case rel => exact ⟨k + 1, by go_num, by omega, hJ⟩
              case measure => simp [intOf]; omega
        · obtain rfl : k = 2 := by omega
          clear hlt
          have HP1 := Lib.hid (is_any L L A X2 n n c d2 wr (HA.out.below (HPWS.out.2.2.2.trans (hI.out.below.mono (Nat.le_refl _)))) (HPWS.out.2.2.1.wr hI.out) (by omega) (by omega))
          rw [decide_eq_true rfl] at HP1
          go_wp2_with fail
          refine HP1.out.mono ?_
          rintro e w10 ⟨rfl, hb⟩
          have HB10 : Hid (Below w.heap.size w w10) := (HPWS.out.2.2.2.trans hI.out.below).trans (hb.mono (HPWS.out.2.2.2.trans hI.out.below).size)
          clear hb HP1
          go_wp2_with fail
          refine (awake_any w10).mono ?_
          rintro e w11 ⟨rfl, hb⟩
          have HB11 : Hid (Below w.heap.size w w11) := HB10.out.trans (hb.mono HB10.out.size)
          clear hb
          go_wp2_with fail
          go_ret
          exact ⟨rfl, HB11.out⟩

end Go.Proofs.Ytocideolihbnaaa
