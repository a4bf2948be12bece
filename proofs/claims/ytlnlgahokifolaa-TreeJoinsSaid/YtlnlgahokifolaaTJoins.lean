/- The law TreeJoins. -/
import Derived.Test.YtlnlgahokifolaaTFromLaw
set_option linter.unusedVariables false
set_option linter.unusedSimpArgs false
namespace Go.Proofs.Ytlnlgahokifolaa
open Go.RowKit

/-- A list's head and what is behind it, as slices. -/
theorem slice_head (A : Option Addr) (n c k : Nat) (kz : Int) (hk : kz = (k : Int)) (hkn : k ≤ n) (hnc : n ≤ c) (hA : (A = none ∧ c = 0) ∨ ∃ g, A = some ⟨g, 0, none⟩) :
    ∀ W, Sem.run Try.prog (Instr.sliceAt 33 (.slice A n c) none (some (.int .i64 kz)) none) W = .ok (.slice A k c) W := by
  subst hk
  have al : (0 : Int) ≤ (k : Int) := by omega
  have al2 : (k : Int) ≤ (c : Int) := by omega
  intro W
  rcases hA with ⟨rfl, rfl⟩ | ⟨g, rfl⟩
  · obtain rfl : k = 0 := by omega
    go_simp
  · go_simp
theorem slice_tail (M : Pairs) (A : Option Addr) (c k : Nat) (kz : Int) (hk : kz = (k : Int)) (hkn : k ≤ M.length) (hnc : M.length ≤ c) (hA : (A = none ∧ c = 0) ∨ ∃ g, A = some ⟨g, 0, none⟩) :
    ∃ AR cR, (∀ W, Sem.run Try.prog (Instr.sliceAt 33 (.slice A M.length c) (some (.int .i64 kz)) none none) W = .ok (.slice AR (M.length - k) cR) W) ∧ M.length - k ≤ cR ∧
      ∀ (S : Nat → Prop) (W : World), LIn S W A M.length M → LIn S W AR (M.length - k) (M.drop k) := by
  subst hk
  have al : (0 : Int) ≤ (k : Int) := by omega
  have al2 : (k : Int) ≤ (M.length : Int) := by omega
  rcases hA with ⟨rfl, rfl⟩ | ⟨g, rfl⟩
  · obtain rfl : k = 0 := by omega
    have hl : M.length = 0 := by omega
    refine ⟨none, 0, fun W => ?_, by omega, fun S W h => by simpa using h⟩
    rw [hl]
    go_simp
  · refine ⟨if c = k then some ⟨g, 0, none⟩ else some ⟨g, 0 + k * 2, none⟩, c - k, fun W => ?_, by omega, fun S W h => h.drop hkn _ fun h2 => by rw [if_neg (by omega)]⟩
    go_simp

set_option maxRecDepth 100000 in
set_option maxHeartbeats 3200000 in
theorem treeJoins_any (A : Option Addr) (n c : Nat) (L : Pairs) (z : Int) (w : World) (h : PRaw w A n L) (hc : n ≤ c) (hz : 0 ≤ z ∧ z ≤ 255) :
    Calls Try.prog 7 #[.slice A n c, .int .u8 z] w fun e w' => e = .returned (.bool true) ∧ Below w.heap.size w w' := by
  obtain ⟨zn, rfl⟩ : ∃ zn : Nat, z = (zn : Int) := ⟨z.toNat, by omega⟩
  have hz2 : (0 : Int) ≤ (zn : Int) := hz.1
  have hz3 : (zn : Int) ≤ 255 := hz.2
  clear hz
  have HO := Lib.hid h
  have HF := Lib.hid (small_any A n c L 150 w h (by omega))
  clear h
  go_enter Try.func7, Try.ntmps7
  go_wp2_with fail
  refine HF.out.mono ?_
  rintro e w1 ⟨r, rfl, hr, hb1⟩
  have HB1 := Lib.hid hb1
  clear hb1
  cases r with
  | false =>
    clear hr
    go_wp2_with fail
    refine (awake_any w1).mono ?_
    rintro e w2 ⟨rfl, hb2⟩
    have HB2 : Hid (Below w.heap.size w w2) := HB1.out.trans (hb2.mono HB1.out.size)
    clear hb2
    go_wp2_with fail
    go_ret
    exact ⟨rfl, HB2.out⟩
  | true =>
    have HFI := Lib.hid (hr rfl)
    have hn80 : n ≤ 150 := by have := (hr rfl).1; rw [HO.out.len] at this; exact this
    clear hr
    have HC := Lib.hid (Come_any L A n c w1 ((HO.out.fine HFI.out).below HB1.out) (by omega) hc)
    go_wp2_with fail
    refine HC.out.mono ?_
    rintro e w2 hcame
    obtain ⟨A2, c2, M, rfl, hM⟩ := hcame.parts HO.out.len
    have HB2 : Hid (Below w.heap.size w w2) := HB1.out.trans (hM.out.2.2.2.2.2.1.mono HB1.out.size)
    have hml : M.length ≤ 150 := by have := hM.out.2.2.2.1; omega
    have HL2 : Hid (∀ W, Below w2.heap.size w2 W → LIn (New w1.heap.size) W A2 M.length M) := fun W hW => hM.out.2.1.below hW
    obtain ⟨k, hk⟩ : ∃ k, zn % (M.length + 1) = k := ⟨_, rfl⟩
    have hkl : k ≤ M.length := by have := Nat.mod_lt zn (show 0 < M.length + 1 by omega); omega
    have hkz : ((zn : Int)).tmod ((M.length : Int) + 1) = (k : Int) := by
      rw [← hk]
      have : ((zn : Int)).tmod (((M.length + 1 : Nat)) : Int) = ((zn % (M.length + 1) : Nat) : Int) := rfl
      simpa using this
    have hne0 : ¬ (M.length : Int) + 1 = 0 := by omega
    have hs1 := slice_head A2 M.length c2 k (k : Int) rfl hkl hM.out.1 hM.out.2.2.2.2.2.2
    obtain ⟨AR, cR, hs2, hcR, hR0⟩ := slice_tail M A2 c2 k (k : Int) rfl hkl hM.out.1 hM.out.2.2.2.2.2.2
    have HR0 := Lib.hid hR0
    have HCR := Lib.hid hcR
    have HASC := Lib.hid hM.out.2.2.1
    have HMC := Lib.hid (And.intro hM.out.1 hM.out.2.2.2.2.2.2)
    clear hcame hk hR0 hcR hM
    go_upto_region 5 with fail
    have HF1 := Lib.hid (fun W (hW : Below w2.heap.size w2 W) => from_any k (M.take k) A2 c2 W ((HL2.out W hW).take hkl) (by have := HMC.out.1; omega) (by omega))
    have HF2 := Lib.hid (fun W (hW : Below w2.heap.size w2 W) => from_any (M.length - k) (M.drop k) AR cR W (HR0.out _ W (HL2.out W hW)) HCR.out (by omega))
    go_region_held3 (fun w' => True) (exact trivial)
      (first
        | (go_at_call_of 24 (Value.slice A2 k c2); (with_reducible refine (HF1.out _ (below_drew2 (Below.refl _ _))).mono ?_); rintro e w3 ⟨u1, T1, rfl, a1, a2, a3, a4⟩; obtain ⟨p1, rfl⟩ := a3.ptr; have B3 : Hid (Below w2.heap.size w2 w3) := below_drew1 a4; have I1 : Hid (T1.list = M.take k ∧ T1.even ∧ TIn (fun _ => True) w3 (.pointer p1) T1) := ⟨a1, a2, a3.imp (fun _ _ _ => trivial)⟩; clear a1 a2 a3 a4)
        | (go_at_call 24; (with_reducible refine (HF2.out _ B3.out).mono ?_); rintro e w4 ⟨u2, T2, rfl, a1, a2, a3, a4⟩; obtain ⟨p2, rfl⟩ := a3.ptr; have B4 : Hid (Below w2.heap.size w2 w4) := B3.out.trans (a4.mono B3.out.size); have I2 : Hid (TIn (fun _ => True) w4 (.pointer p1) T1 ∧ T2.list = M.drop k ∧ T2.even ∧ TIn (fun _ => True) w4 (.pointer p2) T2) := ⟨I1.out.2.2.below a4, a1, a2, a3.imp (fun _ _ _ => trivial)⟩; clear a1 a2 a3 a4))
    have hz1 : T1.size = k := by rw [PT.size_of I1.out.1, List.length_take]; omega
    have hz2' : T2.size = M.length - k := by rw [PT.size_of I2.out.2.1, List.length_drop]
    have HZ := Lib.hid (And.intro hz1 hz2')
    clear hz1 hz2' hs2 HF1 HF2
    -- the two joined
    have HP := Lib.hid (Pair_any (S := fun _ => True) none (by simp) T1 T2 (.pointer p1) (.pointer p2) 0 0 w4 I2.out.1 I2.out.2.2.2 (fun b e => by cases e) I1.out.2.1 I2.out.2.2.1 (by have := HZ.out; omega) (by have := HZ.out; have := T2.height_le; omega))
    have HMV : Hid (mV none = .pointer none) := rfl
    rw [HMV.out] at HP
    go_wp2_with fail
    refine HP.out.mono ?_
    rintro e w5 ⟨u5, T5, vi5, co5, rfl, a1, a2, a3, a4⟩
    have B5 : Hid (Below w2.heap.size w2 w5) := B4.out.trans (a4.kept.to.mono B4.out.size)
    have hl5 : T5.list = M := by rw [a1, I1.out.1, I2.out.2.1, List.take_append_drop]
    have I5 : Hid (T5.list = M ∧ T5.even ∧ TIn (fun _ => True) w5 (.pointer u5) T5 ∧ T5.size = M.length ∧ Asc T5.list ∧ TIn (fun _ => True) w5 (.pointer p1) T1 ∧ TIn (fun _ => True) w5 (.pointer p2) T2) :=
      ⟨hl5, a2, a3.imp (fun _ _ _ => trivial), PT.size_of hl5, by rw [hl5]; exact HASC.out, I2.out.1.below a4.kept.to, I2.out.2.2.2.below a4.kept.to⟩
    clear a1 a2 a3 a4 hl5 HP
    go_wp2_with fail
    refine (list_any T5 (.pointer u5) w5 I5.out.2.2.1 (by have := I5.out.2.2.2.1; omega)).mono ?_
    rintro e w6 ⟨A6, c6, rfl, hc6, hL6, hb6⟩
    have HS := Lib.hid (same_any T5.list M A6 A2 T5.size M.length c6 c2 w6 hL6 (HL2.out w6 (B5.out.trans (hb6.mono B5.out.size))) (by have := I5.out.2.2.2.1; omega) (by omega))
    have HDE : Hid (decide (T5.list = M) = true) := decide_eq_true I5.out.1
    rw [HDE.out] at HS
    have B6 : Hid (Below w5.heap.size w5 w6) := hb6
    clear hL6 hb6 hc6
    go_wp2_with fail
    refine HS.out.mono ?_
    rintro e w7 ⟨rfl, hb7⟩
    have B7 : Hid (Below w5.heap.size w5 w7) := B6.out.trans (hb7.mono B6.out.size)
    clear hb7 HS
    go_wp2_with fail
    refine (sound_any T5 (.pointer u5) w7 (I5.out.2.2.1.below B7.out) I5.out.2.1 I5.out.2.2.2.2.1 (by have := I5.out.2.2.2.1; omega)).mono ?_
    rintro e w8 ⟨rfl, hb8⟩
    have B8 : Hid (Below w2.heap.size w2 w8) := (B5.out.trans (B7.out.mono B5.out.size)).trans (hb8.mono (Nat.le_trans B5.out.size B7.out.size))
    have I8 : Hid (TIn (fun _ => True) w8 (.pointer p1) T1 ∧ TIn (fun _ => True) w8 (.pointer p2) T2) := ⟨(I5.out.2.2.2.2.2.1.below B7.out).below hb8, (I5.out.2.2.2.2.2.2.below B7.out).below hb8⟩
    clear hb8
    by_cases hkm : k < M.length
    · have hkm2 : (k : Int) < (M.length : Int) := by omega
      obtain ⟨b, o, hA2, hbl, hSb, hcell⟩ := (HL2.out w8 B8.out).cell (by omega)
      obtain ⟨kv, xv, ck, cx, hk1, hx1⟩ := hcell k hkm
      obtain ⟨Ak, nk, ckk, rfl⟩ := hk1.slice
      obtain ⟨Ax, nx, cxx, rfl⟩ := hx1.slice
      obtain ⟨AS, cS, hs3, hcS, hR3⟩ := slice_tail M A2 c2 (k + 1) ((k : Int) + 1) (by omega) (by omega) HMC.out.1 HMC.out.2
      subst hA2
      have HCK : Hid (∀ W, Below w8.heap.size w8 W → W.cell? ⟨b, o + k * 2, none⟩ = some (.slice Ak nk ckk) ∧ W.cell? ⟨b, o + k * 2 + 1, none⟩ = some (.slice Ax nx cxx)) := fun W hW => ⟨(cell_block (hW.block b hbl)).trans ck, (cell_block (hW.block b hbl)).trans cx⟩
      have HPK : Hid (∀ W, Below w8.heap.size w8 W → PIn (fun _ => True) W (.agg #[.slice Ak nk ckk, .slice Ax nx cxx]) (M.getD k ([], [])).1 (M.getD k ([], [])).2) := fun W hW => ⟨_, _, rfl, (hk1.below hW).imp (fun _ _ _ => trivial), (hx1.below hW).imp (fun _ _ _ => trivial)⟩
      have HF3 := Lib.hid (fun W (hW : Below w8.heap.size w8 W) => from_any (M.length - (k + 1)) (M.drop (k + 1)) AS cS W (hR3 _ W (HL2.out W (B8.out.trans (hW.mono B8.out.size)))) hcS (by omega))
      have HMID := Lib.hid (split_mid M k hkm)
      have al : (0 : Int) ≤ (k : Int) := by omega
      have wk : IntKind.i64.wrap ((k : Int) + 1) = (k : Int) + 1 := wsm _ (by omega)
      clear hcell hk1 hx1 hR3
      go_upto_region 10 with fail
      go_region_held3 (fun w' => w'.cell? ⟨b, o + k * 2, none⟩ = some (.slice Ak nk ckk) ∧ w'.cell? ⟨b, o + k * 2 + 1, none⟩ = some (.slice Ax nx cxx))
        (first | with_reducible exact HCK.out _ (below_drew2 (Below.refl _ _)) | with_reducible exact HCK.out _ B9.out | with_reducible exact HCK.out _ BA.out)
        (first
          | (go_at_call 24; (with_reducible refine (HF3.out _ (below_drew2 (Below.refl _ _))).mono ?_); rintro e w9 ⟨u9, T9, rfl, a1, a2, a3, a4⟩; obtain ⟨p9, rfl⟩ := a3.ptr; have B9 : Hid (Below w8.heap.size w8 w9) := below_drew1 a4; have I9 : Hid (T9.list = M.drop (k + 1) ∧ T9.even ∧ TIn (fun _ => True) w9 (.pointer p9) T9 ∧ TIn (fun _ => True) w9 (.pointer p1) T1 ∧ T9.size = M.length - (k + 1)) := ⟨a1, a2, a3.imp (fun _ _ _ => trivial), I8.out.1.below (below_drew1 a4), by rw [PT.size_of a1, List.length_drop]⟩; clear a1 a2 a3 a4)
          | (go_at_call 27; (with_reducible refine (Join_any T1 T9 (.pointer p1) _ (.pointer p9) _ _ _ I9.out.2.2.2.1 (HPK.out _ B9.out) I9.out.2.2.1 (by have h1 := HZ.out; have h2 := I9.out.2.2.2.2; omega) I1.out.2.1 I9.out.2.1).mono ?_); rintro e wA ⟨uA, TA, rfl, a1, a2, a3, a4⟩; have BA : Hid (Below w8.heap.size w8 wA) := B9.out.trans (a4.mono B9.out.size); have hlA : TA.list = M := (by rw [a1, I1.out.1, I9.out.1]; exact HMID.out); have IA : Hid (TA.list = M ∧ TA.even ∧ TIn (fun _ => True) wA (.pointer uA) TA ∧ TA.size = M.length ∧ Asc TA.list) := ⟨hlA, a2, a3.imp (fun _ _ _ => trivial), PT.size_of hlA, by rw [hlA]; exact HASC.out⟩; clear a1 a2 a3 a4 hlA))
      clear hs3 wk ck cx
      go_wp2_with fail
      refine (list_any TA (.pointer uA) wA IA.out.2.2.1 (by have := IA.out.2.2.2.1; omega)).mono ?_
      rintro e wB ⟨AB, cB, rfl, hcB, hLB, hbB⟩
      have HS := Lib.hid (same_any TA.list M AB (some ⟨b, o, none⟩) TA.size M.length cB c2 wB hLB (HL2.out wB ((B8.out.trans (BA.out.mono B8.out.size)).trans (hbB.mono (Nat.le_trans B8.out.size BA.out.size)))) (by have := IA.out.2.2.2.1; omega) (by omega))
      have HDE2 : Hid (decide (TA.list = M) = true) := decide_eq_true IA.out.1
      rw [HDE2.out] at HS
      have BB : Hid (Below wA.heap.size wA wB) := hbB
      clear hLB hbB hcB
      go_wp2_with fail
      refine HS.out.mono ?_
      rintro e wC ⟨rfl, hbC⟩
      have BC : Hid (Below wA.heap.size wA wC) := BB.out.trans (hbC.mono BB.out.size)
      clear hbC HS
      go_wp2_with fail
      refine (sound_any TA (.pointer uA) wC (IA.out.2.2.1.below BC.out) IA.out.2.1 IA.out.2.2.2.2 (by have := IA.out.2.2.2.1; omega)).mono ?_
      rintro e wD ⟨rfl, hbD⟩
      have BD : Hid (Below w8.heap.size w8 wD) := (BA.out.trans (BC.out.mono BA.out.size)).trans (hbD.mono (Nat.le_trans BA.out.size BC.out.size))
      clear hbD
      clear hs1
      have hs1 := slice_head (some ⟨b, o, none⟩) M.length c2 k (k : Int) rfl hkl HMC.out.1 HMC.out.2
      have HT13 : Hid (∀ W, Below wD.heap.size wD W → TIn (fun _ => True) W (.pointer p1) T1 ∧ TIn (fun _ => True) W (.pointer p2) T2 ∧ LIn (New w1.heap.size) W (some ⟨b, o, none⟩) M.length M) := fun W hW => ⟨(I8.out.1.below BD.out).below hW, (I8.out.2.below BD.out).below hW, HL2.out W ((B8.out.trans (BD.out.mono B8.out.size)).trans (hW.mono (Nat.le_trans B8.out.size BD.out.size)))⟩
      obtain ⟨AR2, cR2, hs4, hcR4, hR4⟩ := slice_tail M (some ⟨b, o, none⟩) c2 k (k : Int) rfl hkl HMC.out.1 HMC.out.2
      have HR4 := Lib.hid hR4
      have HDA : Hid (decide (T1.list = M.take k) = true) := decide_eq_true I1.out.1
      have HDB : Hid (decide (T2.list = M.drop k) = true) := decide_eq_true I2.out.2.1
      clear hR4 hcR4
      go_upto_region 13 with fail
      go_region_held3 (fun w' => True) (exact trivial)
        (first
          | (go_at_call_of 17 (Value.pointer p1); (with_reducible refine (list_any T1 (.pointer p1) _ (HT13.out _ (below_drew2 (Below.refl _ _))).1 (by have := HZ.out; omega)).mono ?_); rintro e wE ⟨AE, cE, rfl, hcE, hLE, hbE⟩; have BE : Hid (Below wD.heap.size wD wE) := below_drew1 hbE; have CE := (same_any T1.list (M.take k) AE (some ⟨b, o, none⟩) T1.size k cE c2 wE hLE ((HT13.out _ BE.out).2.2.take hkl) (by have := HZ.out; omega) (by omega)); rw [HDA.out] at CE; have HCE := Lib.hid CE; clear CE hLE hbE hcE)
          | (go_at_call 26; (with_reducible refine HCE.out.mono ?_); rintro e wF ⟨rfl, hbF⟩; have BF : Hid (Below wD.heap.size wD wF) := BE.out.trans (hbF.mono BE.out.size); clear hbF)
          | (go_at_call_of 17 (Value.pointer p2); (with_reducible refine (list_any T2 (.pointer p2) _ (HT13.out _ BF.out).2.1 (by have := HZ.out; omega)).mono ?_); rintro e wG ⟨AG, cG, rfl, hcG, hLG, hbG⟩; have BG : Hid (Below wD.heap.size wD wG) := BF.out.trans (hbG.mono BF.out.size); have CG := (same_any T2.list (M.drop k) AG AR2 T2.size (M.length - k) cG cR2 wG hLG (HR4.out _ _ (HT13.out _ BG.out).2.2) (by have := HZ.out; omega) (by omega)); rw [HDB.out] at CG; have HCG := Lib.hid CG; clear CG hLG hbG hcG)
          | (go_at_call 26; (with_reducible refine HCG.out.mono ?_); rintro e wH ⟨rfl, hbH⟩; have BH : Hid (Below wD.heap.size wD wH) := BG.out.trans (hbH.mono BG.out.size); clear hbH)
          | (go_at_call 14; (with_reducible refine (awake_any _).mono ?_); rintro e wI ⟨rfl, hbI⟩; have BI : Hid (Below w.heap.size w wI) := (by
              have h1 := B8.out.trans (BD.out.mono B8.out.size)
              have h2 := h1.trans (BH.out.mono h1.size)
              have h3 := h2.trans (hbI.mono h2.size)
              exact HB2.out.trans (h3.mono HB2.out.size)); clear hbI))
      go_wp2_with fail
      go_ret
      exact ⟨rfl, BI.out⟩
    · have hkm2 : ¬ (k : Int) < (M.length : Int) := by omega
      have BD : Hid (Below w8.heap.size w8 w8) := Below.refl _ _
      have HT13 : Hid (∀ W, Below w8.heap.size w8 W → TIn (fun _ => True) W (.pointer p1) T1 ∧ TIn (fun _ => True) W (.pointer p2) T2 ∧ LIn (New w1.heap.size) W A2 M.length M) := fun W hW => ⟨(I8.out.1.below BD.out).below hW, (I8.out.2.below BD.out).below hW, HL2.out W ((B8.out.trans (BD.out.mono B8.out.size)).trans (hW.mono (Nat.le_trans B8.out.size BD.out.size)))⟩
      obtain ⟨AR2, cR2, hs4, hcR4, hR4⟩ := slice_tail M A2 c2 k (k : Int) rfl hkl HMC.out.1 HMC.out.2
      have HR4 := Lib.hid hR4
      have HDA : Hid (decide (T1.list = M.take k) = true) := decide_eq_true I1.out.1
      have HDB : Hid (decide (T2.list = M.drop k) = true) := decide_eq_true I2.out.2.1
      clear hR4 hcR4
      go_upto_region 13 with fail
      go_region_held3 (fun w' => True) (exact trivial)
        (first
          | (go_at_call_of 17 (Value.pointer p1); (with_reducible refine (list_any T1 (.pointer p1) _ (HT13.out _ (below_drew2 (Below.refl _ _))).1 (by have := HZ.out; omega)).mono ?_); rintro e wE ⟨AE, cE, rfl, hcE, hLE, hbE⟩; have BE : Hid (Below w8.heap.size w8 wE) := below_drew1 hbE; have CE := (same_any T1.list (M.take k) AE A2 T1.size k cE c2 wE hLE ((HT13.out _ BE.out).2.2.take hkl) (by have := HZ.out; omega) (by omega)); rw [HDA.out] at CE; have HCE := Lib.hid CE; clear CE hLE hbE hcE)
          | (go_at_call 26; (with_reducible refine HCE.out.mono ?_); rintro e wF ⟨rfl, hbF⟩; have BF : Hid (Below w8.heap.size w8 wF) := BE.out.trans (hbF.mono BE.out.size); clear hbF)
          | (go_at_call_of 17 (Value.pointer p2); (with_reducible refine (list_any T2 (.pointer p2) _ (HT13.out _ BF.out).2.1 (by have := HZ.out; omega)).mono ?_); rintro e wG ⟨AG, cG, rfl, hcG, hLG, hbG⟩; have BG : Hid (Below w8.heap.size w8 wG) := BF.out.trans (hbG.mono BF.out.size); have CG := (same_any T2.list (M.drop k) AG AR2 T2.size (M.length - k) cG cR2 wG hLG (HR4.out _ _ (HT13.out _ BG.out).2.2) (by have := HZ.out; omega) (by omega)); rw [HDB.out] at CG; have HCG := Lib.hid CG; clear CG hLG hbG hcG)
          | (go_at_call 26; (with_reducible refine HCG.out.mono ?_); rintro e wH ⟨rfl, hbH⟩; have BH : Hid (Below w8.heap.size w8 wH) := BG.out.trans (hbH.mono BG.out.size); clear hbH)
          | (go_at_call 14; (with_reducible refine (awake_any _).mono ?_); rintro e wI ⟨rfl, hbI⟩; have BI : Hid (Below w.heap.size w wI) := (by
              have h1 := B8.out.trans (BD.out.mono B8.out.size)
              have h2 := h1.trans (BH.out.mono h1.size)
              have h3 := h2.trans (hbI.mono h2.size)
              exact HB2.out.trans (h3.mono HB2.out.size)); clear hbI))
      go_wp2_with fail
      go_ret
      exact ⟨rfl, BI.out⟩

end Go.Proofs.Ytlnlgahokifolaa
