/- Texts put together: FFloor TRef12. -/
import Derived.Test.YtphjaebkcimklaaGreatDoorTRank3
/- rank.Floor. -/
set_option linter.unusedVariables false
set_option linter.unusedSimpArgs false
namespace Go.Proofs.YtphjaebkcimklaaGreatDoor
open Go.RowKit

theorem floor1_any {S S' : Nat → Prop} (g : Nat) (kv key : Value) (k key' : Bytes) (w : World) (hg : KBox w g key) (hk : BIn S w kv k) (hkey : BIn S' w key key') :
    Calls Tryz.prog 70 #[kv, .pointer (some ⟨g, 0, none⟩)] w fun e w' => e = .returned (.bool (decide (cmp k key' ≠ 1))) ∧ w = w' := by
  obtain ⟨A, n, c, rfl⟩ := hk.slice
  obtain ⟨A', n', c', rfl⟩ := hkey.slice
  have HC := Lib.hid (compare_any (.slice A n c) (.slice A' n' c') k key' w hk hkey)
  have c0 := hg.cell
  have HQ := cmp3 k key'
  clear hg hk hkey
  go_enter Tryz.func70, Tryz.ntmps70
  go_wp2_with fail
  refine HC.out.mono ?_
  rintro e w1 ⟨rfl, rfl⟩
  rcases HQ with h | h | h <;> rw [h] <;> (have h' : cmp k key' = _ := h; clear h; go_wp2_with fail; go_ret; exact ⟨by rw [h']; rfl, rfl⟩)

set_option maxRecDepth 100000 in
set_option maxHeartbeats 6400000 in
theorem below66_any {S : Nat → Prop} (g : Nat) (key : Value) (p : Bytes → Bool) (T : PT) (v : Value) (w : World) (hT : TIn S w v T) (hn : T.size ≤ 1000000)
    (hF : ∀ (W : World) (kv : Value) (k : Bytes), Below w.heap.size w W → BIn (fun _ => True) W kv k → Calls Tryz.prog 70 #[kv, .pointer (some ⟨g, 0, none⟩)] W fun e w' => e = .returned (.bool (p k)) ∧ W = w') :
    Calls Tryz.prog 69 #[v, .func (.func 70) #[] #[.pointer (some ⟨g, 0, none⟩)]] w fun e w' => e = .returned (.int .i64 (T.belowT p : Int)) ∧ Below w.heap.size w w' := by
  obtain ⟨tu, rfl⟩ := hT.ptr
  have HT := Lib.hid hT
  have HF := Lib.hid hF
  clear hT hF
  go_enter Tryz.func69, Tryz.ntmps69
  go_wp2_with fail
  go_loopg [0, 5] T.size (fun gk q m wr => ∃ (T' : PT) (k : Nat), T'.size = gk ∧ Hid (TIn S wr q T') ∧ m = .int .i64 (k : Int) ∧ k + T'.belowT p = T.belowT p ∧ k + T'.size ≤ T.size ∧ Hid (Below w.heap.size w wr))
  case atStart => exact ⟨T, 0, rfl, HT, rfl, by omega, by omega, Lib.hid (Below.refl _ _)⟩
  case round =>
    obtain ⟨T', k, hgk, hT', rfl, hb, hs, hB⟩ := hrel
    cases T' with
    | nil =>
      obtain rfl := (show _ = Value.pointer none from hT'.out)
      have hk : k = T.belowT p := by simpa [PT.belowT] using hb
      subst hk
      go_wp2_with fail
      go_ret
      exact ⟨rfl, hB.out⟩
    | node l ky x r =>
      obtain ⟨pu, hpu⟩ := hT'.out.ptr
      have hne : ∃ a, pu = some a := by obtain ⟨b', _, _, _, _, e, _⟩ := hT'.out; rw [hpu] at e; cases e; exact ⟨_, rfl⟩
      obtain ⟨pa, rfl⟩ := hne
      subst hpu
      have HRT := Lib.hid (root_any (.pointer (some pa)) (.node l ky x r) _ hT'.out)
      have hb1 : 1 ≤ (PT.node l ky x r).size := by simp only [PT.size]; omega
      go_wp2_with fail
      refine HRT.out.mono ?_
      rintro e w2 ⟨u, rfl, hu, hb2⟩
      obtain ⟨kv, xv, rfl, hkv, hxv⟩ := hu
      have HB2 : Hid (Below w.heap.size w w2) := hB.out.trans (hb2.mono hB.out.size)
      have HT2 : Hid (TIn S w2 (.pointer (some pa)) (.node l ky x r)) := hT'.out.below hb2
      have HCL := Lib.hid (HF.out w2 kv ky HB2.out (hkv.imp fun _ _ _ => trivial))
      obtain ⟨Ak, nk, ck, rfl⟩ := hkv.slice
      obtain ⟨Ax, nx, cx, rfl⟩ := hxv.slice
      have hfld := fun W => fld39 W Ak Ax nk nx ck cx
      have HL := Lib.hid (left_any (.node l ky x r) (.pointer (some pa)) w2 HT2.out)
      have HR := Lib.hid (right_any (.node l ky x r) (.pointer (some pa)) w2 HT2.out)
      clear hb2 hkv hxv
      cases hp : p ky
      · rw [hp] at HCL
        have hbb : k + l.belowT p = T.belowT p := by rw [PT.belowT, hp] at hb; simpa using hb
        have HP := Lib.hid hp
        have HBB := Lib.hid hbb
        have HGK := Lib.hid hgk
        have HS := Lib.hid hs
        clear hp hbb hb hgk
        go_wp2_with fail
        refine HCL.out.mono ?_
        rintro e w3 ⟨rfl, rfl⟩
        go_wp2_with fail
        refine HL.out.mono ?_
        rintro e w3 ⟨lu, rfl, hlu, rfl⟩
        have HLU := Lib.hid hlu
        clear hlu
        go_wp2_with fail
        go_roundg l.size
        case rel => exact ⟨l, k, rfl, HLU, rfl, HBB.out, by have := HS.out; simp only [PT.size] at this; omega, HB2⟩
        case measure => rw [← HGK.out]; simp only [PT.size]; omega
      · rw [hp] at HCL
        have hbb : k + (l.size + 1) + r.belowT p = T.belowT p := by rw [PT.belowT, hp] at hb; simp at hb; omega
        have HBB := Lib.hid hbb
        have HGK := Lib.hid hgk
        have hs2 : k + (l.size + 1 + r.size) ≤ T.size := hs
        clear hp hbb hb hgk hs
        go_wp2_with fail
        refine HCL.out.mono ?_
        rintro e w3 ⟨rfl, rfl⟩
        go_wp2_with fail
        refine HL.out.mono ?_
        rintro e w3 ⟨lu, rfl, hlu, rfl⟩
        have HLU := Lib.hid (tsize_any l lu w2 hlu)
        obtain ⟨lu', rfl⟩ := hlu.ptr
        clear hlu
        go_wp2_with fail
        refine HLU.out.mono ?_
        rintro e w3 ⟨rfl, rfl⟩
        go_wp2_with fail
        refine HR.out.mono ?_
        rintro e w3 ⟨ru, rfl, hru, rfl⟩
        have HRU := Lib.hid hru
        clear hru
        go_wp2_with fail
        go_roundg r.size
        case rel => exact ⟨r, k + (l.size + 1), rfl, HRU, by go_num, HBB.out, by omega, HB2⟩
        case measure => rw [← HGK.out]; simp only [PT.size]; omega

set_option maxHeartbeats 3200000 in
theorem floor_any {S S' : Nat → Prop} (T : PT) (v : Value) (kv : Value) (key : Bytes) (w : World) (hT : TIn S w v T) (hk : BIn S' w kv key) (hn : T.size ≤ 1000000) :
    Calls Tryz.prog 44 #[v, kv] w fun e w' => AtR w w' e T.list ((T.belowT (fun k => decide (cmp k key ≠ 1)) : Int) - 1) := by
  obtain ⟨tu, rfl⟩ := hT.ptr
  obtain ⟨A, n, c, rfl⟩ := hk.slice
  have hle := T.belowT_le (fun k => decide (cmp k key ≠ 1))
  obtain ⟨m, hm⟩ : ∃ m, T.belowT (fun k => decide (cmp k key ≠ 1)) = m := ⟨_, rfl⟩
  rw [hm] at hle
  rw [hm]
  have hw : (Lit.int .i64 ((m : Int) - 1)).wf = true := WalkArith.wf_i64 (by omega)
  have HW := Lib.hid hw
  clear hw
  have HT := Lib.hid (fun W (h : Below w.heap.size w W) => hT.below h)
  have hB0 := (Below.refl _ w).alloc (Nat.le_refl _) (.cells #[.slice A n c] 23)
  have hX0 : (w.alloc (.cells #[.slice A n c] 23)).heap.size = w.heap.size + 1 := by simp
  have hB := hB0.alloc hB0.size (.cells #[.slice none 0 0, .slice none 0 0] 60)
  have hX : ((w.alloc (.cells #[.slice A n c] 23)).alloc (.cells #[.slice none 0 0, .slice none 0 0] 60)).heap.size = w.heap.size + 1 + 1 := by simp
  have hkb : KBox ((w.alloc (.cells #[.slice A n c] 23)).alloc (.cells #[.slice none 0 0, .slice none 0 0] 60)) w.heap.size (.slice A n c) := heap_old _ (heap_new w _)
  have hbox : Two ((w.alloc (.cells #[.slice A n c] 23)).alloc (.cells #[.slice none 0 0, .slice none 0 0] 60)) (w.heap.size + 1) (.slice none 0 0) (.slice none 0 0) := by
    have := heap_new (w.alloc (.cells #[.slice A n c] 23)) (.cells #[.slice none 0 0, .slice none 0 0] 60)
    rw [hX0] at this
    exact this
  have HB := Lib.hid hB
  have HBX := Lib.hid hbox
  have HX := Lib.hid hX
  have hbl := (below66_any (S := S) w.heap.size (.slice A n c) (fun k => decide (cmp k key ≠ 1)) T (.pointer tu) ((w.alloc (.cells #[.slice A n c] 23)).alloc (.cells #[.slice none 0 0, .slice none 0 0] 60)) (hT.below hB) hn
    (fun W kv' k hW hk' => floor1_any w.heap.size kv' (.slice A n c) k key W (hkb.below hW (by omega)) hk' ((hk.below hB).below hW)))
  rw [hm] at hbl
  have HBL := Lib.hid hbl
  clear hB0 hX0 hkb hk hbl hm
  clear hT hbox hB hX
  go_enter Tryz.func44, Tryz.ntmps44
  go_wp2_with fail
  refine HBL.out.mono ?_
  rintro e w1 ⟨rfl, hb1⟩
  have HB1 : Hid (Below w.heap.size w w1) := HB.out.trans (hb1.mono HB.out.size)
  have HBX1 : Hid (Two w1 (w.heap.size + 1) (.slice none 0 0) (.slice none 0 0)) := HBX.out.below hb1 (by have := HX.out; omega)
  have HS1 : Hid (w.heap.size + 1 < w1.heap.size) := (by have h1 := HX.out; have h2 := hb1.size; omega : w.heap.size + 1 < w1.heap.size)
  clear hb1 HBX HB HX
  go_wp2_with fail
  refine (at_any T (.pointer tu) ((m : Int) - 1) w1 (HT.out _ HB1.out) hn HW.out).mono ?_
  rintro e w2 hr
  obtain ⟨A1, n1, c1, A2, n2, c2, ok, rfl, H2, HR⟩ := hr.box (w := w) HS1.out (by omega) HBX1.out HB1.out
  obtain ⟨z0, z1⟩ := H2.out.cells
  have f0 := frozen_of_row _ _ 0 _ _ H2.out
  have f1 := frozen_of_row _ _ 1 _ _ H2.out
  clear hr
  go_wp2_with fail
  try simp only [Exit.inBlock, Exit.then]
  refine bodyPost_ret (results_two rfl _ _ (w.heap.size + 1) _ _ (by rfl) (Two.set H2.out _ _)) rfl ?_
  exact HR.out


end Go.Proofs.YtphjaebkcimklaaGreatDoor

/- law12's reference: Floor, Ceil; at. -/
set_option linter.unusedVariables false
set_option linter.unusedSimpArgs false
namespace Go.Proofs.YtphjaebkcimklaaGreatDoor
open Go.RowKit

/-- How many keys are at most the key. -/
def leM (M : Pairs) (key : Bytes) : Nat := M.countP fun q => decide (¬ cmp key q.1 = -1)
theorem getD_at {M : Pairs} {j : Nat} (h : j < M.length) : M.getD j ([], []) = M[j] := by
  rw [List.getD_eq_getElem?_getD, List.getElem?_eq_getElem h, Option.getD_some]
theorem asc_lt {M : Pairs} (h : Asc M) {i j : Nat} (hij : i < j) (hj : j < M.length) : cmp (M.getD i ([], [])).1 (M.getD j ([], [])).1 = -1 := by
  rw [getD_at hj, getD_at (Nat.lt_trans hij hj)]
  exact List.pairwise_iff_getElem.1 h i j (Nat.lt_trans hij hj) hj hij
theorem count_snoc (M : Pairs) (p : Bytes × Bytes → Bool) (j : Nat) (h : j < M.length) : (M.take (j + 1)).countP p = (M.take j).countP p + (if p (M.getD j ([], [])) = true then 1 else 0) := by
  rw [List.take_succ_eq_append_getElem h, List.countP_append, getD_at h, List.countP_singleton]
theorem count_all (M : Pairs) (p : Bytes × Bytes → Bool) (j : Nat) (hj : j ≤ M.length) (h : ∀ i, i < j → p (M.getD i ([], [])) = true) : (M.take j).countP p = j := by
  induction j with
  | zero => simp
  | succ j ih =>
    rw [count_snoc M p j (by omega), ih (by omega) fun i hi => h i (by omega), h j (by omega), if_pos rfl]
theorem count_stop (M : Pairs) (p : Bytes × Bytes → Bool) (j : Nat) (hj : j ≤ M.length) (h : ∀ i, i < j → p (M.getD i ([], [])) = true) (h2 : ∀ i, j ≤ i → i < M.length → p (M.getD i ([], [])) = false) : M.countP p = j := by
  have e : M.countP p = (M.take j).countP p + (M.drop j).countP p := by rw [← List.countP_append, List.take_append_drop]
  rw [e, count_all M p j hj h]
  have : (M.drop j).countP p = 0 := by
    rw [List.countP_eq_zero]
    intro q hq
    obtain ⟨i, hi, rfl⟩ := List.getElem_of_mem hq
    rw [List.length_drop] at hi
    have := h2 (j + i) (by omega) (by omega)
    rw [getD_at (by omega)] at this
    rw [List.getElem_drop]; simp [this]
  omega

set_option maxHeartbeats 6400000 in
theorem mfloor_any {S : Nat → Prop} (M : Pairs) (A : Option Addr) (n c : Nat) (s : ByteArray) (w : World) (hM : MIn S w A n M) (hn : n ≤ 1000000) (hs : s.size ≤ 1000000) (hasc : Asc M) :
    Calls Tryz.prog 22 #[.slice A n c, .string s] w fun e w' => e = .returned (.int .i64 ((leM M (strL s) : Int) - 1)) ∧ Below w.heap.size w w' := by
  have HM := Lib.hid hM
  have HA := Lib.hid hasc
  clear hM hasc
  go_enter Tryz.func22, Tryz.ntmps22
  go_wp2_with fail
  go_loopw [5, 10] (fun u v wr => ∃ j : Nat, u = .int .i64 ((leM (M.take j) (strL s) : Int) - 1) ∧ v = .int .i64 (j : Int) ∧ j ≤ n ∧ Below w.heap.size w wr) (fun _ v _ => n - (intOf v).toNat)
  case atStart => exact ⟨0, by simp [leM], rfl, by omega, Below.refl _ _⟩
  case round =>
    obtain ⟨j, rfl, rfl, hj, hb⟩ := hrel
    have HB := Lib.hid hb
    clear hb
    by_cases hlt : j < n
    · obtain ⟨b, o, rfl, hbl, hSb, hc⟩ := (HM.out.below HB.out).cell (by omega)
      obtain ⟨c0, c1⟩ := hc j hlt
      have hjl : j < M.length := by rw [HM.out.len]; exact hlt
      have hcnt := count_snoc M (fun q => decide (¬ cmp (strL s) q.1 = -1)) j hjl
      have hall : ¬ cmp (strL s) (M.getD j ([], [])).1 = -1 → leM (M.take (j + 1)) (strL s) = j + 1 := fun h => by
        refine count_all M _ (j + 1) (by omega) fun i hi => ?_
        rw [decide_eq_true_eq]
        intro hlt'
        rcases Nat.lt_succ_iff_lt_or_eq.1 hi with h' | rfl
        · exact h (cmp_lt_trans _ _ _ hlt' (asc_lt HA.out h' hjl))
        · exact h hlt'
      have hle : leM (M.take j) (strL s) ≤ j := by
        unfold leM
        refine Nat.le_trans List.countP_le_length ?_
        simp; omega
      change leM (M.take (j + 1)) (strL s) = leM (M.take j) (strL s) + _ at hcnt
      obtain ⟨sk, hsk⟩ : ∃ sk, strO (M.getD j ([], [])).1 = sk := ⟨_, rfl⟩
      obtain ⟨sx, hsx⟩ : ∃ sx, strO (M.getD j ([], [])).2 = sx := ⟨_, rfl⟩
      simp only [bs, hsk, hsx] at c0 c1
      rw [show (M.getD j ([], [])).1 = strL sk by rw [← hsk, strL_strO]] at hcnt hall
      have HLS := Lib.hid (fun W => less_any s sk W hs)
      have al : (0 : Int) ≤ (j : Int) := by omega
      have al3 : (j : Int) < (n : Int) := by omega
      have HCN := Lib.hid (And.intro hcnt hall)
      clear hc hsk hsx hcnt hall
      generalize leM (M.take j) (strL s) = u at *
      go_wp2_with fail
      refine (HLS.out _).mono ?_
      rintro e w2 ⟨rfl, q, rfl⟩
      by_cases hc : cmp (strL s) (strL sk) = -1
      · have HC := Lib.hid hc
        rw [decide_eq_true hc]
        clear hc
        go_wp2_with fail
        go_roundw
        case rel => exact ⟨j + 1, by rw [HCN.out.1]; simp [HC.out], by go_num, by omega, below_drewN (HB.out.alloc HB.out.size _) _⟩
        case measure => simp [intOf]; omega
      · have HC := Lib.hid hc
        rw [decide_eq_false hc]
        clear hc
        go_wp2_with fail
        go_roundw
        case rel => exact ⟨j + 1, by rw [HCN.out.2 HC.out]; go_num, by go_num, by omega, below_drewN (HB.out.alloc HB.out.size _) _⟩
        case measure => simp [intOf]; omega
    · obtain rfl : j = n := by omega
      have HT : Hid (M.take j = M) := List.take_of_length_le (by rw [HM.out.len]; exact Nat.le_refl _)
      rw [HT.out]
      go_wp2_with fail
      go_ret
      exact ⟨rfl, HB.out⟩

/-- Where the reference finds the first key that is not below. -/
def ceilM (M : Pairs) (key : Bytes) : Int := if belowM M key < M.length then (belowM M key : Int) else -1

set_option maxHeartbeats 6400000 in
theorem mceil_any {S : Nat → Prop} (M : Pairs) (A : Option Addr) (n c : Nat) (s : ByteArray) (w : World) (hM : MIn S w A n M) (hn : n ≤ 1000000) (hk : ∀ p ∈ M, p.1.length ≤ 100000) (hasc : Asc M) :
    Calls Tryz.prog 23 #[.slice A n c, .string s] w fun e w' => e = .returned (.int .i64 (ceilM M (strL s))) ∧ Below w.heap.size w w' := by
  have HM := Lib.hid hM
  have HA := Lib.hid hasc
  have HKL := Lib.hid hk
  clear hM hasc hk
  go_enter Tryz.func23, Tryz.ntmps23
  go_wp2_with fail
  go_loopw [9] (fun v wr => ∃ j : Nat, v = .int .i64 (j : Int) ∧ j ≤ n ∧ Hid (∀ i, i < j → cmp (M.getD i ([], [])).1 (strL s) = -1) ∧ Below w.heap.size w wr) (fun v _ => n - (intOf v).toNat)
  case atStart => exact ⟨0, rfl, by omega, Lib.hid (fun i hi => by omega), Below.refl _ _⟩
  case round =>
    obtain ⟨j, rfl, hj, hall, hb⟩ := hrel
    have HB := Lib.hid hb
    clear hb
    by_cases hlt : j < n
    · obtain ⟨b, o, rfl, hbl, hSb, hc⟩ := (HM.out.below HB.out).cell (by omega)
      obtain ⟨c0, c1⟩ := hc j hlt
      have hjl : j < M.length := by rw [HM.out.len]; exact hlt
      have hstop : ¬ cmp (M.getD j ([], [])).1 (strL s) = -1 → ceilM M (strL s) = (j : Int) := fun h => by
        have : belowM M (strL s) = j := by
          refine count_stop M _ j (by omega) (fun i hi => decide_eq_true (hall.out i hi)) fun i hi1 hi2 => decide_eq_false fun h' => h ?_
          rcases Nat.lt_or_eq_of_le hi1 with h'' | rfl
          · exact cmp_lt_trans _ _ _ (asc_lt HA.out h'' hi2) h'
          · exact h'
        unfold ceilM
        rw [this, if_pos hjl]
      have hks : (strO (M.getD j ([], [])).1).size ≤ 1000000 := by
        rw [strO_size]
        have : M.getD j ([], []) ∈ M := by rw [getD_at hjl]; exact List.getElem_mem hjl
        have := HKL.out _ this
        omega
      obtain ⟨sk, hsk⟩ : ∃ sk, strO (M.getD j ([], [])).1 = sk := ⟨_, rfl⟩
      obtain ⟨sx, hsx⟩ : ∃ sx, strO (M.getD j ([], [])).2 = sx := ⟨_, rfl⟩
      simp only [bs, hsk, hsx] at c0 c1
      rw [hsk] at hks
      have HE : Hid ((M.getD j ([], [])).1 = strL sk) := by
        have : (M.getD j ([], [])).1 = strL sk := by rw [← hsk, strL_strO]
        exact this
      have HLS := Lib.hid (fun W => less_any sk s W hks)
      have HST := Lib.hid hstop
      have al : (0 : Int) ≤ (j : Int) := by omega
      have al3 : (j : Int) < (n : Int) := by omega
      clear hc hsk hsx hstop hks
      go_wp2_with fail
      refine (HLS.out _).mono ?_
      rintro e w2 ⟨rfl, q, rfl⟩
      by_cases hc : cmp (strL sk) (strL s) = -1
      · have HC := Lib.hid hc
        rw [decide_eq_true hc]
        clear hc
        go_wp2_with fail
        go_roundw
        case rel => exact ⟨j + 1, by go_num, by omega, Lib.hid (fun i hi => by
          rcases Nat.lt_succ_iff_lt_or_eq.1 hi with h | rfl
          · exact hall.out i h
          · rw [HE.out]; exact HC.out), below_drewN (HB.out.alloc HB.out.size _) _⟩
        case measure => simp [intOf]; omega
      · have HC := Lib.hid hc
        rw [decide_eq_false hc]
        clear hc
        go_wp2_with fail
        go_ret
        exact ⟨by rw [HST.out (by rw [HE.out]; exact HC.out)]; rfl, below_drewN (HB.out.alloc HB.out.size _) _⟩
    · have HE : Hid (ceilM M (strL s) = -1) := by
        have hb : belowM M (strL s) = M.length := by
          refine count_stop M _ M.length (Nat.le_refl _) (fun i hi => decide_eq_true (hall.out i (by rw [HM.out.len] at hi; omega))) fun i h1 h2 => by omega
        have : ceilM M (strL s) = -1 := by unfold ceilM; rw [hb, if_neg (by omega)]
        exact this
      go_wp2_with fail
      go_ret
      exact ⟨by rw [HE.out]; rfl, HB.out⟩

end Go.Proofs.YtphjaebkcimklaaGreatDoor
