/- law12's reference: Floor, Ceil; at. -/
import Derived.Test.YtlnlgahokifolaaTRank3
set_option linter.unusedVariables false
set_option linter.unusedSimpArgs false
namespace Go.Proofs.Ytlnlgahokifolaa
open Go.RowKit

/-- How many keys are at most the key. -/
def leM (M : Pairs) (key : Bytes) : Nat := M.countP fun q => decide (¬ cmp key q.1 = -1)
theorem getD_at {M : Pairs} {j : Nat} (h : j < M.length) : M.getD j ([], []) = M[j] := by
  rw [List.getD_eq_getElem?_getD, List.getElem?_eq_getElem h, Option.getD_some]
theorem asc_lt {M : Pairs} (h : Asc M) {i j : Nat} (hij : i < j) (hj : j < M.length) : cmp (M.getD i ([], [])).1 (M.getD j ([], [])).1 = -1 := by
  rw [getD_at hj, getD_at (Nat.lt_trans hij hj)]
  exact List.pairwise_iff_getElem.1 h i j (Nat.lt_trans hij hj) hj hij
theorem count_snoc (M : Pairs) (p : Bytes × Bytes → Bool) (j : Nat) (h : j < M.length) : (M.take (j + 1)).countP p = (M.take j).countP p + (if p (M.getD j ([], [])) = true then 1 else 0) := by
  rw [List.take_succ_eq_append_getElem h, List.countP_append, getD_at h, List.countP_singleton]
theorem count_all (M : Pairs) (p : Bytes × Bytes → Bool) (j : Nat) (hj : j ≤ M.length) (h : ∀ i, i < j → p (M.getD i ([], [])) = true) : (M.take j).countP p = j := by
  induction j with
  | zero => simp
  | succ j ih =>
    rw [count_snoc M p j (by omega), ih (by omega) fun i hi => h i (by omega), h j (by omega), if_pos rfl]
theorem count_stop (M : Pairs) (p : Bytes × Bytes → Bool) (j : Nat) (hj : j ≤ M.length) (h : ∀ i, i < j → p (M.getD i ([], [])) = true) (h2 : ∀ i, j ≤ i → i < M.length → p (M.getD i ([], [])) = false) : M.countP p = j := by
  have e : M.countP p = (M.take j).countP p + (M.drop j).countP p := by rw [← List.countP_append, List.take_append_drop]
  rw [e, count_all M p j hj h]
  have : (M.drop j).countP p = 0 := by
    rw [List.countP_eq_zero]
    intro q hq
    obtain ⟨i, hi, rfl⟩ := List.getElem_of_mem hq
    rw [List.length_drop] at hi
    have := h2 (j + i) (by omega) (by omega)
    rw [getD_at (by omega)] at this
    rw [List.getElem_drop]; simp [this]
  omega

set_option maxHeartbeats 6400000 in
theorem mfloor_any {S : Nat → Prop} (M : Pairs) (A : Option Addr) (n c : Nat) (s : ByteArray) (w : World) (hM : MIn S w A n M) (hn : n ≤ 1000000) (hs : s.size ≤ 1000000) (hasc : Asc M) :
    Calls Try.prog 36 #[.slice A n c, .string s] w fun e w' => e = .returned (.int .i64 ((leM M (strL s) : Int) - 1)) ∧ Below w.heap.size w w' := by
  have HM := Lib.hid hM
  have HA := Lib.hid hasc
  clear hM hasc
  go_enter Try.func36, Try.ntmps36
  go_wp2_with fail
  go_loopw [5, 10] (fun u v wr => ∃ j : Nat, u = .int .i64 ((leM (M.take j) (strL s) : Int) - 1) ∧ v = .int .i64 (j : Int) ∧ j ≤ n ∧ Below w.heap.size w wr) (fun _ v _ => n - (intOf v).toNat)
  case atStart => exact ⟨0, by simp [leM], rfl, by omega, Below.refl _ _⟩
  case round =>
    obtain ⟨j, rfl, rfl, hj, hb⟩ := hrel
    have HB := Lib.hid hb
    clear hb
    by_cases hlt : j < n
    · obtain ⟨b, o, rfl, hbl, hSb, hc⟩ := (HM.out.below HB.out).cell (by omega)
      obtain ⟨c0, c1⟩ := hc j hlt
      have hjl : j < M.length := by rw [HM.out.len]; exact hlt
      have hcnt := count_snoc M (fun q => decide (¬ cmp (strL s) q.1 = -1)) j hjl
      have hall : ¬ cmp (strL s) (M.getD j ([], [])).1 = -1 → leM (M.take (j + 1)) (strL s) = j + 1 := fun h => by
        refine count_all M _ (j + 1) (by omega) fun i hi => ?_
        rw [decide_eq_true_eq]
        intro hlt'
        rcases Nat.lt_succ_iff_lt_or_eq.1 hi with h' | rfl
        · exact h (cmp_lt_trans _ _ _ hlt' (asc_lt HA.out h' hjl))
        · exact h hlt'
      have hle : leM (M.take j) (strL s) ≤ j := by
        unfold leM
        refine Nat.le_trans List.countP_le_length ?_
        simp; omega
      change leM (M.take (j + 1)) (strL s) = leM (M.take j) (strL s) + _ at hcnt
      obtain ⟨sk, hsk⟩ : ∃ sk, strO (M.getD j ([], [])).1 = sk := ⟨_, rfl⟩
      obtain ⟨sx, hsx⟩ : ∃ sx, strO (M.getD j ([], [])).2 = sx := ⟨_, rfl⟩
      simp only [bs, hsk, hsx] at c0 c1
      rw [show (M.getD j ([], [])).1 = strL sk by rw [← hsk, strL_strO]] at hcnt hall
      have HLS := Lib.hid (fun W => less_any s sk W hs)
      have al : (0 : Int) ≤ (j : Int) := by omega
      have al3 : (j : Int) < (n : Int) := by omega
      have HCN := Lib.hid (And.intro hcnt hall)
      clear hc hsk hsx hcnt hall
      generalize leM (M.take j) (strL s) = u at *
      go_wp2_with fail
      refine (HLS.out _).mono ?_
      rintro e w2 ⟨rfl, q, rfl⟩
      by_cases hc : cmp (strL s) (strL sk) = -1
      · have HC := Lib.hid hc
        rw [decide_eq_true hc]
        clear hc
        go_wp2_with fail
        go_roundw
        case rel => exact ⟨j + 1, by rw [HCN.out.1]; simp [HC.out], by go_num, by omega, below_drewN (HB.out.alloc HB.out.size _) _⟩
        case measure => simp [intOf]; omega
      · have HC := Lib.hid hc
        rw [decide_eq_false hc]
        clear hc
        go_wp2_with fail
        go_roundw
        case rel => exact ⟨j + 1, by rw [HCN.out.2 HC.out]; go_num, by go_num, by omega, below_drewN (HB.out.alloc HB.out.size _) _⟩
        case measure => simp [intOf]; omega
    · obtain rfl : j = n := by omega
      have HT : Hid (M.take j = M) := List.take_of_length_le (by rw [HM.out.len]; exact Nat.le_refl _)
      rw [HT.out]
      go_wp2_with fail
      go_ret
      exact ⟨rfl, HB.out⟩

/-- Where the reference finds the first key that is not below. -/
def ceilM (M : Pairs) (key : Bytes) : Int := if belowM M key < M.length then (belowM M key : Int) else -1

set_option maxHeartbeats 6400000 in
theorem mceil_any {S : Nat → Prop} (M : Pairs) (A : Option Addr) (n c : Nat) (s : ByteArray) (w : World) (hM : MIn S w A n M) (hn : n ≤ 1000000) (hk : ∀ p ∈ M, p.1.length ≤ 100000) (hasc : Asc M) :
    Calls Try.prog 37 #[.slice A n c, .string s] w fun e w' => e = .returned (.int .i64 (ceilM M (strL s))) ∧ Below w.heap.size w w' := by
  have HM := Lib.hid hM
  have HA := Lib.hid hasc
  have HKL := Lib.hid hk
  clear hM hasc hk
  go_enter Try.func37, Try.ntmps37
  go_wp2_with fail
  go_loopw [9] (fun v wr => ∃ j : Nat, v = .int .i64 (j : Int) ∧ j ≤ n ∧ Hid (∀ i, i < j → cmp (M.getD i ([], [])).1 (strL s) = -1) ∧ Below w.heap.size w wr) (fun v _ => n - (intOf v).toNat)
  case atStart => exact ⟨0, rfl, by omega, Lib.hid (fun i hi => by omega), Below.refl _ _⟩
  case round =>
    obtain ⟨j, rfl, hj, hall, hb⟩ := hrel
    have HB := Lib.hid hb
    clear hb
    by_cases hlt : j < n
    · obtain ⟨b, o, rfl, hbl, hSb, hc⟩ := (HM.out.below HB.out).cell (by omega)
      obtain ⟨c0, c1⟩ := hc j hlt
      have hjl : j < M.length := by rw [HM.out.len]; exact hlt
      have hstop : ¬ cmp (M.getD j ([], [])).1 (strL s) = -1 → ceilM M (strL s) = (j : Int) := fun h => by
        have : belowM M (strL s) = j := by
          refine count_stop M _ j (by omega) (fun i hi => decide_eq_true (hall.out i hi)) fun i hi1 hi2 => decide_eq_false fun h' => h ?_
          rcases Nat.lt_or_eq_of_le hi1 with h'' | rfl
          · exact cmp_lt_trans _ _ _ (asc_lt HA.out h'' hi2) h'
          · exact h'
        unfold ceilM
        rw [this, if_pos hjl]
      have hks : (strO (M.getD j ([], [])).1).size ≤ 1000000 := by
        rw [strO_size]
        have : M.getD j ([], []) ∈ M := by rw [getD_at hjl]; exact List.getElem_mem hjl
        have := HKL.out _ this
        omega
      obtain ⟨sk, hsk⟩ : ∃ sk, strO (M.getD j ([], [])).1 = sk := ⟨_, rfl⟩
      obtain ⟨sx, hsx⟩ : ∃ sx, strO (M.getD j ([], [])).2 = sx := ⟨_, rfl⟩
      simp only [bs, hsk, hsx] at c0 c1
      rw [hsk] at hks
      have HE : Hid ((M.getD j ([], [])).1 = strL sk) := by
        have : (M.getD j ([], [])).1 = strL sk := by rw [← hsk, strL_strO]
        exact this
      have HLS := Lib.hid (fun W => less_any sk s W hks)
      have HST := Lib.hid hstop
      have al : (0 : Int) ≤ (j : Int) := by omega
      have al3 : (j : Int) < (n : Int) := by omega
      clear hc hsk hsx hstop hks
      go_wp2_with fail
      refine (HLS.out _).mono ?_
      rintro e w2 ⟨rfl, q, rfl⟩
      by_cases hc : cmp (strL sk) (strL s) = -1
      · have HC := Lib.hid hc
        rw [decide_eq_true hc]
        clear hc
        go_wp2_with fail
        go_roundw
        case rel => exact ⟨j + 1, by go_num, by omega, Lib.hid (fun i hi => by
          rcases Nat.lt_succ_iff_lt_or_eq.1 hi with h | rfl
          · exact hall.out i h
          · rw [HE.out]; exact HC.out), below_drewN (HB.out.alloc HB.out.size _) _⟩
        case measure => simp [intOf]; omega
      · have HC := Lib.hid hc
        rw [decide_eq_false hc]
        clear hc
        go_wp2_with fail
        go_ret
        exact ⟨by rw [HST.out (by rw [HE.out]; exact HC.out)]; rfl, below_drewN (HB.out.alloc HB.out.size _) _⟩
    · have HE : Hid (ceilM M (strL s) = -1) := by
        have hb : belowM M (strL s) = M.length := by
          refine count_stop M _ M.length (Nat.le_refl _) (fun i hi => decide_eq_true (hall.out i (by rw [HM.out.len] at hi; omega))) fun i h1 h2 => by omega
        have : ceilM M (strL s) = -1 := by unfold ceilM; rw [hb, if_neg (by omega)]
        exact this
      go_wp2_with fail
      go_ret
      exact ⟨by rw [HE.out]; rfl, HB.out⟩

end Go.Proofs.Ytlnlgahokifolaa
