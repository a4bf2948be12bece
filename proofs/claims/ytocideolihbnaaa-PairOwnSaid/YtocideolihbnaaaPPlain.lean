/- The plain law of Come: rising; just what the document makes, pair by pair. -/
import Derived.Test.YtocideolihbnaaaPCome
import Derived.Test.YtocideolihbnaaaTPlain
set_option linter.unusedVariables false
set_option linter.unusedSimpArgs false
namespace Go.Proofs.Ytocideolihbnaaa
open Stab

theorem lt_le {key : Nat → Bytes} {i j : Nat} (h : lt key i j) : cmp (key i) (key j) = -1 ∨ key i = key j := h.elim .inl fun h => .inr h.1
theorem dd_asc (L : Pairs) (f : Nat → Nat) (n : Nat) (hL : L.length = n) (hp : Post (lt (keyOf' L)) 0 n (fun p => p) f) : Asc (dd (sortL L f n) n) := by
  have hs := hp.2
  unfold Asc dd
  rw [List.pairwise_map]
  refine List.Pairwise.imp_of_mem ?_ (List.Pairwise.filter _ List.pairwise_lt_range)
  intro p q hpm hqm hpq
  obtain ⟨hp1, hp2⟩ := List.mem_filter.1 hpm
  obtain ⟨hq1, hq2⟩ := List.mem_filter.1 hqm
  rw [List.mem_range] at hp1 hq1
  rw [sortL_at L f n hp1, sortL_at L f n hq1]
  have h1 := hs p q (Nat.zero_le _) hpq hq1
  rcases lt_le h1 with h | h
  · exact h
  · exfalso
    have hp3 : keepB (sortL L f n) p = true := hp2
    unfold keepB at hp3
    rw [sortL_len, sortL_at L f n hp1, sortL_at L f n (show p + 1 < n by omega), decide_eq_true (show p + 1 < n by omega)] at hp3
    simp only [Bool.true_and, Bool.not_eq_true', decide_eq_false_iff_not] at hp3
    apply hp3
    have h2 := lt_le (hs p (p + 1) (Nat.zero_le _) (by omega) (by omega))
    by_cases he : p + 1 = q
    · rw [he]; exact h.symm
    · have h3 := lt_le (hs (p + 1) q (Nat.zero_le _) (by omega) hq1)
      rcases h2 with h2 | h2
      · rcases h3 with h3 | h3
        · have := cmp_lt_trans _ _ _ h2 h3
          rw [h, cmp_self] at this; exact absurd this (by decide)
        · rw [h, ← h3, cmp_self] at h2; exact absurd h2 (by decide)
      · exact h2.symm

/-- What a list comes to, pair by pair. -/
def comeL (L : Pairs) : Pairs := L.foldl (fun M p => insL p.1 p.2 M) []
theorem comeL_snoc (L : Pairs) (p : Bytes × Bytes) : comeL (L ++ [p]) = insL p.1 p.2 (comeL L) := by simp [comeL]
theorem comeL_asc_from : ∀ (L M : Pairs), Asc M → Asc (L.foldl (fun M p => insL p.1 p.2 M) M)
  | [], M, h => h
  | p :: L, M, h => comeL_asc_from L _ (ins_asc p.1 p.2 M h)
theorem comeL_asc (L : Pairs) : Asc (comeL L) := comeL_asc_from L [] List.Pairwise.nil
theorem getM_mem : ∀ (A : Pairs) (k x : Bytes), Asc A → (k, x) ∈ A → getM A k = some x
  | (k', x') :: A, k, x, h, hm => by
    rw [getM]
    rcases List.mem_cons.1 hm with e | hm
    · injection e with e1 e2
      rw [e1, e2, if_pos rfl]
    · rw [if_neg (fun e => by have := h.head _ hm; rw [e, cmp_self] at this; exact absurd this (by decide))]
      exact getM_mem A k x h.tail hm
theorem getM_none' : ∀ (A : Pairs) (k : Bytes), (∀ p ∈ A, p.1 ≠ k) → getM A k = none
  | [], _, _ => rfl
  | (k', x') :: A, k, h => by
    rw [getM, if_neg (h _ (List.mem_cons_self ..))]
    exact getM_none' A k fun p hp => h p (List.mem_cons_of_mem _ hp)
theorem asc_ext : ∀ (A B : Pairs), Asc A → Asc B → (∀ k, getM A k = getM B k) → A = B
  | [], [], _, _, _ => rfl
  | [], (k, x) :: B, _, _, h => by
    have h1 := h k
    have h2 : getM ((k, x) :: B) k = some x := by rw [getM, if_pos rfl]
    rw [h2] at h1; cases h1
  | (k, x) :: A, [], _, _, h => by
    have h1 := h k
    have h2 : getM ((k, x) :: A) k = some x := by rw [getM, if_pos rfl]
    rw [h2] at h1; cases h1
  | (k, x) :: A, (k', x') :: B, hA, hB, h => by
    rcases cmp_cases k k' with hk | hk | hk
    · exfalso
      have h1 := h k
      rw [getM, if_pos rfl, getM_none' ((k', x') :: B) k] at h1
      · cases h1
      · intro p hp
        rcases List.mem_cons.1 hp with e | hp
        · rw [e]; exact (cmp_ne hk).symm
        · exact (cmp_ne (cmp_lt_trans _ _ _ hk (hB.head _ hp))).symm
    · subst hk
      have hx : x = x' := by
        have h1 := h k
        rw [getM, if_pos rfl, getM, if_pos rfl] at h1
        exact Option.some.inj h1
      subst hx
      rw [asc_ext A B hA.tail hB.tail fun key => ?_]
      by_cases hk : k = key
      · subst hk
        rw [getM_none' A k fun p hp => (cmp_ne (hA.head _ hp)).symm, getM_none' B k fun p hp => (cmp_ne (hB.head _ hp)).symm]
      · have h1 := h key
        rw [getM, if_neg hk, getM, if_neg hk] at h1
        exact h1
    · exfalso
      have h1 := h k'
      rw [getM_none' ((k, x) :: A) k', getM, if_pos rfl] at h1
      · cases h1
      · intro p hp
        rcases List.mem_cons.1 hp with e | hp
        · rw [e]; exact (cmp_ne hk).symm
        · exact (cmp_ne (cmp_lt_trans _ _ _ hk (hA.head _ hp))).symm
theorem getM_ins (k x : Bytes) : ∀ (M : Pairs) (key : Bytes), Asc M → getM (insL k x M) key = if k = key then some x else getM M key := by
  intro M key h
  by_cases hk : k = key
  · subst hk
    rw [if_pos rfl]
    refine getM_mem _ _ _ (ins_asc k x M h) ?_
    clear h
    induction M with
    | nil => simp [insL]
    | cons q M ih =>
      unfold insL
      split
      · exact List.mem_cons_of_mem _ ih
      · split <;> exact List.mem_cons_self ..
  · rw [if_neg hk]
    have hd : ∀ p, p ∈ M → p.1 ≠ k → p ∈ insL k x M := by
      clear h
      induction M with
      | nil => intro p hp; cases hp
      | cons q M ih =>
        intro p hp hne
        unfold insL
        split
        · rcases List.mem_cons.1 hp with e | hp
          · rw [e]; exact List.mem_cons_self ..
          · exact List.mem_cons_of_mem _ (ih p hp hne)
        · split
          · rename_i he
            rcases List.mem_cons.1 hp with e | hp
            · exact absurd (by rw [e]; exact he) hne
            · exact List.mem_cons_of_mem _ hp
          · exact List.mem_cons_of_mem _ hp
    cases hg : getM M key with
    | none =>
      refine getM_none' _ _ fun p hp e => ?_
      rcases ins_mem k x M p hp with rfl | hp
      · exact hk e
      · have := getM_mem M p.1 p.2 h hp
        rw [e, hg] at this; cases this
    | some y =>
      have hm : ∃ p ∈ M, p.1 = key ∧ p.2 = y := by
        clear hd
        induction M with
        | nil => cases hg
        | cons q M ih =>
          obtain ⟨qk, qx⟩ := q
          rw [getM] at hg
          by_cases e : qk = key
          · rw [if_pos e] at hg
            exact ⟨_, List.mem_cons_self .., e, Option.some.inj hg⟩
          · rw [if_neg e] at hg
            obtain ⟨p, hp, h1, h2⟩ := ih h.tail hg
            exact ⟨p, List.mem_cons_of_mem _ hp, h1, h2⟩
      obtain ⟨p, hp, h1, h2⟩ := hm
      rw [← h1, ← h2]
      exact getM_mem _ _ _ (ins_asc k x M h) (hd p hp fun e => hk (e.symm.trans h1))
theorem come_none : ∀ (L M : Pairs) (key : Bytes), Asc M → (∀ p ∈ L, p.1 ≠ key) → getM (L.foldl (fun M p => insL p.1 p.2 M) M) key = getM M key
  | [], _, _, _, _ => rfl
  | p :: L, M, key, hM, h => by
    rw [List.foldl_cons, come_none L _ key (ins_asc _ _ _ hM) fun q hq => h q (List.mem_cons_of_mem _ hq), getM_ins _ _ _ _ hM, if_neg (h p (List.mem_cons_self ..))]
theorem come_last (L : Pairs) (t : Nat) (ht : t < L.length) (hl : ∀ i, t < i → i < L.length → (L.getD i ([], [])).1 ≠ (L.getD t ([], [])).1) : getM (comeL L) (L.getD t ([], [])).1 = some (L.getD t ([], [])).2 := by
  have e : L = L.take t ++ L.getD t ([], []) :: L.drop (t + 1) := by
    rw [List.getD_eq_getElem?_getD, List.getElem?_eq_getElem ht]
    simp
  have h1 : comeL L = (L.drop (t + 1)).foldl (fun M p => insL p.1 p.2 M) (insL (L.getD t ([], [])).1 (L.getD t ([], [])).2 (comeL (L.take t))) := by
    conv => lhs; rw [e]
    simp [comeL]
  rw [h1, come_none _ _ _ (ins_asc _ _ _ (comeL_asc _)), getM_ins _ _ _ _ (comeL_asc _), if_pos rfl]
  intro p hp
  obtain ⟨i, hi, rfl⟩ := List.getElem_of_mem hp
  rw [List.length_drop] at hi
  have := hl (t + 1 + i) (by omega) (by omega)
  rw [List.getD_eq_getElem?_getD, List.getElem?_eq_getElem (by omega)] at this
  rw [List.getElem_drop]; exact this
theorem last_index (L : Pairs) (key : Bytes) : (∀ p ∈ L, p.1 ≠ key) ∨ ∃ t, t < L.length ∧ (L.getD t ([], [])).1 = key ∧ ∀ i, t < i → i < L.length → (L.getD i ([], [])).1 ≠ key := by
  have main : ∀ d, d ≤ L.length → (∀ i, L.length - d ≤ i → i < L.length → (L.getD i ([], [])).1 ≠ key) ∨ ∃ t, t < L.length ∧ (L.getD t ([], [])).1 = key ∧ ∀ i, t < i → i < L.length → (L.getD i ([], [])).1 ≠ key := by
    intro d
    induction d with
    | zero => intro _; exact .inl fun i h1 h2 => by omega
    | succ d ih =>
      intro hd
      rcases ih (by omega) with h | h
      · by_cases hk : (L.getD (L.length - (d + 1)) ([], [])).1 = key
        · exact .inr ⟨L.length - (d + 1), by omega, hk, fun i h1 h2 => h i (by omega) h2⟩
        · refine .inl fun i h1 h2 => ?_
          by_cases e : i = L.length - (d + 1)
          · rw [e]; exact hk
          · exact h i (by omega) h2
      · exact .inr h
  rcases main L.length (Nat.le_refl _) with h | h
  · refine .inl fun p hp => ?_
    obtain ⟨i, hi, rfl⟩ := List.getElem_of_mem hp
    have := h i (by omega) hi
    rw [List.getD_eq_getElem?_getD, List.getElem?_eq_getElem hi] at this
    exact this
  · exact .inr h

theorem dd_come (L : Pairs) (f : Nat → Nat) (n : Nat) (hL : L.length = n) (hp : Post (lt (keyOf' L)) 0 n (fun p => p) f) : dd (sortL L f n) n = comeL L := by
  have hasc := dd_asc L f n hL hp
  refine asc_ext _ _ hasc (comeL_asc L) fun key => ?_
  rcases last_index L key with h | ⟨t, ht, hk, hl⟩
  · have e1 : getM (comeL L) key = none := (come_none L [] key List.Pairwise.nil h).trans rfl
    rw [e1]
    refine getM_none' _ _ fun p hp' => ?_
    obtain ⟨q, hq, rfl⟩ := List.mem_map.1 hp'
    obtain ⟨hq1, _⟩ := List.mem_filter.1 hq
    rw [List.mem_range] at hq1
    rw [sortL_at L f n hq1]
    obtain ⟨r, _, hr, e⟩ := hp.1.fro q (Nat.zero_le _) hq1
    rw [e, List.getD_eq_getElem?_getD, List.getElem?_eq_getElem (by omega)]
    exact h _ (List.getElem_mem _)
  · subst hk
    rw [come_last L t ht hl]
    obtain ⟨p, _, hp1, e⟩ := hp.1.to t (Nat.zero_le _) (by omega)
    have e' : f p = t := e
    refine getM_mem _ _ _ hasc ?_
    refine List.mem_map.2 ⟨p, List.mem_filter.2 ⟨List.mem_range.2 hp1, ?_⟩, by rw [sortL_at L f n hp1, e']⟩
    unfold keepB
    rw [sortL_len]
    by_cases hp2 : p + 1 < n
    · rw [decide_eq_true hp2, sortL_at L f n hp1, sortL_at L f n hp2, e', Bool.true_and, Bool.not_eq_true', decide_eq_false_iff_not]
      intro hkk
      rcases hp.2 p (p + 1) (Nat.zero_le _) (by omega) hp2 with h | ⟨_, h⟩
      · rw [e'] at h
        unfold keyOf' at h
        rw [hkk, cmp_self] at h; exact absurd h (by decide)
      · rw [e'] at h
        obtain ⟨r, _, hr, er⟩ := hp.1.fro (p + 1) (Nat.zero_le _) hp2
        exact hl _ h (by rw [er]; omega) hkk
    · rw [decide_eq_false hp2]; rfl

end Go.Proofs.Ytocideolihbnaaa
