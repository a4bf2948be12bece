/- The plain law of a stable sort by exchanges: insertion, search, rotation, merge. -/
set_option linter.unusedVariables false
namespace Go.Proofs.Ytocideolihbnaaa.Stab

/-- One order is another one's rearrangement between two places. -/
structure Mix (a b : Nat) (f g : Nat → Nat) : Prop where
  out : ∀ p, (p < a ∨ b ≤ p) → g p = f p
  fro : ∀ p, a ≤ p → p < b → ∃ q, a ≤ q ∧ q < b ∧ g p = f q
  to : ∀ q, a ≤ q → q < b → ∃ p, a ≤ p ∧ p < b ∧ g p = f q
theorem Mix.refl (a b : Nat) (f : Nat → Nat) : Mix a b f f := ⟨fun _ _ => rfl, fun p h1 h2 => ⟨p, h1, h2, rfl⟩, fun p h1 h2 => ⟨p, h1, h2, rfl⟩⟩
theorem Mix.trans {a b : Nat} {f g h : Nat → Nat} (h1 : Mix a b f g) (h2 : Mix a b g h) : Mix a b f h := by
  refine ⟨fun p hp => (h2.out p hp).trans (h1.out p hp), fun p hp hq => ?_, fun q hp hq => ?_⟩
  · obtain ⟨q, hq1, hq2, e⟩ := h2.fro p hp hq
    obtain ⟨r, hr1, hr2, e2⟩ := h1.fro q hq1 hq2
    exact ⟨r, hr1, hr2, e.trans e2⟩
  · obtain ⟨p, hp1, hp2, e⟩ := h1.to q hp hq
    obtain ⟨r, hr1, hr2, e2⟩ := h2.to p hp1 hp2
    exact ⟨r, hr1, hr2, e2.trans e⟩
theorem Mix.wide {a b a' b' : Nat} {f g : Nat → Nat} (h : Mix a b f g) (ha : a' ≤ a) (hb : b ≤ b') : Mix a' b' f g := by
  refine ⟨fun p hp => h.out p (by omega), fun p hp hq => ?_, fun q hp hq => ?_⟩
  · by_cases hin : a ≤ p ∧ p < b
    · obtain ⟨q, h1, h2, e⟩ := h.fro p hin.1 hin.2
      exact ⟨q, by omega, by omega, e⟩
    · exact ⟨p, hp, hq, h.out p (by omega)⟩
  · by_cases hin : a ≤ q ∧ q < b
    · obtain ⟨p, h1, h2, e⟩ := h.to q hin.1 hin.2
      exact ⟨p, by omega, by omega, e⟩
    · exact ⟨q, hp, hq, h.out q (by omega)⟩
/-- Two exchanged. -/
def swp (f : Nat → Nat) (i j : Nat) : Nat → Nat := fun p => if p = i then f j else if p = j then f i else f p
theorem swp_mix {a b i j : Nat} (f : Nat → Nat) (h1 : a ≤ i) (h2 : i < b) (h3 : a ≤ j) (h4 : j < b) : Mix a b f (swp f i j) := by
  refine ⟨fun p hp => ?_, fun p hp hq => ?_, fun q hp hq => ?_⟩
  · simp only [swp]; rw [if_neg (by omega), if_neg (by omega)]
  · simp only [swp]
    by_cases e : p = i
    · rw [if_pos e]; exact ⟨j, h3, h4, rfl⟩
    · rw [if_neg e]
      by_cases e2 : p = j
      · rw [if_pos e2]; exact ⟨i, h1, h2, rfl⟩
      · rw [if_neg e2]; exact ⟨p, hp, hq, rfl⟩
  · by_cases e : q = j
    · exact ⟨i, h1, h2, by simp [swp, e]⟩
    · by_cases e2 : q = i
      · refine ⟨j, h3, h4, ?_⟩
        simp only [swp]
        by_cases e3 : j = i
        · rw [if_pos e3, e2, e3]
        · rw [if_neg e3, if_pos trivial, e2]
      · exact ⟨q, hp, hq, by simp [swp, e, e2]⟩

/-- What is told of two, and the order that it stands for. -/
structure Ord (less : Nat → Nat → Bool) (lt : Nat → Nat → Prop) : Prop where
  yes : ∀ x y, less x y = true → lt x y
  no : ∀ x y, less x y = false → y < x → lt y x
  trans : ∀ x y z, lt x y → lt y z → lt x z
def Asc' (lt : Nat → Nat → Prop) (a b : Nat) (f : Nat → Nat) : Prop := ∀ p q, a ≤ p → p < q → q < b → lt (f p) (f q)

/-! ### Insertion -/
structure Ins (lt : Nat → Nat → Prop) (a i j : Nat) (f g : Nat → Nat) : Prop where
  ge : a ≤ j
  le : j ≤ i
  mix : Mix a (i + 1) f g
  at_ : g j = f i
  oth : ∀ p, a ≤ p → p ≤ i → p ≠ j → ∃ q, a ≤ q ∧ q < i ∧ g p = f q
  up : ∀ p q, a ≤ p → p < q → q ≤ i → p ≠ j → q ≠ j → lt (g p) (g q)
  hi : ∀ q, j < q → q ≤ i → lt (g j) (g q)
theorem Ins.start {lt : Nat → Nat → Prop} {a i : Nat} {f g : Nat → Nat} (hm : Mix a i f g) (hu : Asc' lt a i g) (ha : a ≤ i) : Ins lt a i i f g :=
  ⟨ha, Nat.le_refl _, hm.wide (Nat.le_refl _) (by omega), hm.out i (by omega), fun p h1 h2 h3 => hm.fro p h1 (by omega), fun p q h1 h2 h3 h4 h5 => hu p q h1 h2 (by omega), fun q h1 h2 => by omega⟩
theorem Ins.step {less : Nat → Nat → Bool} {lt : Nat → Nat → Prop} (ho : Ord less lt) {a i j : Nat} {f g : Nat → Nat} (h : Ins lt a i j f g) (hj : a < j) (hl : less (g j) (g (j - 1)) = true) : Ins lt a i (j - 1) f (swp g j (j - 1)) := by
  have hle := h.le
  have e1 : swp g j (j - 1) (j - 1) = g j := by simp only [swp]; rw [if_neg (by omega), if_pos trivial]
  have e2 : swp g j (j - 1) j = g (j - 1) := by simp only [swp]; rw [if_pos trivial]
  have e3 : ∀ p, p ≠ j → p ≠ j - 1 → swp g j (j - 1) p = g p := fun p h1 h2 => by simp only [swp]; rw [if_neg h1, if_neg h2]
  refine ⟨by omega, by omega, h.mix.trans (swp_mix g (by omega) (by omega) (by omega) (by omega)), by rw [e1, h.at_], fun p h1 h2 h3 => ?_, fun p q h1 h2 h3 h4 h5 => ?_, fun q h1 h2 => ?_⟩
  · by_cases e : p = j
    · rw [e, e2]; exact h.oth (j - 1) (by omega) (by omega) (by omega)
    · rw [e3 p e h3]; exact h.oth p h1 h2 e
  · by_cases e : p = j
    · rw [e, e2, e3 q (by omega) h5]; exact h.up (j - 1) q (by omega) (by omega) h3 (by omega) (by omega)
    · rw [e3 p e h4]
      by_cases e' : q = j
      · rw [e', e2]; exact h.up p (j - 1) h1 (by omega) (by omega) e (by omega)
      · rw [e3 q e' h5]; exact h.up p q h1 h2 h3 e e'
  · rw [e1]
    by_cases e : q = j
    · rw [e, e2]; exact ho.yes _ _ hl
    · rw [e3 q e (by omega)]; exact h.hi q (by omega) h2
theorem Ins.done {less : Nat → Nat → Bool} {lt : Nat → Nat → Prop} (ho : Ord less lt) {a i j b : Nat} {f g : Nat → Nat} (h : Ins lt a i j f g) (hinc : ∀ p q, a ≤ p → p < q → q < b → f p < f q) (hib : i < b) (hl : a < j → less (g j) (g (j - 1)) = false) : Mix a (i + 1) f g ∧ Asc' lt a (i + 1) g := by
  refine ⟨h.mix, fun p q h1 h2 h3 => ?_⟩
  by_cases e : p = j
  · rw [e]; exact h.hi q (by omega) (by omega)
  · by_cases e' : q = j
    · subst e'
      obtain ⟨r, hr1, hr2, er⟩ := h.oth (q - 1) (by omega) (by have := h.le; omega) (by omega)
      have hlast : lt (g (q - 1)) (g q) := ho.no _ _ (hl (by omega)) (by rw [er, h.at_]; exact hinc r i hr1 hr2 hib)
      by_cases e3 : p = q - 1
      · rw [e3]; exact hlast
      · exact ho.trans _ _ _ (h.up p (q - 1) h1 (by omega) (by have := h.le; omega) e (by omega)) hlast
    · exact h.up p q h1 h2 (by omega) e e'

/-! ### Ranges exchanged, blocks rotated -/
def swr (f : Nat → Nat) (a b n : Nat) : Nat → Nat := fun p => if a ≤ p ∧ p < a + n then f (p - a + b) else if b ≤ p ∧ p < b + n then f (p - b + a) else f p
theorem swr_zero (f : Nat → Nat) (a b : Nat) : swr f a b 0 = f := by
  funext p; simp only [swr]; rw [if_neg (by omega), if_neg (by omega)]
theorem swr_succ (f : Nat → Nat) (a b i n : Nat) (h : a + n ≤ b) (hi : i < n) : swp (swr f a b i) (a + i) (b + i) = swr f a b (i + 1) := by
  funext p
  simp only [swp, swr]
  by_cases h1 : p = a + i
  · subst h1
    rw [if_pos rfl, if_neg (by omega), if_neg (by omega), if_pos (by omega)]
    congr 1; omega
  · rw [if_neg h1]
    by_cases h2 : p = b + i
    · subst h2
      rw [if_pos rfl, if_neg (by omega), if_neg (by omega), if_neg (by omega), if_pos (by omega)]
      congr 1; omega
    · rw [if_neg h2]
      by_cases h3 : a ≤ p ∧ p < a + i
      · rw [if_pos h3, if_pos (by omega)]
      · rw [if_neg h3, if_neg (show ¬ (a ≤ p ∧ p < a + (i + 1)) by omega)]
        by_cases h4 : b ≤ p ∧ p < b + i
        · rw [if_pos h4, if_pos (by omega)]
        · rw [if_neg h4, if_neg (by omega)]
theorem swr_mix {lo hi a b n : Nat} (f : Nat → Nat) (h : a + n ≤ b) (h1 : lo ≤ a) (h2 : b + n ≤ hi) : Mix lo hi f (swr f a b n) := by
  have main : ∀ i, i ≤ n → Mix lo hi f (swr f a b i) := by
    intro i
    induction i with
    | zero => intro _; rw [swr_zero]; exact Mix.refl _ _ _
    | succ i ih =>
      intro hi
      rw [← swr_succ f a b i n h (by omega)]
      exact (ih (by omega)).trans (swp_mix _ (by omega) (by omega) (by omega) (by omega))
  exact main n (Nat.le_refl _)
def rot (f : Nat → Nat) (a m b : Nat) : Nat → Nat := fun p => if p < a ∨ b ≤ p then f p else if p < a + (b - m) then f (p + (m - a)) else f (p - (b - m))
theorem rot_big (f : Nat → Nat) (m i j : Nat) (h : j < i) (hm : i ≤ m) : rot f (m - i) m (m + j) = rot (swr f (m - i) m j) (m - (i - j)) m (m + j) := by
  funext p
  simp only [rot, swr]
  by_cases h1 : p < m - i ∨ m + j ≤ p
  · rw [if_pos h1, if_pos (by omega), if_neg (by omega), if_neg (by omega)]
  · rw [if_neg h1]
    by_cases h2 : p < m - i + j
    · rw [if_pos (by omega), if_pos (by omega), if_pos (by omega)]
      congr 1; omega
    · rw [if_neg (by omega), if_neg (show ¬ (p < m - (i - j) ∨ m + j ≤ p) by omega)]
      by_cases h3 : p < m - (i - j) + (m + j - m)
      · rw [if_pos h3, if_neg (by omega), if_pos (by omega)]
        congr 1; omega
      · rw [if_neg h3, if_neg (by omega), if_neg (by omega)]
theorem rot_small (f : Nat → Nat) (m i j : Nat) (h : i < j) (hm : i ≤ m) : rot f (m - i) m (m + j) = rot (swr f (m - i) (m + j - i) i) (m - i) m (m + (j - i)) := by
  funext p
  simp only [rot, swr]
  by_cases h1 : p < m - i ∨ m + j ≤ p
  · rw [if_pos h1, if_pos (by omega), if_neg (by omega), if_neg (by omega)]
  · rw [if_neg h1]
    by_cases h2 : p < m - i + (m + j - m)
    · rw [if_pos h2, if_neg (by omega)]
      by_cases h3 : p < m - i + (m + (j - i) - m)
      · rw [if_pos h3]
        rw [if_neg (by omega)]
        by_cases h4 : m + j - i ≤ p + (m - (m - i)) ∧ p + (m - (m - i)) < m + j - i + i
        · omega
        · rw [if_neg h4]
      · rw [if_neg h3, if_pos (by omega)]
        congr 1; omega
    · rw [if_neg h2]
      rw [if_pos (by omega), if_neg (by omega), if_pos (by omega)]
      congr 1; omega
theorem rot_same (f : Nat → Nat) (m i : Nat) (hm : i ≤ m) : rot f (m - i) m (m + i) = swr f (m - i) m i := by
  funext p
  simp only [rot, swr]
  by_cases h1 : p < m - i ∨ m + i ≤ p
  · rw [if_pos h1, if_neg (by omega), if_neg (by omega)]
  · rw [if_neg h1]
    by_cases h2 : p < m
    · rw [if_pos (by omega), if_pos (by omega)]
      congr 1; omega
    · rw [if_neg (by omega), if_neg (by omega), if_pos (by omega)]
      congr 1; omega
theorem rot_mix (f : Nat → Nat) (a m b : Nat) (h1 : a ≤ m) (h2 : m ≤ b) : Mix a b f (rot f a m b) := by
  refine ⟨fun p hp => by simp only [rot]; rw [if_pos hp], fun p hp hq => ?_, fun q hp hq => ?_⟩
  · simp only [rot]
    rw [if_neg (by omega)]
    by_cases h : p < a + (b - m)
    · rw [if_pos h]; exact ⟨_, by omega, by omega, rfl⟩
    · rw [if_neg h]; exact ⟨_, by omega, by omega, rfl⟩
  · by_cases h : q < m
    · refine ⟨q + (b - m), by omega, by omega, ?_⟩
      simp only [rot]
      rw [if_neg (by omega), if_neg (by omega)]
      congr 1; omega
    · refine ⟨q - (m - a), by omega, by omega, ?_⟩
      simp only [rot]
      rw [if_neg (by omega), if_pos (by omega)]
      congr 1; omega
end Go.Proofs.Ytocideolihbnaaa.Stab
