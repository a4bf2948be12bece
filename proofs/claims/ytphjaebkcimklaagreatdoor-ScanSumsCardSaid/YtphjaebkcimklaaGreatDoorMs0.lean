/- Texts put together: SPure SPure2. -/

/- The plain law of a stable sort by exchanges: insertion, search, rotation, merge. -/
set_option linter.unusedVariables false
namespace Go.Proofs.YtphjaebkcimklaaGreatDoor.Stab

/-- One order is another one's rearrangement between two places. -/
structure Mix (a b : Nat) (f g : Nat → Nat) : Prop where
  out : ∀ p, (p < a ∨ b ≤ p) → g p = f p
  fro : ∀ p, a ≤ p → p < b → ∃ q, a ≤ q ∧ q < b ∧ g p = f q
  to : ∀ q, a ≤ q → q < b → ∃ p, a ≤ p ∧ p < b ∧ g p = f q
theorem Mix.refl (a b : Nat) (f : Nat → Nat) : Mix a b f f := ⟨fun _ _ => rfl, fun p h1 h2 => ⟨p, h1, h2, rfl⟩, fun p h1 h2 => ⟨p, h1, h2, rfl⟩⟩
theorem Mix.trans {a b : Nat} {f g h : Nat → Nat} (h1 : Mix a b f g) (h2 : Mix a b g h) : Mix a b f h := by
  refine ⟨fun p hp => (h2.out p hp).trans (h1.out p hp), fun p hp hq => ?_, fun q hp hq => ?_⟩
  · obtain ⟨q, hq1, hq2, e⟩ := h2.fro p hp hq
    obtain ⟨r, hr1, hr2, e2⟩ := h1.fro q hq1 hq2
    exact ⟨r, hr1, hr2, e.trans e2⟩
  · obtain ⟨p, hp1, hp2, e⟩ := h1.to q hp hq
    obtain ⟨r, hr1, hr2, e2⟩ := h2.to p hp1 hp2
    exact ⟨r, hr1, hr2, e2.trans e⟩
theorem Mix.wide {a b a' b' : Nat} {f g : Nat → Nat} (h : Mix a b f g) (ha : a' ≤ a) (hb : b ≤ b') : Mix a' b' f g := by
  refine ⟨fun p hp => h.out p (by omega), fun p hp hq => ?_, fun q hp hq => ?_⟩
  · by_cases hin : a ≤ p ∧ p < b
    · obtain ⟨q, h1, h2, e⟩ := h.fro p hin.1 hin.2
      exact ⟨q, by omega, by omega, e⟩
    · exact ⟨p, hp, hq, h.out p (by omega)⟩
  · by_cases hin : a ≤ q ∧ q < b
    · obtain ⟨p, h1, h2, e⟩ := h.to q hin.1 hin.2
      exact ⟨p, by omega, by omega, e⟩
    · exact ⟨q, hp, hq, h.out q (by omega)⟩
/-- Two exchanged. -/
def swp (f : Nat → Nat) (i j : Nat) : Nat → Nat := fun p => if p = i then f j else if p = j then f i else f p
theorem swp_mix {a b i j : Nat} (f : Nat → Nat) (h1 : a ≤ i) (h2 : i < b) (h3 : a ≤ j) (h4 : j < b) : Mix a b f (swp f i j) := by
  refine ⟨fun p hp => ?_, fun p hp hq => ?_, fun q hp hq => ?_⟩
  · simp only [swp]; rw [if_neg (by omega), if_neg (by omega)]
  · simp only [swp]
    by_cases e : p = i
    · rw [if_pos e]; exact ⟨j, h3, h4, rfl⟩
    · rw [if_neg e]
      by_cases e2 : p = j
      · rw [if_pos e2]; exact ⟨i, h1, h2, rfl⟩
      · rw [if_neg e2]; exact ⟨p, hp, hq, rfl⟩
  · by_cases e : q = j
    · exact ⟨i, h1, h2, by simp [swp, e]⟩
    · by_cases e2 : q = i
      · refine ⟨j, h3, h4, ?_⟩
        simp only [swp]
        by_cases e3 : j = i
        · rw [if_pos e3, e2, e3]
        · rw [if_neg e3, if_pos trivial, e2]
      · exact ⟨q, hp, hq, by simp [swp, e, e2]⟩

/-- What is told of two, and the order that it stands for. -/
structure Ord (less : Nat → Nat → Bool) (lt : Nat → Nat → Prop) : Prop where
  yes : ∀ x y, less x y = true → lt x y
  no : ∀ x y, less x y = false → y < x → lt y x
  trans : ∀ x y z, lt x y → lt y z → lt x z
def Asc' (lt : Nat → Nat → Prop) (a b : Nat) (f : Nat → Nat) : Prop := ∀ p q, a ≤ p → p < q → q < b → lt (f p) (f q)

/-! ### Insertion -/
structure Ins (lt : Nat → Nat → Prop) (a i j : Nat) (f g : Nat → Nat) : Prop where
  ge : a ≤ j
  le : j ≤ i
  mix : Mix a (i + 1) f g
  at_ : g j = f i
  oth : ∀ p, a ≤ p → p ≤ i → p ≠ j → ∃ q, a ≤ q ∧ q < i ∧ g p = f q
  up : ∀ p q, a ≤ p → p < q → q ≤ i → p ≠ j → q ≠ j → lt (g p) (g q)
  hi : ∀ q, j < q → q ≤ i → lt (g j) (g q)
theorem Ins.start {lt : Nat → Nat → Prop} {a i : Nat} {f g : Nat → Nat} (hm : Mix a i f g) (hu : Asc' lt a i g) (ha : a ≤ i) : Ins lt a i i f g :=
  ⟨ha, Nat.le_refl _, hm.wide (Nat.le_refl _) (by omega), hm.out i (by omega), fun p h1 h2 h3 => hm.fro p h1 (by omega), fun p q h1 h2 h3 h4 h5 => hu p q h1 h2 (by omega), fun q h1 h2 => by omega⟩
theorem Ins.step {less : Nat → Nat → Bool} {lt : Nat → Nat → Prop} (ho : Ord less lt) {a i j : Nat} {f g : Nat → Nat} (h : Ins lt a i j f g) (hj : a < j) (hl : less (g j) (g (j - 1)) = true) : Ins lt a i (j - 1) f (swp g j (j - 1)) := by
  have hle := h.le
  have e1 : swp g j (j - 1) (j - 1) = g j := by simp only [swp]; rw [if_neg (by omega), if_pos trivial]
  have e2 : swp g j (j - 1) j = g (j - 1) := by simp only [swp]; rw [if_pos trivial]
  have e3 : ∀ p, p ≠ j → p ≠ j - 1 → swp g j (j - 1) p = g p := fun p h1 h2 => by simp only [swp]; rw [if_neg h1, if_neg h2]
  refine ⟨by omega, by omega, h.mix.trans (swp_mix g (by omega) (by omega) (by omega) (by omega)), by rw [e1, h.at_], fun p h1 h2 h3 => ?_, fun p q h1 h2 h3 h4 h5 => ?_, fun q h1 h2 => ?_⟩
  · by_cases e : p = j
    · rw [e, e2]; exact h.oth (j - 1) (by omega) (by omega) (by omega)
    · rw [e3 p e h3]; exact h.oth p h1 h2 e
  · by_cases e : p = j
    · rw [e, e2, e3 q (by omega) h5]; exact h.up (j - 1) q (by omega) (by omega) h3 (by omega) (by omega)
    · rw [e3 p e h4]
      by_cases e' : q = j
      · rw [e', e2]; exact h.up p (j - 1) h1 (by omega) (by omega) e (by omega)
      · rw [e3 q e' h5]; exact h.up p q h1 h2 h3 e e'
  · rw [e1]
    by_cases e : q = j
    · rw [e, e2]; exact ho.yes _ _ hl
    · rw [e3 q e (by omega)]; exact h.hi q (by omega) h2
theorem Ins.done {less : Nat → Nat → Bool} {lt : Nat → Nat → Prop} (ho : Ord less lt) {a i j b : Nat} {f g : Nat → Nat} (h : Ins lt a i j f g) (hinc : ∀ p q, a ≤ p → p < q → q < b → f p < f q) (hib : i < b) (hl : a < j → less (g j) (g (j - 1)) = false) : Mix a (i + 1) f g ∧ Asc' lt a (i + 1) g := by
  refine ⟨h.mix, fun p q h1 h2 h3 => ?_⟩
  by_cases e : p = j
  · rw [e]; exact h.hi q (by omega) (by omega)
  · by_cases e' : q = j
    · subst e'
      obtain ⟨r, hr1, hr2, er⟩ := h.oth (q - 1) (by omega) (by have := h.le; omega) (by omega)
      have hlast : lt (g (q - 1)) (g q) := ho.no _ _ (hl (by omega)) (by rw [er, h.at_]; exact hinc r i hr1 hr2 hib)
      by_cases e3 : p = q - 1
      · rw [e3]; exact hlast
      · exact ho.trans _ _ _ (h.up p (q - 1) h1 (by omega) (by have := h.le; omega) e (by omega)) hlast
    · exact h.up p q h1 h2 (by omega) e e'

/-! ### Ranges exchanged, blocks rotated -/
def swr (f : Nat → Nat) (a b n : Nat) : Nat → Nat := fun p => if a ≤ p ∧ p < a + n then f (p - a + b) else if b ≤ p ∧ p < b + n then f (p - b + a) else f p
theorem swr_zero (f : Nat → Nat) (a b : Nat) : swr f a b 0 = f := by
  funext p; simp only [swr]; rw [if_neg (by omega), if_neg (by omega)]
theorem swr_succ (f : Nat → Nat) (a b i n : Nat) (h : a + n ≤ b) (hi : i < n) : swp (swr f a b i) (a + i) (b + i) = swr f a b (i + 1) := by
  funext p
  simp only [swp, swr]
  by_cases h1 : p = a + i
  · subst h1
    rw [if_pos rfl, if_neg (by omega), if_neg (by omega), if_pos (by omega)]
    congr 1; omega
  · rw [if_neg h1]
    by_cases h2 : p = b + i
    · subst h2
      rw [if_pos rfl, if_neg (by omega), if_neg (by omega), if_neg (by omega), if_pos (by omega)]
      congr 1; omega
    · rw [if_neg h2]
      by_cases h3 : a ≤ p ∧ p < a + i
      · rw [if_pos h3, if_pos (by omega)]
      · rw [if_neg h3, if_neg (show ¬ (a ≤ p ∧ p < a + (i + 1)) by omega)]
        by_cases h4 : b ≤ p ∧ p < b + i
        · rw [if_pos h4, if_pos (by omega)]
        · rw [if_neg h4, if_neg (by omega)]
theorem swr_mix {lo hi a b n : Nat} (f : Nat → Nat) (h : a + n ≤ b) (h1 : lo ≤ a) (h2 : b + n ≤ hi) : Mix lo hi f (swr f a b n) := by
  have main : ∀ i, i ≤ n → Mix lo hi f (swr f a b i) := by
    intro i
    induction i with
    | zero => intro _; rw [swr_zero]; exact Mix.refl _ _ _
    | succ i ih =>
      intro hi
      rw [← swr_succ f a b i n h (by omega)]
      exact (ih (by omega)).trans (swp_mix _ (by omega) (by omega) (by omega) (by omega))
  exact main n (Nat.le_refl _)
def rot (f : Nat → Nat) (a m b : Nat) : Nat → Nat := fun p => if p < a ∨ b ≤ p then f p else if p < a + (b - m) then f (p + (m - a)) else f (p - (b - m))
theorem rot_big (f : Nat → Nat) (m i j : Nat) (h : j < i) (hm : i ≤ m) : rot f (m - i) m (m + j) = rot (swr f (m - i) m j) (m - (i - j)) m (m + j) := by
  funext p
  simp only [rot, swr]
  by_cases h1 : p < m - i ∨ m + j ≤ p
  · rw [if_pos h1, if_pos (by omega), if_neg (by omega), if_neg (by omega)]
  · rw [if_neg h1]
    by_cases h2 : p < m - i + j
    · rw [if_pos (by omega), if_pos (by omega), if_pos (by omega)]
      congr 1; omega
    · rw [if_neg (by omega), if_neg (show ¬ (p < m - (i - j) ∨ m + j ≤ p) by omega)]
      by_cases h3 : p < m - (i - j) + (m + j - m)
      · rw [if_pos h3, if_neg (by omega), if_pos (by omega)]
        congr 1; omega
      · rw [if_neg h3, if_neg (by omega), if_neg (by omega)]
theorem rot_small (f : Nat → Nat) (m i j : Nat) (h : i < j) (hm : i ≤ m) : rot f (m - i) m (m + j) = rot (swr f (m - i) (m + j - i) i) (m - i) m (m + (j - i)) := by
  funext p
  simp only [rot, swr]
  by_cases h1 : p < m - i ∨ m + j ≤ p
  · rw [if_pos h1, if_pos (by omega), if_neg (by omega), if_neg (by omega)]
  · rw [if_neg h1]
    by_cases h2 : p < m - i + (m + j - m)
    · rw [if_pos h2, if_neg (by omega)]
      by_cases h3 : p < m - i + (m + (j - i) - m)
      · rw [if_pos h3]
        rw [if_neg (by omega)]
        by_cases h4 : m + j - i ≤ p + (m - (m - i)) ∧ p + (m - (m - i)) < m + j - i + i
        · omega
        · rw [if_neg h4]
      · rw [if_neg h3, if_pos (by omega)]
        congr 1; omega
    · rw [if_neg h2]
      rw [if_pos (by omega), if_neg (by omega), if_pos (by omega)]
      congr 1; omega
theorem rot_same (f : Nat → Nat) (m i : Nat) (hm : i ≤ m) : rot f (m - i) m (m + i) = swr f (m - i) m i := by
  funext p
  simp only [rot, swr]
  by_cases h1 : p < m - i ∨ m + i ≤ p
  · rw [if_pos h1, if_neg (by omega), if_neg (by omega)]
  · rw [if_neg h1]
    by_cases h2 : p < m
    · rw [if_pos (by omega), if_pos (by omega)]
      congr 1; omega
    · rw [if_neg (by omega), if_neg (by omega), if_pos (by omega)]
      congr 1; omega
theorem rot_mix (f : Nat → Nat) (a m b : Nat) (h1 : a ≤ m) (h2 : m ≤ b) : Mix a b f (rot f a m b) := by
  refine ⟨fun p hp => by simp only [rot]; rw [if_pos hp], fun p hp hq => ?_, fun q hp hq => ?_⟩
  · simp only [rot]
    rw [if_neg (by omega)]
    by_cases h : p < a + (b - m)
    · rw [if_pos h]; exact ⟨_, by omega, by omega, rfl⟩
    · rw [if_neg h]; exact ⟨_, by omega, by omega, rfl⟩
  · by_cases h : q < m
    · refine ⟨q + (b - m), by omega, by omega, ?_⟩
      simp only [rot]
      rw [if_neg (by omega), if_neg (by omega)]
      congr 1; omega
    · refine ⟨q - (m - a), by omega, by omega, ?_⟩
      simp only [rot]
      rw [if_neg (by omega), if_pos (by omega)]
      congr 1; omega
end Go.Proofs.YtphjaebkcimklaaGreatDoor.Stab

/- The plain law of a merge by symmetric compares. -/
set_option linter.unusedVariables false
namespace Go.Proofs.YtphjaebkcimklaaGreatDoor.Stab

structure Pre (lt : Nat → Nat → Prop) (a m b : Nat) (f : Nat → Nat) : Prop where
  le1 : a ≤ m
  le2 : m ≤ b
  fst : Asc' lt a m f
  snd : Asc' lt m b f
  tag : ∀ p q, a ≤ p → p < m → m ≤ q → q < b → f p < f q
/-- What a merge does. -/
def Post (lt : Nat → Nat → Prop) (a b : Nat) (f g : Nat → Nat) : Prop := Mix a b f g ∧ Asc' lt a b g

section
variable {less : Nat → Nat → Bool} {lt : Nat → Nat → Prop} (ho : Ord less lt) (hirr : ∀ x, ¬ lt x x)
include ho hirr
theorem less_of {x y : Nat} (h : lt x y) (ht : y < x) : less x y = true := by
  cases e : less x y with
  | true => rfl
  | false => exact absurd (ho.trans _ _ _ h (ho.no _ _ e ht)) (hirr x)
theorem less_not {x y : Nat} (h : lt y x) : less x y = false := by
  cases e : less x y with
  | false => rfl
  | true => exact absurd (ho.trans _ _ _ h (ho.yes _ _ e)) (hirr y)

/-! ### One on the left -/
structure Cut1 (less : Nat → Nat → Bool) (f : Nat → Nat) (a m b i j : Nat) : Prop where
  ge : m ≤ i
  le : i ≤ j
  top : j ≤ b
  lo : ∀ p, m ≤ p → p < i → less (f p) (f a) = true
  hi : ∀ p, j ≤ p → p < b → less (f p) (f a) = false
omit ho hirr in
theorem Cut1.start {f : Nat → Nat} {a m b : Nat} (h : m ≤ b) : Cut1 less f a m b m b := ⟨Nat.le_refl _, h, Nat.le_refl _, fun p h1 h2 => by omega, fun p h1 h2 => by omega⟩
theorem Cut1.up {f : Nat → Nat} {a m b i j h : Nat} (hc : Cut1 less f a m b i j) (hp : Pre lt a m b f) (ham : a < m) (h1 : i ≤ h) (h2 : h < j) (hl : less (f h) (f a) = true) : Cut1 less f a m b (h + 1) j := by
  have := hc.ge; have := hc.top
  refine ⟨by omega, by omega, hc.top, fun p hp1 hp2 => ?_, hc.hi⟩
  by_cases e : p = h
  · rw [e]; exact hl
  · exact less_of ho hirr (ho.trans _ _ _ (hp.snd p h hp1 (by omega) (by omega)) (ho.yes _ _ hl)) (hp.tag a p (Nat.le_refl _) ham hp1 (by omega))
theorem Cut1.dn {f : Nat → Nat} {a m b i j h : Nat} (hc : Cut1 less f a m b i j) (hp : Pre lt a m b f) (ham : a < m) (h1 : i ≤ h) (h2 : h < j) (hl : less (f h) (f a) = false) : Cut1 less f a m b i h := by
  have := hc.ge; have := hc.top
  refine ⟨hc.ge, h1, by omega, hc.lo, fun p hp1 hp2 => ?_⟩
  by_cases e : p = h
  · rw [e]; exact hl
  · exact less_not ho hirr (ho.trans _ _ _ (ho.no _ _ hl (hp.tag a h (Nat.le_refl _) ham (by omega) (by omega))) (hp.snd h p (by omega) (by omega) hp2))
def mvr (f : Nat → Nat) (a k : Nat) : Nat → Nat := fun p => if a ≤ p ∧ p < k then f (p + 1) else if p = k then f a else f p
omit ho hirr in
theorem mvr_zero (f : Nat → Nat) (a : Nat) : mvr f a a = f := by
  funext p; simp only [mvr]; rw [if_neg (by omega)]
  by_cases e : p = a
  · rw [if_pos e, e]
  · rw [if_neg e]
omit ho hirr in
theorem mvr_succ (f : Nat → Nat) (a k : Nat) (h : a ≤ k) : swp (mvr f a k) k (k + 1) = mvr f a (k + 1) := by
  funext p
  simp only [swp, mvr]
  by_cases h1 : p = k
  · subst h1; rw [if_pos rfl, if_neg (by omega), if_neg (by omega), if_pos (by omega)]
  · rw [if_neg h1]
    by_cases h2 : p = k + 1
    · subst h2; rw [if_pos rfl, if_neg (by omega), if_pos trivial, if_neg (by omega), if_pos rfl]
    · rw [if_neg h2, if_neg h2]
      by_cases h3 : a ≤ p ∧ p < k
      · rw [if_pos h3, if_pos (by omega)]
      · rw [if_neg h3, if_neg h1, if_neg (by omega)]
omit ho hirr in
theorem mvr_mix {b : Nat} (f : Nat → Nat) (a k : Nat) (h : a ≤ k) (hb : k < b) : Mix a b f (mvr f a k) := by
  have main : ∀ d, a + d < b → Mix a b f (mvr f a (a + d)) := by
    intro d
    induction d with
    | zero => intro _; rw [Nat.add_zero, mvr_zero]; exact Mix.refl _ _ _
    | succ d ih =>
      intro hd
      rw [show a + (d + 1) = a + d + 1 by omega, ← mvr_succ f a (a + d) (by omega)]
      exact (ih (by omega)).trans (swp_mix _ (by omega) (by omega) (by omega) (by omega))
  have := main (k - a) (by omega)
  rwa [show a + (k - a) = k by omega] at this
omit hirr in
theorem Cut1.done {f : Nat → Nat} {a m b i : Nat} (hc : Cut1 less f a m b i i) (hp : Pre lt a m b f) (ham : m = a + 1) : Post lt a b f (mvr f a (i - 1)) := by
  have := hc.ge; have := hc.top
  refine ⟨mvr_mix f a (i - 1) (by omega) (by omega), fun p q h1 h2 h3 => ?_⟩
  have e1 : ∀ p, a ≤ p → p < i - 1 → mvr f a (i - 1) p = f (p + 1) := fun p h1 h2 => by simp only [mvr]; rw [if_pos ⟨h1, h2⟩]
  have e2 : mvr f a (i - 1) (i - 1) = f a := by simp only [mvr]; rw [if_neg (by omega), if_pos trivial]
  have e3 : ∀ p, i - 1 < p → mvr f a (i - 1) p = f p := fun p h => by simp only [mvr]; rw [if_neg (by omega), if_neg (by omega)]
  have k1 : ∀ p, a ≤ p → p < i - 1 → lt (f (p + 1)) (f a) := fun p h1 h2 => ho.yes _ _ (hc.lo (p + 1) (by omega) (by omega))
  have k2 : ∀ q, i - 1 < q → q < b → lt (f a) (f q) := fun q h1 h2 => ho.no _ _ (hc.hi q (by omega) h2) (hp.tag a q (Nat.le_refl _) (by omega) (by omega) h2)
  rcases Nat.lt_trichotomy p (i - 1) with hp' | hp' | hp'
  · rw [e1 p h1 hp']
    rcases Nat.lt_trichotomy q (i - 1) with hq | hq | hq
    · rw [e1 q (by omega) hq]; exact hp.snd _ _ (by omega) (by omega) (by omega)
    · rw [hq, e2]; exact k1 p h1 hp'
    · rw [e3 q hq]; exact ho.trans _ _ _ (k1 p h1 hp') (k2 q hq h3)
  · rw [hp', e2, e3 q (by omega)]; exact k2 q (by omega) h3
  · rw [e3 p hp', e3 q (by omega)]; exact hp.snd p q (by omega) h2 h3

/-! ### One on the right -/
structure Cut2 (less : Nat → Nat → Bool) (f : Nat → Nat) (a m i j : Nat) : Prop where
  ge : a ≤ i
  le : i ≤ j
  top : j ≤ m
  lo : ∀ p, a ≤ p → p < i → less (f m) (f p) = false
  hi : ∀ p, j ≤ p → p < m → less (f m) (f p) = true
omit ho hirr in
theorem Cut2.start {f : Nat → Nat} {a m : Nat} (h : a ≤ m) : Cut2 less f a m a m := ⟨Nat.le_refl _, h, Nat.le_refl _, fun p h1 h2 => by omega, fun p h1 h2 => by omega⟩
theorem Cut2.up {f : Nat → Nat} {a m b i j h : Nat} (hc : Cut2 less f a m i j) (hp : Pre lt a m b f) (hmb : m < b) (h1 : i ≤ h) (h2 : h < j) (hl : less (f m) (f h) = false) : Cut2 less f a m (h + 1) j := by
  have := hc.ge; have := hc.top
  refine ⟨by omega, by omega, hc.top, fun p hp1 hp2 => ?_, hc.hi⟩
  by_cases e : p = h
  · rw [e]; exact hl
  · exact less_not ho hirr (ho.trans _ _ _ (hp.fst p h hp1 (by omega) (by omega)) (ho.no _ _ hl (hp.tag h m (by omega) (by omega) (Nat.le_refl _) hmb)))
theorem Cut2.dn {f : Nat → Nat} {a m b i j h : Nat} (hc : Cut2 less f a m i j) (hp : Pre lt a m b f) (hmb : m < b) (h1 : i ≤ h) (h2 : h < j) (hl : less (f m) (f h) = true) : Cut2 less f a m i h := by
  have := hc.ge; have := hc.top
  refine ⟨hc.ge, h1, by omega, hc.lo, fun p hp1 hp2 => ?_⟩
  by_cases e : p = h
  · rw [e]; exact hl
  · exact less_of ho hirr (ho.trans _ _ _ (ho.yes _ _ hl) (hp.fst h p (by omega) (by omega) hp2)) (hp.tag p m (by omega) hp2 (Nat.le_refl _) hmb)
def mvl (f : Nat → Nat) (m k : Nat) : Nat → Nat := fun p => if k < p ∧ p ≤ m then f (p - 1) else if p = k then f m else f p
omit ho hirr in
theorem mvl_zero (f : Nat → Nat) (m : Nat) : mvl f m m = f := by
  funext p; simp only [mvl]; rw [if_neg (by omega)]
  by_cases e : p = m
  · rw [if_pos e, e]
  · rw [if_neg e]
omit ho hirr in
theorem mvl_succ (f : Nat → Nat) (m k : Nat) (h : k ≤ m) (h0 : 0 < k) : swp (mvl f m k) k (k - 1) = mvl f m (k - 1) := by
  funext p
  simp only [swp, mvl]
  by_cases h1 : p = k
  · subst h1; rw [if_pos rfl, if_neg (by omega), if_neg (by omega), if_pos (by omega)]
  · rw [if_neg h1]
    by_cases h2 : p = k - 1
    · rw [if_pos h2, if_neg (by omega), if_pos trivial, if_neg (by omega), if_pos h2]
    · rw [if_neg h2, if_neg h2]
      by_cases h3 : k < p ∧ p ≤ m
      · rw [if_pos h3, if_pos (by omega)]
      · rw [if_neg h3, if_neg h1, if_neg (by omega)]
omit ho hirr in
theorem mvl_mix {a b : Nat} (f : Nat → Nat) (m k : Nat) (h : k ≤ m) (ha : a ≤ k) (hb : m < b) : Mix a b f (mvl f m k) := by
  have main : ∀ d, a + d ≤ m → Mix a b f (mvl f m (m - d)) := by
    intro d
    induction d with
    | zero => intro _; rw [Nat.sub_zero, mvl_zero]; exact Mix.refl _ _ _
    | succ d ih =>
      intro hd
      rw [show m - (d + 1) = m - d - 1 by omega, ← mvl_succ f m (m - d) (by omega) (by omega)]
      exact (ih (by omega)).trans (swp_mix _ (by omega) (by omega) (by omega) (by omega))
  have := main (m - k) (by omega)
  rwa [show m - (m - k) = k by omega] at this
omit hirr in
theorem Cut2.done {f : Nat → Nat} {a m b i : Nat} (hc : Cut2 less f a m i i) (hp : Pre lt a m b f) (hmb : b = m + 1) : Post lt a b f (mvl f m i) := by
  have := hc.ge; have := hc.top
  refine ⟨mvl_mix f m i (by omega) hc.ge (by omega), fun p q h1 h2 h3 => ?_⟩
  have e1 : ∀ p, i < p → p ≤ m → mvl f m i p = f (p - 1) := fun p h1 h2 => by simp only [mvl]; rw [if_pos ⟨h1, h2⟩]
  have e2 : mvl f m i i = f m := by simp only [mvl]; rw [if_neg (by omega), if_pos trivial]
  have e3 : ∀ p, p < i → mvl f m i p = f p := fun p h => by simp only [mvl]; rw [if_neg (by omega), if_neg (by omega)]
  have k1 : ∀ p, a ≤ p → p < i → lt (f p) (f m) := fun p h1 h2 => ho.no _ _ (hc.lo p h1 h2) (hp.tag p m h1 (by omega) (Nat.le_refl _) (by omega))
  have k2 : ∀ q, i < q → q ≤ m → lt (f m) (f (q - 1)) := fun q h1 h2 => ho.yes _ _ (hc.hi (q - 1) (by omega) (by omega))
  rcases Nat.lt_trichotomy p i with hp' | hp' | hp'
  · rw [e3 p hp']
    rcases Nat.lt_trichotomy q i with hq | hq | hq
    · rw [e3 q hq]; exact hp.fst p q h1 h2 (by omega)
    · rw [hq, e2]; exact k1 p h1 hp'
    · rw [e1 q hq (by omega)]; exact hp.fst p (q - 1) h1 (by omega) (by omega)
  · rw [hp', e2, e1 q (by omega) (by omega)]; exact k2 q (by omega) (by omega)
  · rw [e1 p hp' (by omega), e1 q (by omega) (by omega)]; exact hp.fst _ _ (by omega) (by omega) (by omega)

/-! ### The cut of two, and the rest -/
omit ho hirr in
/-- Where the search begins and ends. -/
def lo0 (a m b mid : Nat) : Nat := if mid < m then mid + m - b else a
omit ho hirr in
def hi0 (m mid : Nat) : Nat := if mid < m then mid else m
structure Cut3 (less : Nat → Nat → Bool) (f : Nat → Nat) (a m b mid s r : Nat) : Prop where
  ge : lo0 a m b mid ≤ s
  le : s ≤ r
  top : r ≤ hi0 m mid
  lo : ∀ c, lo0 a m b mid ≤ c → c < s → less (f (mid + m - 1 - c)) (f c) = false
  hi : ∀ c, r ≤ c → c < hi0 m mid → less (f (mid + m - 1 - c)) (f c) = true
omit ho hirr in
theorem cut3_bounds {a m b mid : Nat} (ham : a < m) (hmb : m < b) (hmid : mid = (a + b) / 2) : lo0 a m b mid ≤ hi0 m mid ∧ a ≤ lo0 a m b mid ∧ hi0 m mid ≤ m ∧ hi0 m mid ≤ mid ∧ (∀ c, lo0 a m b mid ≤ c → c < hi0 m mid → m ≤ mid + m - 1 - c ∧ mid + m - 1 - c < b) ∧ mid + m ≤ b + lo0 a m b mid := by
  subst hmid
  unfold lo0 hi0
  by_cases h : (a + b) / 2 < m
  · simp only [if_pos h]
    exact ⟨by omega, by omega, by omega, by omega, fun c h1 h2 => by omega, by omega⟩
  · simp only [if_neg h]
    exact ⟨by omega, by omega, by omega, by omega, fun c h1 h2 => by omega, by omega⟩
omit ho hirr in
theorem Cut3.start {f : Nat → Nat} {a m b mid : Nat} (ham : a < m) (hmb : m < b) (hmid : mid = (a + b) / 2) : Cut3 less f a m b mid (lo0 a m b mid) (hi0 m mid) :=
  ⟨Nat.le_refl _, (cut3_bounds ham hmb hmid).1, Nat.le_refl _, fun c h1 h2 => by omega, fun c h1 h2 => by omega⟩
theorem Cut3.up {f : Nat → Nat} {a m b mid s r c : Nat} (hc : Cut3 less f a m b mid s r) (hp : Pre lt a m b f) (ham : a < m) (hmb : m < b) (hmid : mid = (a + b) / 2) (h1 : s ≤ c) (h2 : c < r) (hl : less (f (mid + m - 1 - c)) (f c) = false) : Cut3 less f a m b mid (c + 1) r := by
  obtain ⟨b1, b2, b3, b4, b5, b6⟩ := cut3_bounds ham hmb hmid
  have := hc.ge; have := hc.top
  have b5c := b5 c (by omega) (by omega)
  refine ⟨by omega, by omega, hc.top, fun d hd1 hd2 => ?_, hc.hi⟩
  by_cases e : d = c
  · rw [e]; exact hl
  · have b5d := b5 d hd1 (by omega)
    have e1 : lt (f c) (f (mid + m - 1 - c)) := ho.no _ _ hl (hp.tag c _ (by omega) (by omega) b5c.1 b5c.2)
    exact less_not ho hirr (ho.trans _ _ _ (ho.trans _ _ _ (hp.fst d c (by omega) (by omega) (by omega)) e1) (hp.snd _ _ b5c.1 (by omega) b5d.2))
theorem Cut3.dn {f : Nat → Nat} {a m b mid s r c : Nat} (hc : Cut3 less f a m b mid s r) (hp : Pre lt a m b f) (ham : a < m) (hmb : m < b) (hmid : mid = (a + b) / 2) (h1 : s ≤ c) (h2 : c < r) (hl : less (f (mid + m - 1 - c)) (f c) = true) : Cut3 less f a m b mid s c := by
  obtain ⟨b1, b2, b3, b4, b5, b6⟩ := cut3_bounds ham hmb hmid
  have := hc.ge; have := hc.top
  have b5c := b5 c (by omega) (by omega)
  refine ⟨hc.ge, h1, by omega, hc.lo, fun d hd1 hd2 => ?_⟩
  by_cases e : d = c
  · rw [e]; exact hl
  · have b5d := b5 d (by omega) hd2
    exact less_of ho hirr (ho.trans _ _ _ (ho.trans _ _ _ (hp.snd (mid + m - 1 - d) (mid + m - 1 - c) b5d.1 (by omega) b5c.2) (ho.yes _ _ hl)) (hp.fst c d (by omega) (by omega) (by omega))) (hp.tag d _ (by omega) (by omega) b5d.1 b5d.2)
omit ho hirr in
theorem rot_id {f : Nat → Nat} {s m e : Nat} (h : ¬ (s < m ∧ m < e)) (h1 : s ≤ m) (h2 : m ≤ e) : rot f s m e = f := by
  funext p
  simp only [rot]
  by_cases h3 : p < s ∨ e ≤ p
  · rw [if_pos h3]
  · rw [if_neg h3]
    by_cases h4 : p < s + (e - m)
    · rw [if_pos h4]; congr 1; omega
    · rw [if_neg h4]; congr 1; omega
/-- What the cut has brought. -/
structure Halves (lt : Nat → Nat → Prop) (a mid b s e : Nat) (f g : Nat → Nat) : Prop where
  le1 : a ≤ mid
  le2 : mid ≤ b
  mix : Mix a b f g
  fst : Pre lt a s mid g
  snd : Pre lt mid e b g
  cross : ∀ p q, a ≤ p → p < mid → mid ≤ q → q < b → lt (g p) (g q)
omit hirr in
theorem Cut3.done {f : Nat → Nat} {a m b mid s e : Nat} (hc : Cut3 less f a m b mid s s) (hp : Pre lt a m b f) (ham : a < m) (hmb : m < b) (hmid : mid = (a + b) / 2) (he : e = mid + m - s) : s ≤ m ∧ m ≤ e ∧ Halves lt a mid b s e f (rot f s m e) := by
  obtain ⟨b1, b2, b3, b4, b5, b6⟩ := cut3_bounds ham hmb hmid
  have hge := hc.ge; have htop := hc.top
  have hsm : s ≤ m := by omega
  have hme : m ≤ e := by omega
  have heb : e ≤ b := by omega
  have hes : s + (e - m) = mid := by omega
  have g1 : ∀ p, p < s → rot f s m e p = f p := fun p h => by simp only [rot]; rw [if_pos (Or.inl h)]
  have g2 : ∀ p, s ≤ p → p < mid → rot f s m e p = f (p + (m - s)) := fun p h h' => by simp only [rot]; rw [if_neg (by omega), if_pos (by omega)]
  have g3 : ∀ p, mid ≤ p → p < e → rot f s m e p = f (p - (e - m)) := fun p h h' => by simp only [rot]; rw [if_neg (by omega), if_neg (by omega)]
  have g4 : ∀ p, e ≤ p → rot f s m e p = f p := fun p h => by simp only [rot]; rw [if_pos (Or.inr h)]
  -- between the cuts
  have c1 : ∀ p q, a ≤ p → p < s → e ≤ q → q < b → lt (f p) (f q) := by
    intro p q h1 h2 h3 h4
    by_cases h5 : lo0 a m b mid < s
    · have h6 := hc.lo (s - 1) (by omega) (by omega)
      have b5c := b5 (s - 1) (by omega) (by omega)
      rw [show mid + m - 1 - (s - 1) = e by omega] at h6 b5c
      have h7 : lt (f (s - 1)) (f e) := ho.no _ _ h6 (hp.tag _ _ (by omega) (by omega) b5c.1 b5c.2)
      have h8 : lt (f p) (f e) := by
        by_cases e1 : p = s - 1
        · rw [e1]; exact h7
        · exact ho.trans _ _ _ (hp.fst p (s - 1) h1 (by omega) (by omega)) h7
      by_cases e2 : q = e
      · rw [e2]; exact h8
      · exact ho.trans _ _ _ h8 (hp.snd e q hme (by omega) h4)
    · by_cases h : mid < m
      · have : lo0 a m b mid = mid + m - b := by unfold lo0; rw [if_pos h]
        omega
      · have : lo0 a m b mid = a := by unfold lo0; rw [if_neg h]
        omega
  have c2 : ∀ p q, m ≤ p → p < e → s ≤ q → q < m → lt (f p) (f q) := by
    intro p q h1 h2 h3 h4
    by_cases h5 : s < hi0 m mid
    · have h6 := hc.hi s (by omega) h5
      have b5c := b5 s (by omega) h5
      rw [show mid + m - 1 - s = e - 1 by omega] at h6 b5c
      have h7 := ho.yes _ _ h6
      have h8 : lt (f p) (f s) := by
        by_cases e1 : p = e - 1
        · rw [e1]; exact h7
        · exact ho.trans _ _ _ (hp.snd p (e - 1) h1 (by omega) b5c.2) h7
      by_cases e2 : q = s
      · rw [e2]; exact h8
      · exact ho.trans _ _ _ h8 (hp.fst s q (by omega) (by omega) h4)
    · by_cases h : mid < m
      · have : hi0 m mid = mid := by unfold hi0; rw [if_pos h]
        omega
      · have : hi0 m mid = m := by unfold hi0; rw [if_neg h]
        omega
  refine ⟨hsm, hme, by omega, by omega, (rot_mix f s m e hsm hme).wide (by omega) heb, ⟨by omega, by omega, ?_, ?_, ?_⟩, ⟨by omega, heb, ?_, ?_, ?_⟩, ?_⟩
  · intro p q h1 h2 h3
    rw [g1 p (by omega), g1 q h3]; exact hp.fst p q h1 h2 (by omega)
  · intro p q h1 h2 h3
    rw [g2 p h1 (by omega), g2 q (by omega) h3]; exact hp.snd _ _ (by omega) (by omega) (by omega)
  · intro p q h1 h2 h3 h4
    rw [g1 p h2, g2 q h3 h4]; exact hp.tag _ _ h1 (by omega) (by omega) (by omega)
  · intro p q h1 h2 h3
    rw [g3 p h1 (by omega), g3 q (by omega) h3]; exact hp.fst _ _ (by omega) (by omega) (by omega)
  · intro p q h1 h2 h3
    rw [g4 p h1, g4 q (by omega)]; exact hp.snd p q (by omega) h2 h3
  · intro p q h1 h2 h3 h4
    rw [g3 p h1 h2, g4 q h3]; exact hp.tag _ _ (by omega) (by omega) (by omega) h4
  · intro p q h1 h2 h3 h4
    by_cases hps : p < s
    · rw [g1 p hps]
      by_cases hqe : q < e
      · rw [g3 q h3 hqe]; exact hp.fst _ _ h1 (by omega) (by omega)
      · rw [g4 q (by omega)]; exact c1 p q h1 hps (by omega) h4
    · rw [g2 p (by omega) h2]
      by_cases hqe : q < e
      · rw [g3 q h3 hqe]; exact c2 _ _ (by omega) (by omega) (by omega) (by omega)
      · rw [g4 q (by omega)]; exact hp.snd _ _ (by omega) (by omega) h4
omit ho hirr in
theorem Halves.done {f g g1 g2 : Nat → Nat} {a mid b s e : Nat} (h : Halves lt a mid b s e f g) (h1 : Post lt a mid g g1) (h2 : Post lt mid b g1 g2) : Post lt a b f g2 := by
  have := h.le1; have := h.le2
  refine ⟨(h.mix.trans (h1.1.wide (Nat.le_refl _) h.le2)).trans (h2.1.wide h.le1 (Nat.le_refl _)), fun p q hp hpq hq => ?_⟩
  by_cases hqm : q < mid
  · rw [h2.1.out p (by omega), h2.1.out q (by omega)]; exact h1.2 p q hp hpq hqm
  · by_cases hpm : p < mid
    · rw [h2.1.out p (by omega)]
      obtain ⟨p', e1, e2, ep⟩ := h1.1.fro p hp hpm
      obtain ⟨q', e3, e4, eq⟩ := h2.1.fro q (by omega) hq
      rw [ep, eq, h1.1.out q' (by omega)]
      exact h.cross p' q' e1 e2 e3 e4
    · exact h2.2 p q (by omega) hpq hq
omit ho hirr in
theorem Halves.right {f g g1 : Nat → Nat} {a mid b s e : Nat} (h : Halves lt a mid b s e f g) (h1 : Mix a mid g g1) : Pre lt mid e b g1 := by
  have hp := h.snd
  have := hp.le1
  have e1 : ∀ p, mid ≤ p → g1 p = g p := fun p hp => h1.out p (by omega)
  refine ⟨hp.le1, hp.le2, fun p q a1 a2 a3 => ?_, fun p q a1 a2 a3 => ?_, fun p q a1 a2 a3 a4 => ?_⟩
  · rw [e1 p a1, e1 q (by omega)]; exact hp.fst p q a1 a2 a3
  · rw [e1 p (by omega), e1 q (by omega)]; exact hp.snd p q a1 a2 a3
  · rw [e1 p (by omega), e1 q (by omega)]; exact hp.tag p q a1 a2 a3 a4
omit ho hirr in
/-- A half with nothing on one side is in order. -/
theorem Pre.one {f : Nat → Nat} {a m b : Nat} (h : Pre lt a m b f) (hn : ¬ (a < m ∧ m < b)) : Post lt a b f f := by
  refine ⟨Mix.refl _ _ _, fun p q h1 h2 h3 => ?_⟩
  have := h.le1; have := h.le2
  by_cases e : a < m
  · exact h.fst p q h1 h2 (by omega)
  · exact h.snd p q (by omega) h2 h3
end
end Go.Proofs.YtphjaebkcimklaaGreatDoor.Stab
