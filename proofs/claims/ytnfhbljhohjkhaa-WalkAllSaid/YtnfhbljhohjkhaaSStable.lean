/- The stable sort over a row of pairs. -/
import Derived.Test.YtnfhbljhohjkhaaSMerge
set_option linter.unusedVariables false
set_option linter.unusedSimpArgs false
namespace Go.Proofs.Ytnfhbljhohjkhaa
open Go.RowKit Stab

/-! ### Blocks, each in order -/
structure Blk (lt : Nat → Nat → Prop) (lo hi : Nat) (f : Nat → Nat) : Prop where
  asc : Asc' lt lo hi f
  own : ∀ p, lo ≤ p → p < hi → lo ≤ f p ∧ f p < hi
theorem Blk.congr {lt : Nat → Nat → Prop} {lo hi : Nat} {f g : Nat → Nat} (h : Blk lt lo hi f) (he : ∀ p, lo ≤ p → p < hi → g p = f p) : Blk lt lo hi g :=
  ⟨fun p q h1 h2 h3 => by rw [he p h1 (by omega), he q (by omega) h3]; exact h.asc p q h1 h2 h3, fun p h1 h2 => by rw [he p h1 h2]; exact h.own p h1 h2⟩
theorem Blk.pre {lt : Nat → Nat → Prop} {a m b : Nat} {f : Nat → Nat} (h1 : Blk lt a m f) (h2 : Blk lt m b f) (ha : a ≤ m) (hb : m ≤ b) : Pre lt a m b f :=
  ⟨ha, hb, h1.asc, h2.asc, fun p q h3 h4 h5 h6 => by have := h1.own p h3 h4; have := h2.own q h5 h6; omega⟩
theorem Blk.merged {lt : Nat → Nat → Prop} {a m b : Nat} {f g : Nat → Nat} (h1 : Blk lt a m f) (h2 : Blk lt m b f) (ha : a ≤ m) (hb : m ≤ b) (hp : Post lt a b f g) : Blk lt a b g := by
  refine ⟨hp.2, fun p h3 h4 => ?_⟩
  obtain ⟨q, hq1, hq2, e⟩ := hp.1.fro p h3 h4
  rw [e]
  by_cases hqm : q < m
  · have := h1.own q hq1 hqm; omega
  · have := h2.own q (by omega) hq2; omega
theorem Blk.fresh {lt : Nat → Nat → Prop} {a b : Nat} {f g : Nat → Nat} (hf : ∀ p, a ≤ p → p < b → f p = p) (hp : Post lt a b f g) : Blk lt a b g := by
  refine ⟨hp.2, fun p h3 h4 => ?_⟩
  obtain ⟨q, hq1, hq2, e⟩ := hp.1.fro p h3 h4
  rw [e, hf q hq1 hq2]; omega
inductive Chain (lt : Nat → Nat → Prop) (bs n : Nat) (f : Nat → Nat) : Nat → Prop
  | stop (lo : Nat) (h : n ≤ lo) : Chain lt bs n f lo
  | step (lo : Nat) (h : lo < n) (hb : Blk lt lo (min (lo + bs) n) f) (hc : Chain lt bs n f (lo + bs)) : Chain lt bs n f lo
theorem Chain.congr {lt : Nat → Nat → Prop} {bs n : Nat} {f g : Nat → Nat} {lo : Nat} (h : Chain lt bs n f lo) : (∀ p, lo ≤ p → g p = f p) → Chain lt bs n g lo := by
  induction h with
  | stop lo h => intro _; exact .stop lo h
  | step lo h hb hc ih => intro he; exact .step lo h (hb.congr fun p h1 _ => he p h1) (ih fun p h1 => he p (by omega))
theorem Chain.at_ {lt : Nat → Nat → Prop} {bs n : Nat} {f : Nat → Nat} {lo : Nat} (h : Chain lt bs n f lo) (hlt : lo < n) : Blk lt lo (min (lo + bs) n) f ∧ Chain lt bs n f (lo + bs) := by
  cases h with
  | stop _ h => omega
  | step _ h hb hc => exact ⟨hb, hc⟩
/-- What lies ahead of a place is done. -/
def Pref (lt : Nat → Nat → Prop) (bs n a : Nat) (f : Nat → Nat) : Prop := ∀ g : Nat → Nat, (∀ p, p < a → g p = f p) → Chain lt bs n g a → Chain lt bs n g 0
theorem Pref.zero (lt : Nat → Nat → Prop) (bs n : Nat) (f : Nat → Nat) : Pref lt bs n 0 f := fun g _ h => h
theorem Pref.step {lt : Nat → Nat → Prop} {bs n a b : Nat} {f g : Nat → Nat} (h : Pref lt bs n a f) (hb : b = a + bs) (hbn : b ≤ n) (h0 : 0 < bs) (hm : Mix a b f g) (hblk : Blk lt a b g) : Pref lt bs n b g := by
  intro k hk hc
  refine h k (fun p hp => (hk p (by omega)).trans (hm.out p (by omega))) (.step a (by omega) ?_ (by rw [← hb]; exact hc))
  rw [Nat.min_eq_left (by omega), ← hb]
  exact hblk.congr fun p _ h2 => hk p h2
/-- The last, short one. -/
theorem Pref.last {lt : Nat → Nat → Prop} {bs n a : Nat} {f g : Nat → Nat} (h : Pref lt bs n a f) (hbn : n < a + bs) (hm : Mix a n f g) (hblk : a < n → Blk lt a n g) : Chain lt bs n g 0 := by
  refine h g (fun p hp => hm.out p (by omega)) ?_
  by_cases ha : a < n
  · refine .step a ha ?_ (.stop _ (by omega))
    rw [Nat.min_eq_right (by omega)]
    exact hblk ha
  · exact .stop _ (by omega)

end Go.Proofs.Ytnfhbljhohjkhaa
