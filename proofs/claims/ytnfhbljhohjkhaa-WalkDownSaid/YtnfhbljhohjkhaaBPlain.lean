/- The plain law of the blends. -/
import Derived.Test.YtnfhbljhohjkhaaESplit
import Derived.Test.YtnfhbljhohjkhaaPSame
set_option linter.unusedVariables false
set_option linter.unusedSimpArgs false
namespace Go.Proofs.Ytnfhbljhohjkhaa
open Go.RowKit

theorem getM_filter (q : Bytes → Bool) : ∀ (A : Pairs) (key : Bytes), getM (A.filter fun p => q p.1) key = if q key = true then getM A key else none
  | [], key => by simp [getM]
  | (k, x) :: A, key => by
    have ih := getM_filter q A key
    rw [List.filter_cons]
    by_cases hk : k = key
    · subst hk
      by_cases hq : q k = true
      · rw [if_pos hq, if_pos hq, getM, getM, if_pos rfl, if_pos rfl]
      · rw [if_neg hq, ih, if_neg hq, if_neg hq]
    · by_cases hq : q k = true
      · rw [if_pos hq, getM, if_neg hk, ih, getM, if_neg hk]
      · rw [if_neg hq, ih, getM, if_neg hk]
theorem mem_getM : ∀ (A : Pairs) (k x : Bytes), getM A k = some x → (k, x) ∈ A
  | [], _, _, h => by cases h
  | (k', x') :: A, k, x, h => by
    rw [getM] at h
    by_cases hk : k' = k
    · rw [if_pos hk] at h
      cases h
      rw [hk]
      exact List.mem_cons_self ..
    · rw [if_neg hk] at h
      exact List.mem_cons_of_mem _ (mem_getM A k x h)

/-- A list that holds, at each key, what two lists tell of it. -/
def Blends (f : Option Bytes → Option Bytes → Option Bytes) (A B U : Pairs) : Prop := Asc U ∧ ∀ key, getM U key = f (getM A key) (getM B key)

theorem Blends.keys {f : Option Bytes → Option Bytes → Option Bytes} (h0 : f none none = none) {A B U : Pairs} (h : Blends f A B U) {P : Bytes → Prop} (hA : ∀ p ∈ A, P p.1) (hB : ∀ p ∈ B, P p.1) : ∀ p ∈ U, P p.1 := by
  intro p hp
  have h1 := getM_mem U p.1 p.2 h.1 hp
  rw [h.2] at h1
  cases ha : getM A p.1 with
  | some y => exact hA (p.1, y) (mem_getM A _ _ ha)
  | none =>
    cases hb : getM B p.1 with
    | some y => exact hB (p.1, y) (mem_getM B _ _ hb)
    | none => rw [ha, hb, h0] at h1; cases h1

def midL (k : Bytes) : Option Bytes → Pairs → Pairs
  | some v, R => (k, v) :: R
  | none, R => R

theorem blends_node {f : Option Bytes → Option Bytes → Option Bytes} (h0 : f none none = none) {A : Pairs} {l r : PT} {k x : Bytes} {L' R' : Pairs} (hB : Asc (PT.node l k x r).list)
    (hL : Blends f (lessM A k) l.list L') (hR : Blends f (moreM A k) r.list R') : Blends f A (PT.node l k x r).list (L' ++ midL k (f (getM A k) (some x)) R') := by
  obtain ⟨hl, hr, h1, h2⟩ := node_asc hB
  have kl : ∀ p ∈ L', cmp p.1 k = -1 := hL.keys h0 (P := fun a => cmp a k = -1) (fun p hp => by
    have := (List.mem_filter.1 hp).2
    simpa using this) h1
  have kr : ∀ p ∈ R', cmp k p.1 = -1 := hR.keys h0 (P := fun a => cmp k a = -1) (fun p hp => by
    have := (List.mem_filter.1 hp).2
    simpa using this) h2
  have flip : ∀ {a b : Bytes}, cmp a b = -1 → ¬ cmp b a = -1 := fun {a b} h h' => by
    have := cmp_neg a b
    rw [h, h'] at this; exact absurd this (by decide)
  have asc : Asc (L' ++ midL k (f (getM A k) (some x)) R') := by
    refine List.pairwise_append.2 ⟨hL.1, ?_, ?_⟩
    · cases f (getM A k) (some x) with
      | none => exact hR.1
      | some v => exact List.pairwise_cons.2 ⟨fun p hp => kr p hp, hR.1⟩
    · intro p hp q hq
      have hpk := kl p hp
      cases hm : f (getM A k) (some x) with
      | none => rw [hm] at hq; exact cmp_lt_trans _ _ _ hpk (kr q hq)
      | some v =>
        rw [hm] at hq
        rcases List.mem_cons.1 hq with rfl | hq
        · exact hpk
        · exact cmp_lt_trans _ _ _ hpk (kr q hq)
  have less : ∀ key, getM (lessM A k) key = if cmp key k = -1 then getM A key else none := fun key => by
    have := getM_filter (fun a => decide (cmp a k = -1)) A key
    simpa [lessM] using this
  have more : ∀ key, getM (moreM A k) key = if cmp k key = -1 then getM A key else none := fun key => by
    have := getM_filter (fun a => decide (cmp k a = -1)) A key
    simpa [moreM] using this
  refine ⟨asc, fun key => ?_⟩
  show _ = f (getM A key) (getM (l.list ++ (k, x) :: r.list) key)
  rcases cmp_cases key k with hlt | rfl | hgt
  · have hk : ¬ k = key := fun e => cmp_ne hlt e.symm
    have hr' : ∀ q ∈ r.list, q.1 ≠ key := fun q hq e => by
      have := h2 q hq
      rw [e] at this; exact flip hlt this
    have hR' : ∀ q ∈ R', q.1 ≠ key := fun q hq e => by
      have := kr q hq
      rw [e] at this; exact flip hlt this
    rw [getM_ahead L' _ key (by
      intro q hq e
      cases hm : f (getM A k) (some x) with
      | none => rw [hm] at hq; exact hR' q hq e
      | some v =>
        rw [hm] at hq
        rcases List.mem_cons.1 hq with rfl | hq
        · exact hk e
        · exact hR' q hq e), hL.2, less, if_pos hlt]
    rw [getM_ahead l.list _ key (by
      intro q hq e
      rcases List.mem_cons.1 hq with rfl | hq
      · exact hk e
      · exact hr' q hq e)]
  · have hl' : ∀ q ∈ l.list, q.1 ≠ key := fun q hq => cmp_ne (h1 q hq)
    have hL' : ∀ q ∈ L', q.1 ≠ key := fun q hq => cmp_ne (kl q hq)
    rw [getM_past L' _ key hL', getM_past l.list _ key hl']
    have e2 : getM ((key, x) :: r.list) key = some x := by rw [getM, if_pos rfl]
    rw [e2]
    cases f (getM A key) (some x) with
    | none => exact getM_none' R' key fun q hq e => cmp_ne (kr q hq) e.symm
    | some v => show getM ((key, v) :: R') key = _; rw [getM, if_pos rfl]
  · have hk : ¬ k = key := cmp_ne hgt
    have hl' : ∀ q ∈ l.list, q.1 ≠ key := fun q hq e => by
      have := h1 q hq
      rw [e] at this; exact flip hgt this
    have hL' : ∀ q ∈ L', q.1 ≠ key := fun q hq e => by
      have := kl q hq
      rw [e] at this; exact flip hgt this
    have hmid : getM (midL k (f (getM A k) (some x)) R') key = getM R' key := by
      cases f (getM A k) (some x) with
      | none => rfl
      | some v => show getM ((k, v) :: R') key = _; rw [getM, if_neg hk]
    rw [getM_past L' _ key hL', hmid, hR.2, more, if_pos hgt, getM_past l.list _ key hl', getM, if_neg hk]

def fMinus (a b : Option Bytes) : Option Bytes := if b.isSome = true then none else a
def fUnion (a b : Option Bytes) : Option Bytes := match b with | some x => some x | none => a
def fBoth (b a : Option Bytes) : Option Bytes := if b.isSome = true then a else none
theorem blends_eq {f : Option Bytes → Option Bytes → Option Bytes} {A B U V : Pairs} (h : Blends f A B U) (h' : Blends f A B V) : U = V :=
  asc_ext U V h.1 h'.1 fun key => (h.2 key).trans (h'.2 key).symm

end Go.Proofs.Ytnfhbljhohjkhaa
