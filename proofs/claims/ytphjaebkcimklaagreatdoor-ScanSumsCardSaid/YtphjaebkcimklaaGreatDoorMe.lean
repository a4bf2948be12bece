/- Texts put together: ELess BPlain ECutPlain ECut ECutRef ESpanOpen FRef23. -/
import Derived.Test.YtphjaebkcimklaaGreatDoorTOpen
import Derived.Test.YtphjaebkcimklaaGreatDoorMs2
import Derived.Test.YtphjaebkcimklaaGreatDoorTRank3
/- The reference's Less: what of a map is less than a key, or more. -/
set_option linter.unusedVariables false
set_option linter.unusedSimpArgs false
namespace Go.Proofs.YtphjaebkcimklaaGreatDoor
open Go.RowKit

def lessM (M : Pairs) (key : Bytes) : Pairs := M.filter fun q => decide (cmp q.1 key = -1)
def moreM (M : Pairs) (key : Bytes) : Pairs := M.filter fun q => decide (cmp key q.1 = -1)
theorem filter_take (M : Pairs) (p : Bytes × Bytes → Bool) (j : Nat) (h : j < M.length) : (M.take (j + 1)).filter p = (M.take j).filter p ++ (if p (M.getD j ([], [])) = true then [M.getD j ([], [])] else []) := by
  rw [List.take_succ_eq_append_getElem h, List.filter_append]
  congr 1
  rw [List.getD_eq_getElem?_getD, List.getElem?_eq_getElem h, Option.getD_some]
  by_cases hp : p M[j] = true
  · rw [if_pos hp]; simp [hp]
  · rw [if_neg hp]; simp [hp]
theorem filter_len (M : Pairs) (p : Bytes × Bytes → Bool) (j : Nat) : ((M.take j).filter p).length ≤ j := Nat.le_trans (List.length_filter_le _ _) (by simp; omega)
theorem less_all {M : Pairs} {key : Bytes} (h : ∀ q ∈ M, cmp q.1 key = -1) : lessM M key = M ∧ moreM M key = [] := by
  constructor
  · exact List.filter_eq_self.2 fun q hq => decide_eq_true (h q hq)
  · refine List.filter_eq_nil_iff.2 fun q hq => ?_
    rw [decide_eq_true_eq]
    intro h2
    have := cmp_lt_asymm (h q hq)
    rw [h2] at this; exact absurd this (by decide)
theorem more_all {M : Pairs} {key : Bytes} (h : ∀ q ∈ M, cmp key q.1 = -1) : lessM M key = [] ∧ moreM M key = M := by
  constructor
  · refine List.filter_eq_nil_iff.2 fun q hq => ?_
    rw [decide_eq_true_eq]
    intro h2
    have := cmp_lt_asymm (h q hq)
    rw [h2] at this; exact absurd this (by decide)
  · exact List.filter_eq_self.2 fun q hq => decide_eq_true (h q hq)
theorem less_append (A B : Pairs) (key : Bytes) : lessM (A ++ B) key = lessM A key ++ lessM B key := by simp [lessM]
theorem more_append (A B : Pairs) (key : Bytes) : moreM (A ++ B) key = moreM A key ++ moreM B key := by simp [moreM]
theorem less_cons (k x : Bytes) (B : Pairs) (key : Bytes) : lessM ((k, x) :: B) key = (if cmp k key = -1 then [(k, x)] else []) ++ lessM B key := by
  unfold lessM
  rw [List.filter_cons]
  by_cases h : cmp k key = -1
  · rw [if_pos (by exact decide_eq_true h), if_pos h]; rfl
  · rw [if_neg (by rw [decide_eq_true_eq]; exact h), if_neg h]; rfl
theorem more_cons (k x : Bytes) (B : Pairs) (key : Bytes) : moreM ((k, x) :: B) key = (if cmp key k = -1 then [(k, x)] else []) ++ moreM B key := by
  unfold moreM
  rw [List.filter_cons]
  by_cases h : cmp key k = -1
  · rw [if_pos (by exact decide_eq_true h), if_pos h]; rfl
  · rw [if_neg (by rw [decide_eq_true_eq]; exact h), if_neg h]; rfl
theorem cut_back (M : Pairs) (key : Bytes) (h : Asc M) : lessM M key ++ ((match getM M key with | none => [] | some x => [(key, x)]) ++ moreM M key) = M := by
  induction M with
  | nil => rfl
  | cons q M ih =>
    obtain ⟨k, x⟩ := q
    have hM := ih h.tail
    rw [less_cons, more_cons]
    rcases cmp_cases k key with hc | hc | hc
    · have hne : ¬ k = key := cmp_ne hc
      rw [if_pos hc, if_neg (by have := cmp_lt_asymm hc; omega), getM, if_neg hne]
      simp only [List.nil_append, List.cons_append, List.append_assoc]
      rw [hM]
    · subst hc
      have hall : ∀ q ∈ M, cmp k q.1 = -1 := h.head
      have hg : getM ((k, x) :: M) k = some x := by rw [getM, if_pos rfl]
      rw [(more_all hall).1, (more_all hall).2, if_neg (by rw [cmp_self]; decide), hg]
      simp
    · have hall : ∀ q ∈ M, cmp key q.1 = -1 := fun q hq => cmp_lt_trans _ _ _ hc (h.head q hq)
      rw [(more_all hall).1, (more_all hall).2, if_pos hc, if_neg (by have := cmp_lt_asymm hc; omega)]
      have hg : getM ((k, x) :: M) key = none := by
        rw [getM, if_neg (fun e => cmp_ne hc e.symm)]
        exact getM_nil M key fun q hq => (cmp_ne (hall q hq)).symm
      rw [hg]
      simp

end Go.Proofs.YtphjaebkcimklaaGreatDoor

/- The plain law of the blends. -/
set_option linter.unusedVariables false
set_option linter.unusedSimpArgs false
namespace Go.Proofs.YtphjaebkcimklaaGreatDoor
open Go.RowKit

theorem getM_filter (q : Bytes → Bool) : ∀ (A : Pairs) (key : Bytes), getM (A.filter fun p => q p.1) key = if q key = true then getM A key else none
  | [], key => by simp [getM]
  | (k, x) :: A, key => by
    have ih := getM_filter q A key
    rw [List.filter_cons]
    by_cases hk : k = key
    · subst hk
      by_cases hq : q k = true
      · rw [if_pos hq, if_pos hq, getM, getM, if_pos rfl, if_pos rfl]
      · rw [if_neg hq, ih, if_neg hq, if_neg hq]
    · by_cases hq : q k = true
      · rw [if_pos hq, getM, if_neg hk, ih, getM, if_neg hk]
      · rw [if_neg hq, ih, getM, if_neg hk]
theorem mem_getM : ∀ (A : Pairs) (k x : Bytes), getM A k = some x → (k, x) ∈ A
  | [], _, _, h => by cases h
  | (k', x') :: A, k, x, h => by
    rw [getM] at h
    by_cases hk : k' = k
    · rw [if_pos hk] at h
      cases h
      rw [hk]
      exact List.mem_cons_self ..
    · rw [if_neg hk] at h
      exact List.mem_cons_of_mem _ (mem_getM A k x h)

/-- A list that holds, at each key, what two lists tell of it. -/
def Blends (f : Option Bytes → Option Bytes → Option Bytes) (A B U : Pairs) : Prop := Asc U ∧ ∀ key, getM U key = f (getM A key) (getM B key)

theorem Blends.keys {f : Option Bytes → Option Bytes → Option Bytes} (h0 : f none none = none) {A B U : Pairs} (h : Blends f A B U) {P : Bytes → Prop} (hA : ∀ p ∈ A, P p.1) (hB : ∀ p ∈ B, P p.1) : ∀ p ∈ U, P p.1 := by
  intro p hp
  have h1 := getM_memP U p.1 p.2 h.1 hp
  rw [h.2] at h1
  cases ha : getM A p.1 with
  | some y => exact hA (p.1, y) (mem_getM A _ _ ha)
  | none =>
    cases hb : getM B p.1 with
    | some y => exact hB (p.1, y) (mem_getM B _ _ hb)
    | none => rw [ha, hb, h0] at h1; cases h1

def midL (k : Bytes) : Option Bytes → Pairs → Pairs
  | some v, R => (k, v) :: R
  | none, R => R

theorem blends_node {f : Option Bytes → Option Bytes → Option Bytes} (h0 : f none none = none) {A : Pairs} {l r : PT} {k x : Bytes} {L' R' : Pairs} (hB : Asc (PT.node l k x r).list)
    (hL : Blends f (lessM A k) l.list L') (hR : Blends f (moreM A k) r.list R') : Blends f A (PT.node l k x r).list (L' ++ midL k (f (getM A k) (some x)) R') := by
  obtain ⟨hl, hr, h1, h2⟩ := node_asc hB
  have kl : ∀ p ∈ L', cmp p.1 k = -1 := hL.keys h0 (P := fun a => cmp a k = -1) (fun p hp => by
    have := (List.mem_filter.1 hp).2
    simpa using this) h1
  have kr : ∀ p ∈ R', cmp k p.1 = -1 := hR.keys h0 (P := fun a => cmp k a = -1) (fun p hp => by
    have := (List.mem_filter.1 hp).2
    simpa using this) h2
  have flip : ∀ {a b : Bytes}, cmp a b = -1 → ¬ cmp b a = -1 := fun {a b} h h' => by
    have := cmp_neg a b
    rw [h, h'] at this; exact absurd this (by decide)
  have asc : Asc (L' ++ midL k (f (getM A k) (some x)) R') := by
    refine List.pairwise_append.2 ⟨hL.1, ?_, ?_⟩
    · cases f (getM A k) (some x) with
      | none => exact hR.1
      | some v => exact List.pairwise_cons.2 ⟨fun p hp => kr p hp, hR.1⟩
    · intro p hp q hq
      have hpk := kl p hp
      cases hm : f (getM A k) (some x) with
      | none => rw [hm] at hq; exact cmp_lt_trans _ _ _ hpk (kr q hq)
      | some v =>
        rw [hm] at hq
        rcases List.mem_cons.1 hq with rfl | hq
        · exact hpk
        · exact cmp_lt_trans _ _ _ hpk (kr q hq)
  have less : ∀ key, getM (lessM A k) key = if cmp key k = -1 then getM A key else none := fun key => by
    have := getM_filter (fun a => decide (cmp a k = -1)) A key
    simpa [lessM] using this
  have more : ∀ key, getM (moreM A k) key = if cmp k key = -1 then getM A key else none := fun key => by
    have := getM_filter (fun a => decide (cmp k a = -1)) A key
    simpa [moreM] using this
  refine ⟨asc, fun key => ?_⟩
  show _ = f (getM A key) (getM (l.list ++ (k, x) :: r.list) key)
  rcases cmp_cases key k with hlt | rfl | hgt
  · have hk : ¬ k = key := fun e => cmp_ne hlt e.symm
    have hr' : ∀ q ∈ r.list, q.1 ≠ key := fun q hq e => by
      have := h2 q hq
      rw [e] at this; exact flip hlt this
    have hR' : ∀ q ∈ R', q.1 ≠ key := fun q hq e => by
      have := kr q hq
      rw [e] at this; exact flip hlt this
    rw [getM_ahead L' _ key (by
      intro q hq e
      cases hm : f (getM A k) (some x) with
      | none => rw [hm] at hq; exact hR' q hq e
      | some v =>
        rw [hm] at hq
        rcases List.mem_cons.1 hq with rfl | hq
        · exact hk e
        · exact hR' q hq e), hL.2, less, if_pos hlt]
    rw [getM_ahead l.list _ key (by
      intro q hq e
      rcases List.mem_cons.1 hq with rfl | hq
      · exact hk e
      · exact hr' q hq e)]
  · have hl' : ∀ q ∈ l.list, q.1 ≠ key := fun q hq => cmp_ne (h1 q hq)
    have hL' : ∀ q ∈ L', q.1 ≠ key := fun q hq => cmp_ne (kl q hq)
    rw [getM_past L' _ key hL', getM_past l.list _ key hl']
    have e2 : getM ((key, x) :: r.list) key = some x := by rw [getM, if_pos rfl]
    rw [e2]
    cases f (getM A key) (some x) with
    | none => exact getM_none' R' key fun q hq e => cmp_ne (kr q hq) e.symm
    | some v => show getM ((key, v) :: R') key = _; rw [getM, if_pos rfl]
  · have hk : ¬ k = key := cmp_ne hgt
    have hl' : ∀ q ∈ l.list, q.1 ≠ key := fun q hq e => by
      have := h1 q hq
      rw [e] at this; exact flip hgt this
    have hL' : ∀ q ∈ L', q.1 ≠ key := fun q hq e => by
      have := kl q hq
      rw [e] at this; exact flip hgt this
    have hmid : getM (midL k (f (getM A k) (some x)) R') key = getM R' key := by
      cases f (getM A k) (some x) with
      | none => rfl
      | some v => show getM ((k, v) :: R') key = _; rw [getM, if_neg hk]
    rw [getM_past L' _ key hL', hmid, hR.2, more, if_pos hgt, getM_past l.list _ key hl', getM, if_neg hk]

def fMinus (a b : Option Bytes) : Option Bytes := if b.isSome = true then none else a
def fUnion (a b : Option Bytes) : Option Bytes := match b with | some x => some x | none => a
def fBoth (b a : Option Bytes) : Option Bytes := if b.isSome = true then a else none
theorem blends_eq {f : Option Bytes → Option Bytes → Option Bytes} {A B U V : Pairs} (h : Blends f A B U) (h' : Blends f A B V) : U = V :=
  asc_ext U V h.1 h'.1 fun key => (h.2 key).trans (h'.2 key).symm

end Go.Proofs.YtphjaebkcimklaaGreatDoor

/- What of a map is in a stretch, in plain lists. -/
set_option linter.unusedVariables false
set_option linter.unusedSimpArgs false
namespace Go.Proofs.YtphjaebkcimklaaGreatDoor
open Go.RowKit

def geM (M : Pairs) (key : Bytes) : Pairs := M.filter fun q => !decide (cmp q.1 key = -1)
def inB (f t : Bytes) (c : Bool) (k : Bytes) : Bool := !decide (cmp k f = -1) && (!c || decide (cmp k t = -1))
def cutM (M : Pairs) (f t : Bytes) (c b : Bool) : Pairs := M.filter fun q => inB f t c q.1 == b
theorem ge_asc {M : Pairs} (key : Bytes) (h : Asc M) : Asc (geM M key) := List.Pairwise.filter _ h
theorem cutM_asc {M : Pairs} (f t : Bytes) (c b : Bool) (h : Asc M) : Asc (cutM M f t c b) := List.Pairwise.filter _ h
theorem cutM_len (M : Pairs) (f t : Bytes) (c b : Bool) : (cutM M f t c b).length ≤ M.length := List.length_filter_le _ _
theorem cutM_keys {M : Pairs} {n : Nat} (f t : Bytes) (c b : Bool) (h : ∀ p ∈ M, p.1.length ≤ n) : ∀ p ∈ cutM M f t c b, p.1.length ≤ n := fun p hp => h p (List.mem_filter.1 hp).1
theorem ge_len (M : Pairs) (key : Bytes) : (geM M key).length ≤ M.length := List.length_filter_le _ _
theorem less_len (M : Pairs) (key : Bytes) : (lessM M key).length ≤ M.length := List.length_filter_le _ _
theorem not_lt_of_lt {a b : Bytes} (h : cmp a b = -1) : ¬ cmp b a = -1 := fun h2 => by
  have := cmp_lt_asymm h
  rw [h2] at this; exact absurd this (by decide)
theorem ge_all {M : Pairs} {key : Bytes} (h : ∀ q ∈ M, cmp key q.1 = -1) : geM M key = M :=
  List.filter_eq_self.2 fun q hq => by rw [decide_eq_false (not_lt_of_lt (h q hq))]; rfl
theorem ge_more : ∀ (M : Pairs) (key : Bytes), Asc M → getM M key = none → geM M key = moreM M key := fun M key h hn => by
  unfold geM moreM
  refine List.filter_congr fun q hq => ?_
  rcases cmp_cases q.1 key with hc | hc | hc
  · rw [decide_eq_true hc, decide_eq_false (not_lt_of_lt hc)]; rfl
  · have := getM_memP M q.1 q.2 h hq
    rw [hc, hn] at this; cases this
  · rw [decide_eq_true hc, decide_eq_false (not_lt_of_lt hc)]; rfl
theorem ge_cons : ∀ (M : Pairs) (key x : Bytes), Asc M → getM M key = some x → geM M key = (key, x) :: moreM M key
  | [], _, _, _, h => by cases h
  | (k, y) :: M, key, x, h, hg => by
    rw [getM] at hg
    by_cases hk : k = key
    · rw [if_pos hk] at hg
      obtain rfl : y = x := by injection hg
      subst hk
      have hall : ∀ q ∈ M, cmp k q.1 = -1 := h.head
      have e1 : geM ((k, y) :: M) k = (k, y) :: geM M k := by
        unfold geM; rw [List.filter_cons, if_pos (by rw [cmp_self]; decide)]
      have e2 : moreM ((k, y) :: M) k = moreM M k := by
        unfold moreM; rw [List.filter_cons, if_neg (by rw [cmp_self]; decide)]
      rw [e1, e2, ge_all hall, (more_all hall).2]
    · rw [if_neg hk] at hg
      have hm := mem_getM M key x hg
      have hc : cmp k key = -1 := h.head _ hm
      have e1 : geM ((k, y) :: M) key = geM M key := by
        unfold geM; rw [List.filter_cons, if_neg (by rw [decide_eq_true hc]; decide)]
      have e2 : moreM ((k, y) :: M) key = moreM M key := by
        unfold moreM; rw [List.filter_cons, if_neg (by rw [decide_eq_false (not_lt_of_lt hc)]; decide)]
      rw [e1, e2]
      exact ge_cons M key x h.tail hg
theorem at_less (M : Pairs) (key x : Bytes) (h : Asc M) (hg : getM M key = some x) : (lessM M key).length < M.length ∧ M.getD (lessM M key).length ([], []) = (key, x) := by
  have hb := cut_back M key h
  rw [hg] at hb
  simp only [] at hb
  constructor
  · have := congrArg List.length hb
    simp only [List.length_append, List.length_cons, List.length_nil] at this
    omega
  · conv => lhs; arg 1; rw [← hb]
    rw [List.getD_eq_getElem?_getD, List.getElem?_append_right (Nat.le_refl _), Nat.sub_self]
    rfl
theorem below_less (T : PT) (key : Bytes) (h : Asc T.list) : T.belowT (fun k => decide (cmp k key = -1)) = (lessM T.list key).length := by
  rw [below_plain T _ h (fun a b hab hb => decide_eq_true (cmp_lt_trans a b key hab (of_decide_eq_true hb)))]
  unfold lessM
  rw [List.countP_eq_length_filter]
theorem sum_len (M : Pairs) (key : Bytes) : (lessM M key).length + (geM M key).length = M.length := by
  induction M with
  | nil => rfl
  | cons q M ih =>
    unfold lessM geM at ih ⊢
    rw [List.filter_cons, List.filter_cons]
    cases decide (cmp q.1 key = -1) <;> simp at ih ⊢ <;> omega

/-- Nothing lies in a stretch that ends ahead of its beginning. -/
theorem in_empty {f t : Bytes} (h : ¬ cmp t f = 1) (k : Bytes) : inB f t true k = false := by
  unfold inB
  by_cases h1 : cmp k f = -1
  · rw [decide_eq_true h1]; rfl
  · by_cases h2 : cmp k t = -1
    · exfalso
      rcases cmp_cases t f with hc | hc | hc
      · exact h1 (cmp_lt_trans k t f h2 hc)
      · rw [hc] at h2; exact h1 h2
      · exact h (cmp_lt_asymm hc)
    · rw [decide_eq_false h2]; simp
theorem cut_empty {f t : Bytes} (h : ¬ cmp t f = 1) (M : Pairs) : cutM M f t true true = [] ∧ cutM M f t true false = M := by
  constructor
  · exact List.filter_eq_nil_iff.2 fun q _ => by rw [in_empty h]; decide
  · exact List.filter_eq_self.2 fun q _ => by rw [in_empty h]; rfl
theorem cut_open (M : Pairs) (f t : Bytes) : cutM M f t false true = geM M f ∧ cutM M f t false false = lessM M f := by
  constructor
  · unfold cutM geM
    refine List.filter_congr fun q _ => ?_
    unfold inB; simp
  · unfold cutM lessM
    refine List.filter_congr fun q _ => ?_
    unfold inB; cases decide (cmp q.1 f = -1) <;> rfl
theorem cut_closed (M : Pairs) (f t : Bytes) : cutM M f t true true = lessM (geM M f) t := by
  unfold cutM lessM geM
  rw [List.filter_filter]
  refine List.filter_congr fun q _ => ?_
  unfold inB; cases decide (cmp q.1 f = -1) <;> cases decide (cmp q.1 t = -1) <;> rfl
theorem cut_rest : ∀ (M : Pairs) (f t : Bytes), Asc M → cutM M f t true false = lessM M f ++ geM (geM M f) t
  | [], _, _, _ => rfl
  | (k, x) :: M, f, t, h => by
    by_cases hk : cmp k f = -1
    · have ih := cut_rest M f t h.tail
      have e1 : cutM ((k, x) :: M) f t true false = (k, x) :: cutM M f t true false := by
        unfold cutM; rw [List.filter_cons, if_pos (by unfold inB; rw [decide_eq_true hk]; rfl)]
      have e2 : lessM ((k, x) :: M) f = (k, x) :: lessM M f := by
        unfold lessM; rw [List.filter_cons, if_pos (decide_eq_true hk)]
      have e3 : geM ((k, x) :: M) f = geM M f := by
        unfold geM; rw [List.filter_cons, if_neg (by rw [decide_eq_true hk]; decide)]
      rw [e1, e2, e3, ih]; rfl
    · have hall : ∀ q ∈ (k, x) :: M, ¬ cmp q.1 f = -1 := fun q hq => by
        rcases List.mem_cons.1 hq with rfl | hq
        · exact hk
        · exact fun h2 => hk (cmp_lt_trans _ _ _ (h.head q hq) h2)
      have e1 : lessM ((k, x) :: M) f = [] := List.filter_eq_nil_iff.2 fun q hq => by rw [decide_eq_false (hall q hq)]; decide
      have e2 : geM ((k, x) :: M) f = (k, x) :: M := List.filter_eq_self.2 fun q hq => by rw [decide_eq_false (hall q hq)]; rfl
      rw [e1, e2, List.nil_append]
      unfold cutM geM
      refine List.filter_congr fun q hq => ?_
      unfold inB
      rw [decide_eq_false (hall q hq)]
      cases decide (cmp q.1 t = -1) <;> rfl

/-- How many lie in a closed stretch. -/
theorem count_closed (M : Pairs) (f t : Bytes) : (¬ cmp f t = 1 → (lessM M t).length = (lessM M f).length + (cutM M f t true true).length) ∧ (cmp f t = 1 → (lessM M t).length ≤ (lessM M f).length ∧ cutM M f t true true = []) := by
  constructor
  · intro h
    have hlt : ∀ k, cmp k f = -1 → cmp k t = -1 := fun k hk => by
      rcases cmp_cases f t with hc | hc | hc
      · exact cmp_lt_trans k f t hk hc
      · rw [← hc]; exact hk
      · exact absurd (cmp_lt_asymm hc) h
    induction M with
    | nil => rfl
    | cons q M ih =>
      unfold lessM cutM at ih ⊢
      rw [List.filter_cons, List.filter_cons, List.filter_cons]
      unfold inB at ih ⊢
      by_cases h1 : cmp q.1 f = -1
      · rw [decide_eq_true h1, decide_eq_true (hlt _ h1)]; simp at ih ⊢; omega
      · by_cases h2 : cmp q.1 t = -1
        · rw [decide_eq_false h1, decide_eq_true h2]; simp at ih ⊢; omega
        · rw [decide_eq_false h1, decide_eq_false h2]; simp at ih ⊢; omega
  · intro h
    have hlt : ∀ k, cmp k t = -1 → cmp k f = -1 := fun k hk => cmp_lt_trans k t f hk (cmp_gt h)
    refine ⟨?_, (cut_empty (fun h2 => absurd h2 (fun h2 => by rw [cmp_neg, h] at h2; exact absurd h2 (by decide))) M).1⟩
    induction M with
    | nil => exact Nat.le_refl _
    | cons q M ih =>
      unfold lessM at ih ⊢
      rw [List.filter_cons, List.filter_cons]
      by_cases h1 : cmp q.1 t = -1
      · rw [decide_eq_true h1, decide_eq_true (hlt _ h1)]; simp at ih ⊢; omega
      · by_cases h2 : cmp q.1 f = -1
        · rw [decide_eq_false h1, decide_eq_true h2]; simp at ih ⊢; omega
        · rw [decide_eq_false h1, decide_eq_false h2]; simp at ih ⊢; omega
/-- What Count counts with. -/
def endT (T : PT) (t : Bytes) (c : Bool) : Nat := if c = true then T.belowT (fun k => decide (cmp k t = -1)) else T.size
theorem count_plain (T : PT) (f t : Bytes) (c : Bool) (h : Asc T.list) :
    (if ((endT T t c : Nat) : Int) - ((T.belowT (fun k => decide (cmp k f = -1)) : Nat) : Int) < 0 then 0 else ((endT T t c : Nat) : Int) - ((T.belowT (fun k => decide (cmp k f = -1)) : Nat) : Int)) = ((cutM T.list f t c true).length : Int) := by
  have e1 := below_less T f h
  have e2 := below_less T t h
  have hs := T.size_list
  unfold endT
  cases c with
  | false =>
    have hsum := sum_len T.list f
    rw [(cut_open T.list f t).1]
    simp only [Bool.false_eq_true, if_false]
    rw [e1]
    split <;> omega
  | true =>
    simp only [if_true]
    rw [e1, e2]
    by_cases hc : cmp f t = 1
    · obtain ⟨g1, g2⟩ := (count_closed T.list f t).2 hc
      rw [g2]
      simp only [List.length_nil]
      split <;> omega
    · have g := (count_closed T.list f t).1 hc
      split <;> omega

theorem cut_turn (M : Pairs) (f t f' t' : Bytes) (c c' : Bool) : cutM (cutM M f t c true) f' t' c' true = cutM (cutM M f' t' c' true) f t c true := by
  unfold cutM
  rw [List.filter_filter, List.filter_filter]
  refine List.filter_congr fun q _ => Bool.and_comm _ _
theorem cut_sum (M : Pairs) (f t : Bytes) (c : Bool) : (cutM M f t c false).length + (cutM M f t c true).length = M.length := by
  induction M with
  | nil => rfl
  | cons q M ih =>
    unfold cutM at ih ⊢
    rw [List.filter_cons, List.filter_cons]
    cases inB f t c q.1 <;> simp at ih ⊢ <;> omega

end Go.Proofs.YtphjaebkcimklaaGreatDoor

/- The walks of the stretches: Span.Empty, from, three, Cut, Out, Count. -/
set_option linter.unusedVariables false
set_option linter.unusedSimpArgs false
namespace Go.Proofs.YtphjaebkcimklaaGreatDoor
open Go.RowKit
attribute [local go_sem] max2_num min2_num maxOf_two minOf_two

/-- A stretch as it lies. -/
def SIn (S : Nat → Prop) (w : World) (v : Value) (f t : Bytes) (c : Bool) : Prop := ∃ fv tv, v = .agg #[fv, tv, .bool c] ∧ BIn S w fv f ∧ BIn S w tv t
theorem SIn.below {S : Nat → Prop} {w w1 : World} {v : Value} {f t : Bytes} {c : Bool} (h : SIn S w v f t c) (hb : Below w.heap.size w w1) : SIn S w1 v f t c := by
  obtain ⟨fv, tv, e, h1, h2⟩ := h
  exact ⟨fv, tv, e, h1.below hb, h2.below hb⟩
/-- Three cells of a block. -/
def Tri (T : TypeId) (W : World) (g : Nat) (u v x : Value) : Prop := W.heap[g]? = some (.cells #[u, v, x] T (0, 0))
theorem Tri.cells {T : TypeId} {W : World} {g : Nat} {u v x : Value} (h : Tri T W g u v x) : W.cell? ⟨g, 0, none⟩ = some u ∧ W.cell? ⟨g, 1, none⟩ = some v ∧ W.cell? ⟨g, 2, none⟩ = some x :=
  ⟨cell_of_row W g 0 _ _ _ h, cell_of_row W g 1 _ _ _ h, cell_of_row W g 2 _ _ _ h⟩
theorem Tri.lt {T : TypeId} {W : World} {g : Nat} {u v x : Value} (h : Tri T W g u v x) : g < W.heap.size := (Array.getElem?_eq_some_iff.1 h).1
theorem Tri.below {T : TypeId} {W W' : World} {g n : Nat} {u v x : Value} (h : Tri T W g u v x) (hb : Below n W W') (hn : g < n) : Tri T W' g u v x := (hb.block g hn).trans h
theorem Tri.all {T : TypeId} {w : World} {u v x : Value} : ∀ W, Below (w.alloc (.cells #[u, v, x] T)).heap.size (w.alloc (.cells #[u, v, x] T)) W → W.cell? ⟨w.heap.size, 0, none⟩ = some u ∧ W.cell? ⟨w.heap.size, 1, none⟩ = some v ∧ W.cell? ⟨w.heap.size, 2, none⟩ = some x := fun W hW =>
  (Tri.below (show Tri T (w.alloc (.cells #[u, v, x] T)) w.heap.size u v x from heap_new w _) hW (by simp)).cells

/-- What from tells. -/
def FromIn (S : Nat → Prop) (w w' : World) (e : Ending) (P Q : Pairs) : Prop :=
  ∃ u1 u2 TL TR, e = .returned (.tuple #[.pointer u1, .pointer u2]) ∧ Hid (TL.list = P ∧ TR.list = Q ∧ TL.even ∧ TR.even ∧ TIn (Up S w.heap.size) w' (.pointer u1) TL ∧ TIn (Up S w.heap.size) w' (.pointer u2) TR ∧ Below w.heap.size w w')

/-- What three tells. -/
def ThreeIn (S : Nat → Prop) (w w' : World) (e : Ending) (P Q : Pairs) : Prop :=
  ∃ u1 u2 u3 T1 T2 T3, e = .returned (.tuple #[.pointer u1, .pointer u2, .pointer u3]) ∧ Hid (T2.list = P ∧ T1.list ++ T3.list = Q ∧ T1.even ∧ T2.even ∧ T3.even ∧
    TIn (Up S w.heap.size) w' (.pointer u1) T1 ∧ TIn (Up S w.heap.size) w' (.pointer u2) T2 ∧ TIn (Up S w.heap.size) w' (.pointer u3) T3 ∧ Below w.heap.size w w')

/-- A tree that a call makes. -/
def TreeIn (S : Nat → Prop) (w w' : World) (e : Ending) (P : Pairs) : Prop :=
  ∃ u T, e = .returned (.pointer u) ∧ Hid (T.list = P ∧ T.even ∧ TIn (Up S w.heap.size) w' (.pointer u) T ∧ Below w.heap.size w w')

set_option maxHeartbeats 3200000 in
theorem scount_any {S S' : Nat → Prop} (T : PT) (v sv : Value) (f t : Bytes) (cl : Bool) (w : World) (hT : TIn S w v T) (hs : SIn S' w sv f t cl) (hasc : Asc T.list) (hn : T.size ≤ 100000) :
    Calls Tryz.prog 39 #[v, sv] w fun e w' => e = .returned (.int .i64 ((cutM T.list f t cl true).length : Int)) ∧ Below w.heap.size w w' := by
  obtain ⟨tu, rfl⟩ := hT.ptr
  obtain ⟨fv, tv, rfl, hf, ht⟩ := hs
  obtain ⟨A, n, c, rfl⟩ := hf.slice
  obtain ⟨A', n', c', rfl⟩ := ht.slice
  have HC := Lib.hid (Tri.all (T := 25) (w := w) (u := .slice A n c) (v := .slice A' n' c') (x := .bool cl))
  have hb := (Below.refl _ w).alloc (Nat.le_refl _) (.cells #[.slice A n c, .slice A' n' c', .bool cl] 25)
  have HX : Hid (∀ W, Below (w.alloc (.cells #[.slice A n c, .slice A' n' c', .bool cl] 25)).heap.size (w.alloc (.cells #[.slice A n c, .slice A' n' c', .bool cl] 25)) W →
      Below w.heap.size w W ∧ TIn S W (.pointer tu) T ∧ BIn S' W (.slice A n c) f ∧ BIn S' W (.slice A' n' c') t) := fun W hW => by
    have h2 := hb.trans (hW.mono hb.size)
    exact ⟨h2, hT.below h2, hf.below h2, ht.below h2⟩
  have HCP := Lib.hid (count_plain T f t cl hasc)
  have le1 := T.belowT_le (fun k => decide (cmp k f = -1))
  have le2 := T.belowT_le (fun k => decide (cmp k t = -1))
  have lez : endT T t cl ≤ T.size := by unfold endT; split <;> omega
  have HLZ := Lib.hid lez
  clear hb hf ht hT hasc lez
  go_enter Tryz.func39, Tryz.ntmps39
  go_upto_region 1 with fail
  generalize w.alloc (.cells #[.slice A n c, .slice A' n' c', .bool cl] 25) = X at *
  obtain ⟨b0, b1, b2⟩ := HC.out X (Below.refl _ _)
  have HS := Lib.hid (tsize_any T (.pointer tu) X (HX.out X (Below.refl _ _)).2.1)
  go_wp2_with fail
  refine HS.out.mono ?_
  rintro e w1 ⟨rfl, rfl⟩
  cases cl with
  | false =>
    have HEN : Hid (endT T t false = T.size) := rfl
    have hcp := HCP.out
    rw [HEN.out] at hcp
    have HR := Lib.hid (rank_any T (.pointer tu) (.slice A n c) f X (HX.out X (Below.refl _ _)).2.1 (HX.out X (Below.refl _ _)).2.2.1 (by omega))
    generalize T.belowT (fun k => decide (cmp k f = -1)) = p at *
    have HCP2 := Lib.hid hcp
    have hw : IntKind.i64.wrap ((T.size : Int) - (p : Int)) = (T.size : Int) - (p : Int) := wsm _ (by omega)
    clear hcp
    go_wp2_with fail
    refine HR.out.mono ?_
    rintro e w2 ⟨rfl, hb2⟩
    have HB2 : Hid (Below w.heap.size w w2) := (HX.out w2 hb2).1
    clear b0 b1 b2 hb2
    go_wp2_with fail
    all_goals (go_ret; exact ⟨ret_num (by have h := HCP2.out; split at h <;> omega), HB2.out⟩)
  | true =>
    have HEN : Hid (endT T t true = T.belowT (fun k => decide (cmp k t = -1))) := rfl
    have hcp := HCP.out
    rw [HEN.out] at hcp
    have HR2 := Lib.hid (rank_any T (.pointer tu) (.slice A' n' c') t X (HX.out X (Below.refl _ _)).2.1 (HX.out X (Below.refl _ _)).2.2.2 (by omega))
    have HR := Lib.hid (fun W (hW : Below X.heap.size X W) => rank_any T (.pointer tu) (.slice A n c) f W (HX.out W hW).2.1 (HX.out W hW).2.2.1 (by omega))
    generalize T.belowT (fun k => decide (cmp k f = -1)) = p at *
    generalize T.belowT (fun k => decide (cmp k t = -1)) = p2 at *
    have HCP2 := Lib.hid hcp
    have hw : IntKind.i64.wrap ((p2 : Int) - (p : Int)) = (p2 : Int) - (p : Int) := wsm _ (by omega)
    clear hcp
    go_wp2_with fail
    refine HR2.out.mono ?_
    rintro e w2 ⟨rfl, hb2⟩
    have B2 : Hid (Below X.heap.size X w2) := hb2
    clear b0 b1 b2 hb2
    obtain ⟨b0, b1, b2⟩ := HC.out w2 B2.out
    go_wp2_with fail
    refine (HR.out w2 B2.out).mono ?_
    rintro e w3 ⟨rfl, hb3⟩
    have HB3 : Hid (Below w.heap.size w w3) := (HX.out w3 (B2.out.trans (hb3.mono B2.out.size))).1
    clear b0 b1 b2 hb3
    go_wp2_with fail
    all_goals (go_ret; exact ⟨ret_num (by have h := HCP2.out; split at h <;> omega), HB3.out⟩)

end Go.Proofs.YtphjaebkcimklaaGreatDoor

/- The reference's stretches: Ref, In, Cut. -/
set_option linter.unusedVariables false
set_option linter.unusedSimpArgs false
namespace Go.Proofs.YtphjaebkcimklaaGreatDoor
open Go.RowKit

theorem info45 : (Tryz.prog.info? 46).map (·.size) = some 3 := by kernel_rfl
set_option maxHeartbeats 1600000 in
theorem ref_any {S : Nat → Prop} (v : Value) (f t : Bytes) (cl : Bool) (w : World) (h : SIn S w v f t cl) :
    Calls Tryz.prog 13 #[v] w fun e w' => e = .returned (.agg #[.string (strO f), .string (strO t), .bool cl]) ∧ Below w.heap.size w w' := by
  obtain ⟨fv, tv, rfl, hf, ht⟩ := h
  obtain ⟨A, n, c, rfl⟩ := hf.slice
  obtain ⟨A', n', c', rfl⟩ := ht.slice
  have hb := (Below.refl _ w).alloc (Nat.le_refl _) (.cells #[.slice A n c, .slice A' n' c', .bool cl] 25)
  have hb2 := hb.alloc hb.size (.cells #[.string ⟨#[]⟩, .string ⟨#[]⟩, .bool false] 46)
  have hf2 := conv_bytes (hf.below hb2)
  have ht2 := conv_bytes (ht.below hb2)
  have hz : (w.alloc (.cells #[.slice A n c, .slice A' n' c', .bool cl] 25)).heap.size = w.heap.size + 1 := by simp
  have hT0 : Tri 25 ((w.alloc (.cells #[.slice A n c, .slice A' n' c', .bool cl] 25)).alloc (.cells #[.string ⟨#[]⟩, .string ⟨#[]⟩, .bool false] 46)) w.heap.size (.slice A n c) (.slice A' n' c') (.bool cl) := heap_old _ (heap_new w _)
  obtain ⟨b0, b1, b2⟩ := hT0.cells
  have HF : Hid (((w.alloc (.cells #[.slice A n c, .slice A' n' c', .bool cl] 25)).alloc (.cells #[.string (strO f), .string (strO t), .bool cl] 46)).heap[w.heap.size + 1]? = some (.cells #[.string (strO f), .string (strO t), .bool cl] 46 (0, 0))) := by
    have := heap_new (w.alloc (.cells #[.slice A n c, .slice A' n' c', .bool cl] 25)) (.cells #[.string (strO f), .string (strO t), .bool cl] 46)
    rw [hz] at this
    exact this
  have HB2 := Lib.hid (hb.alloc hb.size (.cells #[.string (strO f), .string (strO t), .bool cl] 46))
  clear hb hb2 hf ht hT0 hz
  go_enter Tryz.func13, Tryz.ntmps13
  go_wp2_with fail
  exact bodyPost_ret (results_cell_row rfl _ _ (w.heap.size + 1) 46 _ (0, 0) _ (by rfl) HF.out Tryz.underlying46 rfl info45) rfl ⟨rfl, HB2.out⟩

set_option maxHeartbeats 1600000 in
theorem in_any (f t k : ByteArray) (cl : Bool) (w : World) (hk : k.size ≤ 1000000) :
    Calls Tryz.prog 34 #[.agg #[.string f, .string t, .bool cl], .string k] w fun e w' => e = .returned (.bool (inB (strL f) (strL t) cl (strL k))) ∧ Below w.heap.size w w' := by
  have HV : Hid (inB (strL f) (strL t) cl (strL k) = (!decide (cmp (strL k) (strL f) = -1) && (!cl || decide (cmp (strL k) (strL t) = -1)))) := rfl
  have HL1 := Lib.hid (fun W => less_any k f W hk)
  have HL2 := Lib.hid (fun W => less_any k t W hk)
  have HC := Lib.hid (Tri.all (T := 46) (w := w) (u := .string f) (v := .string t) (x := .bool cl))
  have HB := Lib.hid ((Below.refl _ w).alloc (Nat.le_refl _) (.cells #[.string f, .string t, .bool cl] 46))
  go_enter Tryz.func34, Tryz.ntmps34
  go_upto_region 1 with fail
  generalize w.alloc (.cells #[.string f, .string t, .bool cl] 46) = X at *
  obtain ⟨b0, b1, b2⟩ := HC.out X (Below.refl _ _)
  go_wp2_with fail
  refine (HL1.out _).mono ?_
  rintro e w1 ⟨rfl, q, rfl⟩
  clear b0 b1 b2
  obtain ⟨b0, b1, b2⟩ := HC.out (X.drewN q) (below_drewN' q)
  have HB1 : Hid (Below w.heap.size w (X.drewN q)) := below_drewN HB.out q
  by_cases h1 : cmp (strL k) (strL f) = -1
  · have HH : Hid (inB (strL f) (strL t) cl (strL k) = false) := by rw [HV.out, decide_eq_true h1]; exact (rfl : (!true && (!cl || decide (cmp (strL k) (strL t) = -1))) = false)
    rw [decide_eq_true h1]
    clear h1
    go_wp2_with fail
    go_ret
    exact ⟨by rw [HH.out]; rfl, HB1.out⟩
  · have HV2 : Hid (inB (strL f) (strL t) cl (strL k) = (!cl || decide (cmp (strL k) (strL t) = -1))) := by rw [HV.out, decide_eq_false h1]; exact (rfl : (!false && (!cl || decide (cmp (strL k) (strL t) = -1))) = _)
    rw [decide_eq_false h1]
    clear h1 HV
    cases cl with
    | false =>
      go_wp2_with fail
      go_ret
      exact ⟨by rw [HV2.out]; rfl, HB1.out⟩
    | true =>
      go_wp2_with fail
      refine (HL2.out _).mono ?_
      rintro e w1 ⟨rfl, q2, rfl⟩
      clear b0 b1 b2
      have HB3 : Hid (Below w.heap.size w (X.drewN (q + q2))) := below_drewN HB.out (q + q2)
      by_cases h2 : cmp (strL k) (strL t) = -1
      · have HH : Hid (inB (strL f) (strL t) true (strL k) = true) := by rw [HV2.out, decide_eq_true h2]; exact (rfl : (!true || true) = true)
        rw [decide_eq_true h2]
        clear h2
        go_wp2_with fail
        go_ret
        exact ⟨by rw [HH.out]; rfl, HB3.out⟩
      · have HH : Hid (inB (strL f) (strL t) true (strL k) = false) := by rw [HV2.out, decide_eq_false h2]; exact (rfl : (!true || false) = false)
        rw [decide_eq_false h2]
        clear h2
        go_wp2_with fail
        go_ret
        exact ⟨by rw [HH.out]; rfl, HB3.out⟩

set_option maxHeartbeats 3200000 in
theorem mcut_any {S : Nat → Prop} (M : Pairs) (A : Option Addr) (n c : Nat) (f t : ByteArray) (cl bw : Bool) (w : World) (hM : MIn S w A n M) (hn : n ≤ 1000000) (hk : ∀ p ∈ M, p.1.length ≤ 100000) :
    Calls Tryz.prog 12 #[.slice A n c, .agg #[.string f, .string t, .bool cl], .bool bw] w fun e w' => GotMap w w' e (cutM M (strL f) (strL t) cl bw) := by
  obtain ⟨i0, hi, hz0, hz1, hz2⟩ := info_parts info73b
  have HC := Lib.hid (Tri.all (T := 46) (w := w) (u := .string f) (v := .string t) (x := .bool cl))
  have hb0 := (Below.refl _ w).alloc (Nat.le_refl _) (.cells #[.string f, .string t, .bool cl] 46)
  have HM := Lib.hid (hM.below hb0)
  have HML := Lib.hid hM.len
  have HB := Lib.hid hb0
  have HKL := Lib.hid hk
  have HP : Hid (∀ j, cutM (M.take j) (strL f) (strL t) cl bw = (M.take j).filter fun q => inB (strL f) (strL t) cl q.1 == bw) := fun _ => rfl
  clear hM hk hb0
  go_enter Tryz.func12, Tryz.ntmps12
  go_upto_region 1 with fail
  generalize w.alloc (.cells #[.string f, .string t, .bool cl] 46) = X0 at *
  go_wp2_with fail
  go_loopw [7, 12] (fun u v wr => ∃ j : Nat, v = .int .i64 (j : Int) ∧ j ≤ n ∧ Hid (OwnM X0.heap.size wr u (cutM (M.take j) (strL f) (strL t) cl bw) ∧ Below X0.heap.size X0 wr)) (fun _ v _ => n - (intOf v).toNat)
  case atStart => exact ⟨0, rfl, by omega, Lib.hid ⟨by simp only [List.take_zero]; exact World.ownsRow_nil _ _ _ _, Below.refl _ _⟩⟩
  case round =>
    obtain ⟨j, rfl, hj, hI⟩ := hrel
    by_cases hlt : j < n
    · obtain ⟨b, o, rfl, hbl, hSb, hc⟩ := (HM.out.below hI.out.2).cell (by omega)
      obtain ⟨c0, c1⟩ := hc j hlt
      have hjl : j < M.length := by rw [HML.out]; exact hlt
      have HT := Lib.hid (filter_take M (fun q => inB (strL f) (strL t) cl q.1 == bw) j hjl)
      have hle : (cutM (M.take j) (strL f) (strL t) cl bw).length ≤ j := by rw [HP.out]; exact filter_len M _ j
      have hks : (strO (M.getD j ([], [])).1).size ≤ 1000000 := by
        rw [strO_size]
        have : M.getD j ([], []) ∈ M := by
          rw [List.getD_eq_getElem?_getD, List.getElem?_eq_getElem hjl, Option.getD_some]; exact List.getElem_mem hjl
        have := HKL.out _ this
        omega
      obtain ⟨sk, hsk⟩ : ∃ sk, strO (M.getD j ([], [])).1 = sk := ⟨_, rfl⟩
      obtain ⟨sx, hsx⟩ : ∃ sx, strO (M.getD j ([], [])).2 = sx := ⟨_, rfl⟩
      have HSK := Lib.hid hsk
      have HSX := Lib.hid hsx
      have HKE : Hid ((M.getD j ([], [])).1 = strL sk) := (by rw [← hsk, strL_strO] : (M.getD j ([], [])).1 = strL sk)
      simp only [bs, hsk, hsx] at c0 c1
      rw [hsk] at hks
      have HIN := Lib.hid (fun W => in_any f t sk cl W (by assumption))
      have al : (0 : Int) ≤ (j : Int) := by omega
      have al3 : (j : Int) < (n : Int) := by omega
      have hb0 := (Below.refl _ wr).alloc (Nat.le_refl _) (.cells #[.string sk, .string sx] 56)
      have HO := Lib.hid (And.intro (hI.out.1.below hb0) (hI.out.2.alloc hI.out.2.size (.cells #[.string sk, .string sx] 56)))
      have htw : (wr.alloc (.cells #[.string sk, .string sx] 56)).heap[wr.heap.size]? = some (.cells #[.string sk, .string sx] 56 (0, 0)) := heap_new wr _
      have HTW := Lib.hid htw
      clear hc hsk hsx hks hb0 htw
      go_upto_region 5 with fail
      have hgl : Hid (wr.heap.size < (wr.alloc (.cells #[.string sk, .string sx] 56)).heap.size) := (by simp : wr.heap.size < (wr.alloc (.cells #[.string sk, .string sx] 56)).heap.size)
      clear c0 c1
      generalize wr.heap.size = g at *
      generalize wr.alloc (.cells #[.string sk, .string sx] 56) = X at *
      have HCX : Hid (∀ W, Below X.heap.size X W → W.cell? ⟨g, 0, none⟩ = some (.string sk) ∧ W.cell? ⟨g, 1, none⟩ = some (.string sx)) := fun W h => by
        have h2 := (h.block g hgl.out).trans HTW.out
        exact ⟨cell_of_row W g 0 _ _ _ h2, cell_of_row W g 1 _ _ _ h2⟩
      obtain ⟨b0, b1⟩ := HCX.out X (Below.refl _ _)
      obtain ⟨s0, s1, s2⟩ := HC.out X HO.out.2
      go_wp2_with fail
      refine (HIN.out _).mono ?_
      rintro e w2 ⟨rfl, hb2⟩
      have HB2 : Hid (Below X.heap.size X w2) := hb2
      clear b0 b1 s0 s1 s2 hb2
      obtain ⟨b0, b1⟩ := HCX.out w2 HB2.out
      have HO2 : Hid (OwnM X0.heap.size w2 _ (cutM (M.take j) (strL f) (strL t) cl bw) ∧ Below X0.heap.size X0 w2) := ⟨HO.out.1.below HB2.out, HO.out.2.trans (HB2.out.mono HO.out.2.size)⟩
      obtain ⟨ib, hib⟩ : ∃ ib, inB (strL f) (strL t) cl (strL sk) = ib := ⟨_, rfl⟩
      have HIB := Lib.hid hib
      rw [hib]
      clear hib
      by_cases hc : (ib == bw) = true
      · have HE : Hid (cutM (M.take (j + 1)) (strL f) (strL t) cl bw = cutM (M.take j) (strL f) (strL t) cl bw ++ [M.getD j ([], [])]) := by
          rw [HP.out, HT.out, HP.out, if_pos (by rw [HKE.out, HIB.out]; exact hc)]; exact (rfl : (M.take j).filter (fun q => inB (strL f) (strL t) cl q.1 == bw) ++ [M.getD j ([], [])] = _)
        go_wp2_with (at_builtin; refine wpList_append_own _ rfl _ _ 39 rfl X0.heap.size 56 i0 (.agg #[.string ⟨#[]⟩, .string ⟨#[]⟩]) 2 32 Tryz.underlying39 hi hz0 hz1 hz2 rfl (by decide) _ _ _ rfl (HO2.out.1.alloc _) ⟨w2.heap.size, 0, none⟩ 1 1 [.string sk, .string sx] ?c1 rfl ?c2 (two_cells _ _) ?c3 ?c4 ?c5 ?_)
        case c1 => simp [Act.eval]
        case c2 =>
          have := World.news_of_block (heap_new w2 (.cells #[.string sk, .string sx] 56))
          simpa using this
        case c3 => unfold maxLen; omega
        case c4 => omega
        case c5 => have := HO2.out.2.size; simp; omega
        intro v' w1 hown1 hgrow _
        have HN : Hid (OwnM X0.heap.size w1 v' (cutM (M.take (j + 1)) (strL f) (strL t) cl bw) ∧ Below X0.heap.size X0 w1) := by
          refine ⟨?_, (HO2.out.2.alloc HO2.out.2.size _).grown hgrow (by have := HO2.out.2.size; simp; omega) (fun k e => (HO2.out.1.lt k e).1)⟩
          rw [HE.out, OwnM, List.length_append, mvals_append]
          simp only [mvals, bs, HSK.out, HSX.out]
          exact hown1
        clear hown1 hgrow b0 b1
        go_wp2_with fail
        go_roundw
        case rel => exact ⟨j + 1, by go_num, by omega, HN⟩
        case measure => simp [intOf]; omega
      · have HE : Hid (cutM (M.take (j + 1)) (strL f) (strL t) cl bw = cutM (M.take j) (strL f) (strL t) cl bw) := by
          rw [HP.out, HT.out, HP.out, if_neg (by rw [HKE.out, HIB.out]; exact hc), List.append_nil]
          exact (rfl : (M.take j).filter (fun q => inB (strL f) (strL t) cl q.1 == bw) = _)
        rw [Bool.not_eq_true] at hc
        go_wp2_with fail
        go_roundw
        case rel => exact ⟨j + 1, by go_num, by omega, by rw [HE.out]; exact HO2⟩
        case measure => simp [intOf]; omega
    · obtain rfl : j = n := by omega
      have HE : Hid (M.take j = M) := List.take_of_length_le (by rw [HML.out]; exact Nat.le_refl _)
      have hown := hI.out.1
      rw [HE.out] at hown
      obtain ⟨A1, c1, rfl, h1, h2⟩ := hown.reads
      have HF : Hid (GotMap w wr (.returned (.slice A1 (cutM M (strL f) (strL t) cl bw).length c1)) (cutM M (strL f) (strL t) cl bw)) := ⟨A1, c1, rfl, h1, h2.imp (fun b _ hb => Nat.le_trans HB.out.size hb), HB.out.trans (hI.out.2.mono HB.out.size)⟩
      clear hown h1 h2
      go_wp2_with fail
      go_ret
      exact HF.out

end Go.Proofs.YtphjaebkcimklaaGreatDoor

/- What a law is given: a stretch. -/
set_option linter.unusedVariables false
set_option linter.unusedSimpArgs false
namespace Go.Proofs.YtphjaebkcimklaaGreatDoor
open Go.RowKit Go.ChangeShapes Go.WideShapes Go.Deep

/-- A stretch as it comes. -/
def SRaw (w : World) (v : Value) (f t : Bytes) (c : Bool) : Prop := ∃ fv tv, v = .agg #[fv, tv, .bool c] ∧ BRaw w fv f ∧ BRaw w tv t
theorem cellsSpan : Tryz.prog.cellsOf 25 = 3 := by kernel_rfl
theorem cellsBool : Tryz.prog.cellsOf 4 = 1 := by kernel_rfl
theorem cellsBytes : Tryz.prog.cellsOf 23 = 1 := by kernel_rfl
variable {H : Type} {enc : TypeId × Value → H} {w : World} {base : Nat} {spare : Nat → Bool} {held : Bool}
set_option maxRecDepth 100000 in
theorem open_bool4 {fuel : Nat} {v : Value} {x : DataW H × List MemPlace} (h : DataW.trod enc Tryz.prog w base spare held fuel 4 [v] = some x) : ∃ b, v = .bool b := by
  cases fuel with
  | zero => simp [DataW.trod] at h
  | succ f =>
    unfold DataW.trod at h
    rw [Tryz.underlying4] at h
    cases v <;> simp at h
    exact ⟨_, rfl⟩

set_option maxRecDepth 100000 in
theorem open_span {fuel : Nat} {cs : Array Value} {x : DataW H × List MemPlace} (h : DataW.trod enc Tryz.prog w base spare held fuel 25 cs.toList = some x) :
    ∃ f t c, SRaw w (.agg cs) f t c := by
  obtain ⟨xs, n, rfl, _, hlen, hxl, hf⟩ := DataW.trod_struct Tryz.underlying25 h
  rw [cellsSpan] at hlen
  obtain ⟨l⟩ := cs
  simp only [] at hlen hf
  match l, hlen with
  | [v0, v1, v2], _ =>
    have g0 := hf 0 _ rfl
    have g1 := hf 1 _ rfl
    have g2 := hf 2 _ rfl
    simp [cellsBool, cellsBytes] at g0 g1 g2
    have hx3 : xs.length = 3 := hxl
    rw [List.getElem?_eq_getElem (by omega)] at g0 g1 g2
    obtain ⟨k, hk⟩ := open_raw g0
    obtain ⟨y, hy⟩ := open_raw g1
    obtain ⟨b, rfl⟩ := open_bool4 g2
    exact ⟨k, y, b, v0, v1, rfl, hk, hy⟩

end Go.Proofs.YtphjaebkcimklaaGreatDoor

/- ref23.Some and Turn: parts of lists. -/
set_option linter.unusedVariables false
set_option linter.unusedSimpArgs false
namespace Go.Proofs.YtphjaebkcimklaaGreatDoor
open Go.RowKit
attribute [local go_sem] Oper.semAt_some

def sm (sk mo : Int) (L : Pairs) : Pairs := (L.drop sk.toNat).take mo.toNat
theorem sm_len (sk mo : Int) (L : Pairs) : (sm sk mo L).length = min mo.toNat (L.length - sk.toNat) := by simp [sm]
theorem sm_snoc (sk mo : Int) (L : Pairs) (x : Bytes × Bytes) : sm sk mo (L ++ [x]) = sm sk mo L ++ (if sk ≤ (L.length : Int) ∧ ((sm sk mo L).length : Int) < mo then [x] else []) := by
  have hl := sm_len sk mo L
  unfold sm at *
  rw [List.drop_append, List.take_append, List.length_drop]
  congr 1
  by_cases h1 : sk ≤ (L.length : Int)
  · have e : sk.toNat - L.length = 0 := by omega
    rw [e, List.drop_zero]
    by_cases h2 : (((L.drop sk.toNat).take mo.toNat).length : Int) < mo
    · rw [if_pos ⟨h1, h2⟩, List.take_of_length_le (by simp; omega)]
    · rw [if_neg (fun h => h2 h.2), show mo.toNat - (L.length - sk.toNat) = 0 by omega, List.take_zero]
  · rw [if_neg (fun h => h1 h.1), List.drop_eq_nil_of_le (by simp; omega), List.take_nil]
theorem sm_take (sk mo : Int) (M : Pairs) (j : Nat) (h : j < M.length) : sm sk mo (M.take (j + 1)) = sm sk mo (M.take j) ++ (if sk ≤ (j : Int) ∧ ((sm sk mo (M.take j)).length : Int) < mo then [M.getD j ([], [])] else []) := by
  rw [List.take_succ_eq_append_getElem h, sm_snoc, List.length_take, Nat.min_eq_left (by omega), List.getD_eq_getElem?_getD, List.getElem?_eq_getElem h, Option.getD_some]
/-- Where enough has been taken, nothing more comes. -/
theorem sm_full (sk mo : Int) (M : Pairs) (j : Nat) (h : sk ≤ (j : Int)) (h2 : mo ≤ ((sm sk mo (M.take j)).length : Int)) : sm sk mo (M.take j) = sm sk mo M := by
  have hl := sm_len sk mo (M.take j)
  have e : M = M.take j ++ M.drop j := (List.take_append_drop j M).symm
  rw [List.length_take] at hl
  conv => rhs; rw [e]
  unfold sm at *
  rw [List.drop_append, List.take_append, List.length_drop, List.length_take]
  have : mo.toNat - (min j M.length - sk.toNat) = 0 := by omega
  rw [this, List.take_zero, List.append_nil]
def turnL (L : Pairs) : Pairs := L.reverse
theorem turn_at (L : Pairs) (j : Nat) (h : j < L.length) : (L.reverse).take (j + 1) = (L.reverse).take j ++ [L.getD (L.length - 1 - j) ([], [])] := by
  rw [List.take_succ_eq_append_getElem (by simpa using h), List.getElem_reverse, List.getD_eq_getElem?_getD, List.getElem?_eq_getElem (by omega), Option.getD_some]

set_option maxRecDepth 100000 in
set_option maxHeartbeats 3200000 in
theorem rsome_any {S : Nat → Prop} (M : Pairs) (A : Option Addr) (n c : Nat) (sk mo : Int) (w : World) (hM : MIn S w A n M) (hn : n ≤ 1000000) :
    Calls Tryz.prog 26 #[.slice A n c, .int .i64 sk, .int .i64 mo] w fun e w' => GotMap w w' e (sm sk mo M) := by
  obtain ⟨i0, hi, hz0, hz1, hz2⟩ := info_parts info73b
  have HM := Lib.hid hM
  have HML := Lib.hid hM.len
  clear hM
  go_enter Tryz.func26, Tryz.ntmps26
  go_wp2_with fail
  go_loopw [7, 8] (fun u v wr => ∃ j : Nat, v = .int .i64 (j : Int) ∧ j ≤ n ∧ Hid (OwnM w.heap.size wr u (sm sk mo (M.take j)) ∧ Below w.heap.size w wr)) (fun _ v _ => n - (intOf v).toNat)
  case atStart => exact ⟨0, rfl, by omega, Lib.hid ⟨by simp only [List.take_zero, sm, List.drop_nil, List.take_nil]; exact World.ownsRow_nil _ _ _ _, Below.refl _ _⟩⟩
  case round =>
    obtain ⟨j, rfl, hj, hI⟩ := hrel
    by_cases hlt : j < n
    · obtain ⟨b, o, rfl, hbl, hSb, hc⟩ := (HM.out.below hI.out.2).cell (by omega)
      obtain ⟨c0, c1⟩ := hc j hlt
      have hjl : j < M.length := by rw [HML.out]; exact hlt
      have HT := Lib.hid (sm_take sk mo M j hjl)
      have hle : (sm sk mo (M.take j)).length ≤ j := by rw [sm_len, List.length_take]; omega
      obtain ⟨sk1, hsk⟩ : ∃ sk1, strO (M.getD j ([], [])).1 = sk1 := ⟨_, rfl⟩
      obtain ⟨sx, hsx⟩ : ∃ sx, strO (M.getD j ([], [])).2 = sx := ⟨_, rfl⟩
      have HSK := Lib.hid hsk
      have HSX := Lib.hid hsx
      simp only [bs, hsk, hsx] at c0 c1
      obtain ⟨Ao, co, hu, hread⟩ := hI.out.1.reads
      subst hu
      have al : (0 : Int) ≤ (j : Int) := by omega
      have al3 : (j : Int) < (n : Int) := by omega
      have HO2 := hI
      clear hc hsk hsx hread
      obtain ⟨G, hG⟩ : ∃ G, (sm sk mo (M.take j)).length = G := ⟨_, rfl⟩
      by_cases h1 : sk ≤ (j : Int)
      · by_cases h2 : (G : Int) < mo
        · have HE : Hid (sm sk mo (M.take (j + 1)) = sm sk mo (M.take j) ++ [M.getD j ([], [])]) := by
            rw [HT.out, if_pos ⟨h1, by rw [hG]; exact h2⟩]; exact (rfl : sm sk mo (M.take j) ++ [M.getD j ([], [])] = _)
          rw [hG] at hle
          have HG := Lib.hid hG
          simp only [hG]
          clear hG
          go_wp2_with (at_builtin; refine wpList_append_own _ rfl _ _ 39 rfl w.heap.size 56 i0 (.agg #[.string ⟨#[]⟩, .string ⟨#[]⟩]) 2 32 Tryz.underlying39 hi hz0 hz1 hz2 rfl (by decide) _ _ _ rfl (by rw [← HG.out]; exact HO2.out.1.alloc _) ⟨wr.heap.size, 0, none⟩ 1 1 [.string sk1, .string sx] ?c1 rfl ?c2 (two_cells _ _) ?c3 ?c4 ?c5 ?_)
          case c1 => simp [Act.eval]
          case c2 =>
            have := World.news_of_block (heap_new wr (.cells #[.string sk1, .string sx] 56))
            simpa using this
          case c3 => rw [HG.out]; unfold maxLen; omega
          case c4 => rw [HG.out]; omega
          case c5 => have := HO2.out.2.size; simp; omega
          intro v' w1 hown1 hgrow _
          have HN : Hid (OwnM w.heap.size w1 v' (sm sk mo (M.take (j + 1))) ∧ Below w.heap.size w w1) := by
            refine ⟨?_, (HO2.out.2.alloc HO2.out.2.size _).grown hgrow (by have := HO2.out.2.size; simp; omega) (fun k e => (HO2.out.1.lt k (by rw [HG.out]; exact e)).1)⟩
            rw [HE.out, OwnM, List.length_append, mvals_append]
            simp only [mvals, bs, HSK.out, HSX.out]
            exact hown1
          clear hown1 hgrow
          go_wp2_with fail
          go_roundw
          case rel => exact ⟨j + 1, by go_num, by omega, HN⟩
          case measure => simp [intOf]; omega
        · have HE : Hid (sm sk mo (M.take (j + 1)) = sm sk mo (M.take j)) := by
            rw [HT.out, if_neg (fun h => h2 (by rw [← hG]; exact h.2)), List.append_nil]; exact (rfl : sm sk mo (M.take j) = _)
          have HG := Lib.hid hG
          simp only [hG]
          clear hG
          go_wp2_with fail
          go_roundw
          case rel => exact ⟨j + 1, by go_num, by omega, by rw [HE.out, ← HG.out]; exact HO2⟩
          case measure => simp [intOf]; omega
      · have HE : Hid (sm sk mo (M.take (j + 1)) = sm sk mo (M.take j)) := by
          rw [HT.out, if_neg (fun h => h1 h.1), List.append_nil]; exact (rfl : sm sk mo (M.take j) = _)
        go_wp2_with fail
        go_roundw
        case rel => exact ⟨j + 1, by go_num, by omega, by rw [HE.out]; exact HO2⟩
        case measure => simp [intOf]; omega
    · obtain rfl : j = n := by omega
      have HE : Hid (M.take j = M) := List.take_of_length_le (by rw [HML.out]; exact Nat.le_refl _)
      have hown := hI.out.1
      rw [HE.out] at hown
      obtain ⟨A1, c1, rfl, h1, h2⟩ := hown.reads
      have HF : Hid (GotMap w wr (.returned (.slice A1 (sm sk mo M).length c1)) (sm sk mo M)) := ⟨A1, c1, rfl, h1, h2, hI.out.2⟩
      clear hown h1 h2
      go_wp2_with fail
      go_ret
      exact HF.out

set_option maxRecDepth 100000 in
set_option maxHeartbeats 3200000 in
theorem rturn_any {S : Nat → Prop} (M : Pairs) (A : Option Addr) (n c : Nat) (w : World) (hM : MIn S w A n M) (hn : n ≤ 1000000) :
    Calls Tryz.prog 28 #[.slice A n c] w fun e w' => GotMap w w' e M.reverse := by
  obtain ⟨i0, hi, hz0, hz1, hz2⟩ := info_parts info73b
  have HM := Lib.hid hM
  have HML := Lib.hid hM.len
  clear hM
  go_enter Tryz.func28, Tryz.ntmps28
  go_wp2_with fail
  go_loopw [3, 4] (fun u v wr => ∃ j : Nat, v = .int .i64 ((n : Int) - 1 - (j : Int)) ∧ j ≤ n ∧ Hid (OwnM w.heap.size wr u (M.reverse.take j) ∧ Below w.heap.size w wr)) (fun _ v _ => (intOf v + 1).toNat)
  case atStart => exact ⟨0, by simp, by omega, Lib.hid ⟨by simp only [List.take_zero]; exact World.ownsRow_nil _ _ _ _, Below.refl _ _⟩⟩
  case round =>
    obtain ⟨j, rfl, hj, hI⟩ := hrel
    by_cases hlt : j < n
    · obtain ⟨b, o, rfl, hbl, hSb, hc⟩ := (HM.out.below hI.out.2).cell (by omega)
      obtain ⟨i, hi2⟩ : ∃ i : Nat, n - 1 - j = i := ⟨_, rfl⟩
      have hin : (n : Int) - 1 - (j : Int) = (i : Int) := by omega
      obtain ⟨c0, c1⟩ := hc i (by omega)
      have hjl : j < M.length := by rw [HML.out]; exact hlt
      have HT := Lib.hid (turn_at M j hjl)
      have hle : (M.reverse.take j).length = j := by rw [List.length_take, List.length_reverse]; omega
      have HI2 : Hid (M.length - 1 - j = i) := (by rw [HML.out]; exact hi2 : M.length - 1 - j = i)
      rw [HI2.out] at HT
      obtain ⟨sk1, hsk⟩ : ∃ sk1, strO (M.getD i ([], [])).1 = sk1 := ⟨_, rfl⟩
      obtain ⟨sx, hsx⟩ : ∃ sx, strO (M.getD i ([], [])).2 = sx := ⟨_, rfl⟩
      have HSK := Lib.hid hsk
      have HSX := Lib.hid hsx
      simp only [bs, hsk, hsx] at c0 c1
      rw [hin]
      have al : (0 : Int) ≤ (i : Int) := by omega
      have al3 : (i : Int) < (n : Int) := by omega
      have HO2 := hI
      have HLE := Lib.hid hle
      clear hc hsk hsx hle
      go_wp2_with (at_builtin; refine wpList_append_own _ rfl _ _ 39 rfl w.heap.size 56 i0 (.agg #[.string ⟨#[]⟩, .string ⟨#[]⟩]) 2 32 Tryz.underlying39 hi hz0 hz1 hz2 rfl (by decide) _ _ _ rfl (HO2.out.1.alloc _) ⟨wr.heap.size, 0, none⟩ 1 1 [.string sk1, .string sx] ?c1 rfl ?c2 (two_cells _ _) ?c3 ?c4 ?c5 ?_)
      case c1 => simp [Act.eval]
      case c2 =>
        have := World.news_of_block (heap_new wr (.cells #[.string sk1, .string sx] 56))
        simpa using this
      case c3 => rw [HLE.out]; unfold maxLen; omega
      case c4 => rw [HLE.out]; omega
      case c5 => have := HO2.out.2.size; simp; omega
      intro v' w1 hown1 hgrow _
      have HN : Hid (OwnM w.heap.size w1 v' (M.reverse.take (j + 1)) ∧ Below w.heap.size w w1) := by
        refine ⟨?_, (HO2.out.2.alloc HO2.out.2.size _).grown hgrow (by have := HO2.out.2.size; simp; omega) (fun k e => (HO2.out.1.lt k e).1)⟩
        rw [HT.out, OwnM, List.length_append, mvals_append]
        simp only [mvals, bs, HSK.out, HSX.out]
        rw [show min j M.length = j by rw [HML.out]; omega] at hown1
        rw [HLE.out]
        exact hown1
      clear hown1 hgrow
      go_wp2_with fail
      go_roundw
      case rel => exact ⟨j + 1, by go_num, by omega, HN⟩
      case measure => simp [intOf]
    · obtain rfl : j = n := by omega
      have hend : (j : Int) - 1 - (j : Int) = -1 := by omega
      have HE : Hid (M.reverse.take j = M.reverse) := List.take_of_length_le (by rw [List.length_reverse, HML.out]; exact Nat.le_refl _)
      have hown := hI.out.1
      rw [HE.out] at hown
      obtain ⟨A1, c1, rfl, h1, h2⟩ := hown.reads
      have HF : Hid (GotMap w wr (.returned (.slice A1 M.reverse.length c1)) M.reverse) := ⟨A1, c1, rfl, h1, h2, hI.out.2⟩
      rw [hend]
      clear hown h1 h2
      go_wp2_with fail
      go_ret
      exact HF.out

end Go.Proofs.YtphjaebkcimklaaGreatDoor
