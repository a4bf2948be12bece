/- What of a map is in a stretch, in plain lists. -/
import Derived.Test.YtnfhbljhohjkhaaELawAt
import Derived.Test.YtnfhbljhohjkhaaBPlain
set_option linter.unusedVariables false
set_option linter.unusedSimpArgs false
namespace Go.Proofs.Ytnfhbljhohjkhaa
open Go.RowKit

def geM (M : Pairs) (key : Bytes) : Pairs := M.filter fun q => !decide (cmp q.1 key = -1)
def inB (f t : Bytes) (c : Bool) (k : Bytes) : Bool := !decide (cmp k f = -1) && (!c || decide (cmp k t = -1))
def cutM (M : Pairs) (f t : Bytes) (c b : Bool) : Pairs := M.filter fun q => inB f t c q.1 == b
theorem ge_asc {M : Pairs} (key : Bytes) (h : Asc M) : Asc (geM M key) := List.Pairwise.filter _ h
theorem cutM_asc {M : Pairs} (f t : Bytes) (c b : Bool) (h : Asc M) : Asc (cutM M f t c b) := List.Pairwise.filter _ h
theorem cutM_len (M : Pairs) (f t : Bytes) (c b : Bool) : (cutM M f t c b).length ≤ M.length := List.length_filter_le _ _
theorem cutM_keys {M : Pairs} {n : Nat} (f t : Bytes) (c b : Bool) (h : ∀ p ∈ M, p.1.length ≤ n) : ∀ p ∈ cutM M f t c b, p.1.length ≤ n := fun p hp => h p (List.mem_filter.1 hp).1
theorem ge_len (M : Pairs) (key : Bytes) : (geM M key).length ≤ M.length := List.length_filter_le _ _
theorem less_len (M : Pairs) (key : Bytes) : (lessM M key).length ≤ M.length := List.length_filter_le _ _
theorem not_lt_of_lt {a b : Bytes} (h : cmp a b = -1) : ¬ cmp b a = -1 := fun h2 => by
  have := cmp_lt_asymm h
  rw [h2] at this; exact absurd this (by decide)
theorem ge_all {M : Pairs} {key : Bytes} (h : ∀ q ∈ M, cmp key q.1 = -1) : geM M key = M :=
  List.filter_eq_self.2 fun q hq => by rw [decide_eq_false (not_lt_of_lt (h q hq))]; rfl
theorem ge_more : ∀ (M : Pairs) (key : Bytes), Asc M → getM M key = none → geM M key = moreM M key := fun M key h hn => by
  unfold geM moreM
  refine List.filter_congr fun q hq => ?_
  rcases cmp_cases q.1 key with hc | hc | hc
  · rw [decide_eq_true hc, decide_eq_false (not_lt_of_lt hc)]; rfl
  · have := getM_mem M q.1 q.2 h hq
    rw [hc, hn] at this; cases this
  · rw [decide_eq_true hc, decide_eq_false (not_lt_of_lt hc)]; rfl
theorem ge_cons : ∀ (M : Pairs) (key x : Bytes), Asc M → getM M key = some x → geM M key = (key, x) :: moreM M key
  | [], _, _, _, h => by cases h
  | (k, y) :: M, key, x, h, hg => by
    rw [getM] at hg
    by_cases hk : k = key
    · rw [if_pos hk] at hg
      obtain rfl : y = x := by injection hg
      subst hk
      have hall : ∀ q ∈ M, cmp k q.1 = -1 := h.head
      have e1 : geM ((k, y) :: M) k = (k, y) :: geM M k := by
        unfold geM; rw [List.filter_cons, if_pos (by rw [cmp_self]; decide)]
      have e2 : moreM ((k, y) :: M) k = moreM M k := by
        unfold moreM; rw [List.filter_cons, if_neg (by rw [cmp_self]; decide)]
      rw [e1, e2, ge_all hall, (more_all hall).2]
    · rw [if_neg hk] at hg
      have hm := mem_getM M key x hg
      have hc : cmp k key = -1 := h.head _ hm
      have e1 : geM ((k, y) :: M) key = geM M key := by
        unfold geM; rw [List.filter_cons, if_neg (by rw [decide_eq_true hc]; decide)]
      have e2 : moreM ((k, y) :: M) key = moreM M key := by
        unfold moreM; rw [List.filter_cons, if_neg (by rw [decide_eq_false (not_lt_of_lt hc)]; decide)]
      rw [e1, e2]
      exact ge_cons M key x h.tail hg
theorem at_less (M : Pairs) (key x : Bytes) (h : Asc M) (hg : getM M key = some x) : (lessM M key).length < M.length ∧ M.getD (lessM M key).length ([], []) = (key, x) := by
  have hb := cut_back M key h
  rw [hg] at hb
  simp only [] at hb
  constructor
  · have := congrArg List.length hb
    simp only [List.length_append, List.length_cons, List.length_nil] at this
    omega
  · conv => lhs; arg 1; rw [← hb]
    rw [List.getD_eq_getElem?_getD, List.getElem?_append_right (Nat.le_refl _), Nat.sub_self]
    rfl
theorem below_less (T : PT) (key : Bytes) (h : Asc T.list) : T.belowT (fun k => decide (cmp k key = -1)) = (lessM T.list key).length := by
  rw [below_plain T _ h (fun a b hab hb => decide_eq_true (cmp_lt_trans a b key hab (of_decide_eq_true hb)))]
  unfold lessM
  rw [List.countP_eq_length_filter]
theorem sum_len (M : Pairs) (key : Bytes) : (lessM M key).length + (geM M key).length = M.length := by
  induction M with
  | nil => rfl
  | cons q M ih =>
    unfold lessM geM at ih ⊢
    rw [List.filter_cons, List.filter_cons]
    cases decide (cmp q.1 key = -1) <;> simp at ih ⊢ <;> omega

/-- Nothing lies in a stretch that ends ahead of its beginning. -/
theorem in_empty {f t : Bytes} (h : ¬ cmp t f = 1) (k : Bytes) : inB f t true k = false := by
  unfold inB
  by_cases h1 : cmp k f = -1
  · rw [decide_eq_true h1]; rfl
  · by_cases h2 : cmp k t = -1
    · exfalso
      rcases cmp_cases t f with hc | hc | hc
      · exact h1 (cmp_lt_trans k t f h2 hc)
      · rw [hc] at h2; exact h1 h2
      · exact h (cmp_lt_asymm hc)
    · rw [decide_eq_false h2]; simp
theorem cut_empty {f t : Bytes} (h : ¬ cmp t f = 1) (M : Pairs) : cutM M f t true true = [] ∧ cutM M f t true false = M := by
  constructor
  · exact List.filter_eq_nil_iff.2 fun q _ => by rw [in_empty h]; decide
  · exact List.filter_eq_self.2 fun q _ => by rw [in_empty h]; rfl
theorem cut_open (M : Pairs) (f t : Bytes) : cutM M f t false true = geM M f ∧ cutM M f t false false = lessM M f := by
  constructor
  · unfold cutM geM
    refine List.filter_congr fun q _ => ?_
    unfold inB; simp
  · unfold cutM lessM
    refine List.filter_congr fun q _ => ?_
    unfold inB; cases decide (cmp q.1 f = -1) <;> rfl
theorem cut_closed (M : Pairs) (f t : Bytes) : cutM M f t true true = lessM (geM M f) t := by
  unfold cutM lessM geM
  rw [List.filter_filter]
  refine List.filter_congr fun q _ => ?_
  unfold inB; cases decide (cmp q.1 f = -1) <;> cases decide (cmp q.1 t = -1) <;> rfl
theorem cut_rest : ∀ (M : Pairs) (f t : Bytes), Asc M → cutM M f t true false = lessM M f ++ geM (geM M f) t
  | [], _, _, _ => rfl
  | (k, x) :: M, f, t, h => by
    by_cases hk : cmp k f = -1
    · have ih := cut_rest M f t h.tail
      have e1 : cutM ((k, x) :: M) f t true false = (k, x) :: cutM M f t true false := by
        unfold cutM; rw [List.filter_cons, if_pos (by unfold inB; rw [decide_eq_true hk]; rfl)]
      have e2 : lessM ((k, x) :: M) f = (k, x) :: lessM M f := by
        unfold lessM; rw [List.filter_cons, if_pos (decide_eq_true hk)]
      have e3 : geM ((k, x) :: M) f = geM M f := by
        unfold geM; rw [List.filter_cons, if_neg (by rw [decide_eq_true hk]; decide)]
      rw [e1, e2, e3, ih]; rfl
    · have hall : ∀ q ∈ (k, x) :: M, ¬ cmp q.1 f = -1 := fun q hq => by
        rcases List.mem_cons.1 hq with rfl | hq
        · exact hk
        · exact fun h2 => hk (cmp_lt_trans _ _ _ (h.head q hq) h2)
      have e1 : lessM ((k, x) :: M) f = [] := List.filter_eq_nil_iff.2 fun q hq => by rw [decide_eq_false (hall q hq)]; decide
      have e2 : geM ((k, x) :: M) f = (k, x) :: M := List.filter_eq_self.2 fun q hq => by rw [decide_eq_false (hall q hq)]; rfl
      rw [e1, e2, List.nil_append]
      unfold cutM geM
      refine List.filter_congr fun q hq => ?_
      unfold inB
      rw [decide_eq_false (hall q hq)]
      cases decide (cmp q.1 t = -1) <;> rfl

/-- How many lie in a closed stretch. -/
theorem count_closed (M : Pairs) (f t : Bytes) : (¬ cmp f t = 1 → (lessM M t).length = (lessM M f).length + (cutM M f t true true).length) ∧ (cmp f t = 1 → (lessM M t).length ≤ (lessM M f).length ∧ cutM M f t true true = []) := by
  constructor
  · intro h
    have hlt : ∀ k, cmp k f = -1 → cmp k t = -1 := fun k hk => by
      rcases cmp_cases f t with hc | hc | hc
      · exact cmp_lt_trans k f t hk hc
      · rw [← hc]; exact hk
      · exact absurd (cmp_lt_asymm hc) h
    induction M with
    | nil => rfl
    | cons q M ih =>
      unfold lessM cutM at ih ⊢
      rw [List.filter_cons, List.filter_cons, List.filter_cons]
      unfold inB at ih ⊢
      by_cases h1 : cmp q.1 f = -1
      · rw [decide_eq_true h1, decide_eq_true (hlt _ h1)]; simp at ih ⊢; omega
      · by_cases h2 : cmp q.1 t = -1
        · rw [decide_eq_false h1, decide_eq_true h2]; simp at ih ⊢; omega
        · rw [decide_eq_false h1, decide_eq_false h2]; simp at ih ⊢; omega
  · intro h
    have hlt : ∀ k, cmp k t = -1 → cmp k f = -1 := fun k hk => cmp_lt_trans k t f hk (cmp_gt h)
    refine ⟨?_, (cut_empty (fun h2 => absurd h2 (fun h2 => by rw [cmp_neg, h] at h2; exact absurd h2 (by decide))) M).1⟩
    induction M with
    | nil => exact Nat.le_refl _
    | cons q M ih =>
      unfold lessM at ih ⊢
      rw [List.filter_cons, List.filter_cons]
      by_cases h1 : cmp q.1 t = -1
      · rw [decide_eq_true h1, decide_eq_true (hlt _ h1)]; simp at ih ⊢; omega
      · by_cases h2 : cmp q.1 f = -1
        · rw [decide_eq_false h1, decide_eq_true h2]; simp at ih ⊢; omega
        · rw [decide_eq_false h1, decide_eq_false h2]; simp at ih ⊢; omega
/-- What Count counts with. -/
def endT (T : PT) (t : Bytes) (c : Bool) : Nat := if c = true then T.belowT (fun k => decide (cmp k t = -1)) else T.size
theorem count_plain (T : PT) (f t : Bytes) (c : Bool) (h : Asc T.list) :
    (if ((endT T t c : Nat) : Int) - ((T.belowT (fun k => decide (cmp k f = -1)) : Nat) : Int) < 0 then 0 else ((endT T t c : Nat) : Int) - ((T.belowT (fun k => decide (cmp k f = -1)) : Nat) : Int)) = ((cutM T.list f t c true).length : Int) := by
  have e1 := below_less T f h
  have e2 := below_less T t h
  have hs := T.size_list
  unfold endT
  cases c with
  | false =>
    have hsum := sum_len T.list f
    rw [(cut_open T.list f t).1]
    simp only [Bool.false_eq_true, if_false]
    rw [e1]
    split <;> omega
  | true =>
    simp only [if_true]
    rw [e1, e2]
    by_cases hc : cmp f t = 1
    · obtain ⟨g1, g2⟩ := (count_closed T.list f t).2 hc
      rw [g2]
      simp only [List.length_nil]
      split <;> omega
    · have g := (count_closed T.list f t).1 hc
      split <;> omega

theorem cut_turn (M : Pairs) (f t f' t' : Bytes) (c c' : Bool) : cutM (cutM M f t c true) f' t' c' true = cutM (cutM M f' t' c' true) f t c true := by
  unfold cutM
  rw [List.filter_filter, List.filter_filter]
  refine List.filter_congr fun q _ => Bool.and_comm _ _
theorem cut_sum (M : Pairs) (f t : Bytes) (c : Bool) : (cutM M f t c false).length + (cutM M f t c true).length = M.length := by
  induction M with
  | nil => rfl
  | cons q M ih =>
    unfold cutM at ih ⊢
    rw [List.filter_cons, List.filter_cons]
    cases inB f t c q.1 <;> simp at ih ⊢ <;> omega

end Go.Proofs.Ytnfhbljhohjkhaa
