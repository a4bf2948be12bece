/- The plain law: a tree's walks along the keys and the reference's sorted map are one. -/
import Derived.Test.YtphjaebkcimklaaGreatDoorTMap2
set_option linter.unusedVariables false
set_option linter.unusedSimpArgs false
namespace Go.Proofs.YtphjaebkcimklaaGreatDoor
open Go.RowKit

/-- A pair put into a sorted list. -/
def insL (k x : Bytes) : Pairs → Pairs
  | [] => [(k, x)]
  | q :: M => if cmp q.1 k = -1 then q :: insL k x M else if q.1 = k then (k, x) :: M else (k, x) :: q :: M

theorem Asc.tail {q : Bytes × Bytes} {M : Pairs} (h : Asc (q :: M)) : Asc M := (List.pairwise_cons.1 h).2
theorem Asc.head {q : Bytes × Bytes} {M : Pairs} (h : Asc (q :: M)) : ∀ p ∈ M, cmp q.1 p.1 = -1 := (List.pairwise_cons.1 h).1
theorem Asc.left {A B : Pairs} (h : Asc (A ++ B)) : Asc A := (List.pairwise_append.1 h).1
theorem Asc.right {A B : Pairs} (h : Asc (A ++ B)) : Asc B := (List.pairwise_append.1 h).2.1
theorem Asc.cross {A B : Pairs} (h : Asc (A ++ B)) : ∀ a ∈ A, ∀ b ∈ B, cmp a.1 b.1 = -1 := (List.pairwise_append.1 h).2.2
theorem cmp_ne {a b : Bytes} (h : cmp a b = -1) : a ≠ b := fun e => by subst e; rw [cmp_self] at h; exact absurd h (by decide)

theorem fold_true (k x : Bytes) : ∀ (M : Pairs) (acc : Pairs), (∀ q ∈ M, q.1 ≠ k) → M.foldl (putStep k x) (acc, true) = (acc ++ M, true)
  | [], acc, _ => by simp
  | q :: M, acc, h => by
    rw [List.foldl_cons]
    have e : putStep k x (acc, true) q = (acc ++ [q], true) := by simp [putStep, h q (by simp)]
    rw [e, fold_true k x M _ fun p hp => h p (List.mem_cons_of_mem _ hp)]
    simp
theorem fold_false (k x : Bytes) : ∀ (M : Pairs) (acc : Pairs), Asc M → (M.foldl (putStep k x) (acc, false)).1 ++ (if (M.foldl (putStep k x) (acc, false)).2 = true then [] else [(k, x)]) = acc ++ insL k x M
  | [], acc, _ => by simp [insL]
  | q :: M, acc, h => by
    rw [List.foldl_cons]
    by_cases hq : cmp q.1 k = -1
    · have e : putStep k x (acc, false) q = (acc ++ [q], false) := by simp [putStep, hq, cmp_ne hq]
      rw [e, fold_false k x M _ h.tail, insL, if_pos hq]
      simp
    · have hgt : ∀ p ∈ M, p.1 ≠ k := fun p hp e => hq (by rw [← e]; exact h.head p hp)
      by_cases he : q.1 = k
      · have e : putStep k x (acc, false) q = (acc ++ [(k, x)], true) := by simp [putStep, he, cmp_self k]
        rw [e, fold_true k x M _ hgt, insL, if_neg hq, if_pos he]
        simp
      · have e : putStep k x (acc, false) q = (acc ++ [(k, x)] ++ [q], true) := by simp [putStep, hq, he]
        rw [e, fold_true k x M _ hgt, insL, if_neg hq, if_neg he]
        simp
theorem putM_ins (M : Pairs) (k x : Bytes) (h : Asc M) : putM M k x = insL k x M := by
  have := fold_false k x M [] h
  rw [List.nil_append] at this
  exact this

theorem ins_past (k x : Bytes) : ∀ (A B : Pairs), (∀ q ∈ A, cmp q.1 k = -1) → insL k x (A ++ B) = A ++ insL k x B
  | [], B, _ => rfl
  | q :: A, B, h => by
    rw [List.cons_append, insL, if_pos (h q (by simp)), ins_past k x A B fun p hp => h p (List.mem_cons_of_mem _ hp)]
    rfl
theorem ins_ahead (k x k' y : Bytes) (B : Pairs) (hk : cmp k k' = -1) : ∀ A : Pairs, insL k x (A ++ (k', y) :: B) = insL k x A ++ (k', y) :: B
  | [] => by
    show insL k x ((k', y) :: B) = (k, x) :: (k', y) :: B
    rw [insL, if_neg (by rw [cmp_neg, hk]; decide), if_neg (fun e => cmp_ne hk e.symm)]
  | q :: A => by
    rw [List.cons_append, insL, insL]
    by_cases h1 : cmp q.1 k = -1
    · rw [if_pos h1, if_pos h1, ins_ahead k x k' y B hk A]; rfl
    · rw [if_neg h1, if_neg h1]
      by_cases h2 : q.1 = k
      · rw [if_pos h2, if_pos h2]; rfl
      · rw [if_neg h2, if_neg h2]; rfl
theorem ins_mem (k x : Bytes) : ∀ (M : Pairs) (p : Bytes × Bytes), p ∈ insL k x M → p = (k, x) ∨ p ∈ M
  | [], p, h => by simp [insL] at h; exact .inl h
  | q :: M, p, h => by
    unfold insL at h
    split at h
    · rcases List.mem_cons.1 h with h | h
      · exact .inr (by rw [h]; simp)
      · rcases ins_mem k x M p h with h | h
        · exact .inl h
        · exact .inr (List.mem_cons_of_mem _ h)
    · split at h
      · rcases List.mem_cons.1 h with h | h
        · exact .inl h
        · exact .inr (List.mem_cons_of_mem _ h)
      · rcases List.mem_cons.1 h with h | h
        · exact .inl h
        · exact .inr h
theorem cmp_cases (a b : Bytes) : cmp a b = -1 ∨ a = b ∨ cmp b a = -1 := by
  rcases cmp3 a b with h | h | h
  · exact .inr (.inl ((cmp_eq0 a b).1 h))
  · exact .inr (.inr (cmp_gt h))
  · exact .inl h
theorem ins_asc (k x : Bytes) : ∀ M : Pairs, Asc M → Asc (insL k x M)
  | [], _ => List.pairwise_cons.2 ⟨by simp, List.Pairwise.nil⟩
  | q :: M, h => by
    unfold insL
    split
    · next hq =>
      refine List.pairwise_cons.2 ⟨fun p hp => ?_, ins_asc k x M h.tail⟩
      rcases ins_mem k x M p hp with rfl | hp
      · exact hq
      · exact h.head p hp
    · next hq =>
      split
      · next he =>
        refine List.pairwise_cons.2 ⟨fun p hp => ?_, h.tail⟩
        have := h.head p hp
        rw [he] at this; exact this
      · next he =>
        have hkq : cmp k q.1 = -1 := by
          rcases cmp_cases k q.1 with h1 | h1 | h1
          · exact h1
          · exact absurd h1.symm he
          · exact absurd h1 hq
        refine List.pairwise_cons.2 ⟨fun p hp => ?_, h⟩
        rcases List.mem_cons.1 hp with rfl | hp
        · exact hkq
        · exact cmp_lt_trans _ _ _ hkq (h.head p hp)

/-! ### get -/
theorem getM_past : ∀ (A B : Pairs) (key : Bytes), (∀ q ∈ A, q.1 ≠ key) → getM (A ++ B) key = getM B key
  | [], B, key, _ => rfl
  | (k, x) :: A, B, key, h => by
    rw [List.cons_append, getM, if_neg (h (k, x) (by simp)), getM_past A B key fun p hp => h p (List.mem_cons_of_mem _ hp)]
theorem getM_nil : ∀ (A : Pairs) (key : Bytes), (∀ q ∈ A, q.1 ≠ key) → getM A key = none
  | [], key, _ => rfl
  | (k, x) :: A, key, h => by
    rw [getM, if_neg (h (k, x) (by simp)), getM_nil A key fun p hp => h p (List.mem_cons_of_mem _ hp)]
theorem getM_ahead : ∀ (A B : Pairs) (key : Bytes), (∀ q ∈ B, q.1 ≠ key) → getM (A ++ B) key = getM A key
  | [], B, key, h => getM_nil B key h
  | (k, x) :: A, B, key, h => by
    rw [List.cons_append, getM, getM, getM_ahead A B key h]

theorem node_asc {l r : PT} {k x : Bytes} (h : Asc (PT.node l k x r).list) : Asc l.list ∧ Asc r.list ∧ (∀ q ∈ l.list, cmp q.1 k = -1) ∧ (∀ q ∈ r.list, cmp k q.1 = -1) := by
  simp only [PT.list] at h
  exact ⟨h.left, h.right.tail, fun q hq => h.cross q hq (k, x) (by simp), fun q hq => h.right.head q hq⟩

theorem get_plain : ∀ (T : PT) (key : Bytes), Asc T.list → T.get key = getM T.list key
  | .nil, _, _ => rfl
  | .node l k x r, key, h => by
    obtain ⟨hl, hr, h1, h2⟩ := node_asc h
    have ihl := get_plain l key hl
    have ihr := get_plain r key hr
    simp only [PT.get, PT.list]
    by_cases h0 : cmp key k = 0
    · rw [if_pos h0]
      obtain rfl := (cmp_eq0 key k).1 h0
      rw [getM_past _ _ _ fun q hq => cmp_ne (h1 q hq), getM, if_pos rfl]
    · rw [if_neg h0]
      by_cases h3 : cmp key k = 1
      · rw [if_pos h3, ihr, getM_past _ _ _ fun q hq => cmp_ne (cmp_lt_trans _ _ _ (h1 q hq) (cmp_gt h3)), getM, if_neg (cmp_ne (cmp_gt h3))]
      · have h4 : cmp key k = -1 := by rcases cmp3 key k with h | h | h; exact absurd h h0; exact absurd h h3; exact h
        rw [if_neg h3, ihl, getM_ahead]
        intro q hq
        rcases List.mem_cons.1 hq with rfl | hq
        · exact (cmp_ne h4).symm
        · exact (cmp_ne (cmp_lt_trans _ _ _ h4 (h2 q hq))).symm

theorem put_plain : ∀ (T : PT) (key v : Bytes), Asc T.list → T.putL key v = insL key v T.list
  | .nil, _, _, _ => rfl
  | .node l k x r, key, v, h => by
    obtain ⟨hl, hr, h1, h2⟩ := node_asc h
    have ihl := put_plain l key v hl
    have ihr := put_plain r key v hr
    simp only [PT.putL, PT.list]
    by_cases h0 : cmp key k = 0
    · rw [if_pos h0]
      obtain rfl := (cmp_eq0 key k).1 h0
      rw [ins_past _ _ _ _ h1, insL, if_neg (by rw [cmp_self]; decide), if_pos rfl]
    · rw [if_neg h0]
      by_cases h3 : cmp key k = 1
      · rw [if_pos h3, ihr, ins_past _ _ _ _ fun q hq => cmp_lt_trans _ _ _ (h1 q hq) (cmp_gt h3), insL, if_pos (cmp_gt h3)]
      · have h4 : cmp key k = -1 := by rcases cmp3 key k with h | h | h; exact absurd h h0; exact absurd h h3; exact h
        rw [if_neg h3, ihl, ins_ahead _ _ _ _ _ h4]

theorem without_keep (A : Pairs) (key : Bytes) (h : ∀ q ∈ A, q.1 ≠ key) : withoutM A key = A := by
  rw [withoutM, List.filter_eq_self]
  intro q hq
  simpa using h q hq
theorem without_append (A B : Pairs) (key : Bytes) : withoutM (A ++ B) key = withoutM A key ++ withoutM B key := by simp [withoutM]
theorem del_plain : ∀ (T : PT) (key : Bytes), Asc T.list → T.delL key = withoutM T.list key ∧ T.has key = (getM T.list key).isSome
  | .nil, _, _ => ⟨rfl, rfl⟩
  | .node l k x r, key, h => by
    obtain ⟨hl, hr, h1, h2⟩ := node_asc h
    have ihl := del_plain l key hl
    have ihr := del_plain r key hr
    simp only [PT.delL, PT.has, PT.list]
    rw [without_append]
    by_cases h0 : cmp key k = 0
    · rw [if_pos h0, if_pos h0]
      obtain rfl := (cmp_eq0 key k).1 h0
      have a1 : ∀ q ∈ l.list, q.1 ≠ key := fun q hq => cmp_ne (h1 q hq)
      have a2 : ∀ q ∈ r.list, q.1 ≠ key := fun q hq => (cmp_ne (h2 q hq)).symm
      constructor
      · rw [without_keep _ _ a1]
        have : withoutM ((key, x) :: r.list) key = withoutM r.list key := by simp [withoutM]
        rw [this, without_keep _ _ a2]
      · rw [getM_past _ _ _ a1, getM, if_pos rfl]; rfl
    · rw [if_neg h0, if_neg h0]
      by_cases h3 : cmp key k = 1
      · have a1 : ∀ q ∈ l.list, q.1 ≠ key := fun q hq => cmp_ne (cmp_lt_trans _ _ _ (h1 q hq) (cmp_gt h3))
        have a2 : k ≠ key := cmp_ne (cmp_gt h3)
        rw [if_pos h3, if_pos h3]
        constructor
        · rw [without_keep _ _ a1, ihr.1]
          have : withoutM ((k, x) :: r.list) key = (k, x) :: withoutM r.list key := by simp [withoutM, a2]
          rw [this]
        · rw [getM_past _ _ _ a1, getM, if_neg a2]; exact ihr.2
      · have h4 : cmp key k = -1 := by rcases cmp3 key k with h | h | h; exact absurd h h0; exact absurd h h3; exact h
        have a2 : ∀ q ∈ (k, x) :: r.list, q.1 ≠ key := by
          intro q hq
          rcases List.mem_cons.1 hq with rfl | hq
          · exact (cmp_ne h4).symm
          · exact (cmp_ne (cmp_lt_trans _ _ _ h4 (h2 q hq))).symm
        rw [if_neg h3, if_neg h3]
        constructor
        · rw [without_keep _ _ a2, ihl.1]
        · rw [getM_ahead _ _ _ a2]; exact ihl.2
theorem without_asc (M : Pairs) (key : Bytes) (h : Asc M) : Asc (withoutM M key) := List.Pairwise.filter _ h

/-! ### The height -/
theorem even_child {l r : Nat} (h : evenB l r = true) : 4 * (l + 1) ≤ 3 * (l + 1 + r + 1) ∧ 4 * (r + 1) ≤ 3 * (l + 1 + r + 1) := by
  unfold evenB at h
  simp only [Bool.and_eq_true, decide_eq_true_eq] at h
  omega
theorem height_pow : ∀ T : PT, T.even → 4 ^ T.height ≤ 3 ^ T.height * (T.size + 1)
  | .nil, _ => by simp [PT.height, PT.size]
  | .node l k x r, h => by
    obtain ⟨he, hl, hr⟩ := h
    have h1 := height_pow l hl
    have h2 := height_pow r hr
    obtain ⟨a1, a2⟩ := even_child he
    simp only [PT.height, PT.size]
    rcases Nat.le_total l.height r.height with hle | hle
    · rw [Nat.max_eq_right hle, Nat.add_comm 1, Nat.pow_succ, Nat.pow_succ]
      calc 4 ^ r.height * 4 ≤ 3 ^ r.height * (r.size + 1) * 4 := Nat.mul_le_mul_right _ h2
        _ = 3 ^ r.height * (4 * (r.size + 1)) := by rw [Nat.mul_assoc, Nat.mul_comm (r.size + 1) 4]
        _ ≤ 3 ^ r.height * (3 * (l.size + 1 + r.size + 1)) := Nat.mul_le_mul_left _ a2
        _ = 3 ^ r.height * 3 * (l.size + 1 + r.size + 1) := by rw [Nat.mul_assoc]
    · rw [Nat.max_eq_left hle, Nat.add_comm 1, Nat.pow_succ, Nat.pow_succ]
      calc 4 ^ l.height * 4 ≤ 3 ^ l.height * (l.size + 1) * 4 := Nat.mul_le_mul_right _ h1
        _ = 3 ^ l.height * (4 * (l.size + 1)) := by rw [Nat.mul_assoc, Nat.mul_comm (l.size + 1) 4]
        _ ≤ 3 ^ l.height * (3 * (l.size + 1 + r.size + 1)) := Nat.mul_le_mul_left _ a1
        _ = 3 ^ l.height * 3 * (l.size + 1 + r.size + 1) := by rw [Nat.mul_assoc]
/-- What the meters' bound says. -/
theorem height_cube (T : PT) (h : T.even) : 2 ^ T.height ≤ (T.size + 1) * (T.size + 1) * (T.size + 1) := by
  have h1 := height_pow T h
  have h3 : (4 ^ T.height) ^ 3 ≤ (3 ^ T.height * (T.size + 1)) ^ 3 := Nat.pow_le_pow_left h1 3
  have e1 : (4 ^ T.height) ^ 3 = 64 ^ T.height := by rw [← Nat.pow_mul, Nat.mul_comm, Nat.pow_mul]
  have e2 : (3 ^ T.height * (T.size + 1)) ^ 3 = 27 ^ T.height * ((T.size + 1) * (T.size + 1) * (T.size + 1)) := by
    rw [Nat.mul_pow, ← Nat.pow_mul, Nat.mul_comm T.height 3, Nat.pow_mul]
    congr 1
    simp [Nat.pow_succ]
  have h4 : 54 ^ T.height ≤ 64 ^ T.height := Nat.pow_le_pow_left (by omega) _
  have e3 : (54 : Nat) ^ T.height = 27 ^ T.height * 2 ^ T.height := by rw [← Nat.mul_pow]
  rw [e1, e2] at h3
  have h5 : 27 ^ T.height * 2 ^ T.height ≤ 27 ^ T.height * ((T.size + 1) * (T.size + 1) * (T.size + 1)) := by
    rw [← e3]; exact Nat.le_trans h4 h3
  exact Nat.le_of_mul_le_mul_left h5 (Nat.pow_pos (by omega))

end Go.Proofs.YtphjaebkcimklaaGreatDoor
