/- The plain law of BlendLaws. -/
import Derived.Test.YtnfhbljhohjkhaaBOdd
set_option linter.unusedVariables false
set_option linter.unusedSimpArgs false
namespace Go.Proofs.Ytnfhbljhohjkhaa
open Go.RowKit Go.Deep

theorem uniL_nil' (Y : Pairs) (h : Asc Y) : uniL [] Y = Y := blends_eq (uniL_blends [] Y List.Pairwise.nil h) (union_nil' Y h)
theorem uniL_self (X : Pairs) (h : Asc X) : uniL X X = X := blends_eq (uniL_blends X X h h) ⟨h, fun key => by
  unfold fUnion; cases getM X key <;> rfl⟩
theorem get_minus (X Y : Pairs) (h : Asc X) (key : Bytes) : getM (partL X Y false) key = fMinus (getM X key) (getM Y key) := (partL_minus X Y h).2 key
theorem get_both (X Y : Pairs) (h : Asc X) (key : Bytes) : getM (partL X Y true) key = fBoth (getM Y key) (getM X key) := (partL_both X Y h).2 key
theorem part_join (A B : Pairs) (h : Asc A) : uniL (partL A B false) (partL A B true) = A :=
  blends_eq (uniL_blends _ _ (partL_asc _ _ _ h) (partL_asc _ _ _ h)) ⟨h, fun key => by
    rw [get_minus A B h, get_both A B h]
    unfold fUnion fMinus fBoth
    cases getM A key <;> cases getM B key <;> rfl⟩
theorem no_minus {X Y : Pairs} (h : Asc X) (hn : ∀ key, fMinus (getM X key) (getM Y key) = none) : partL X Y false = [] :=
  blends_eq (partL_minus X Y h) ⟨List.Pairwise.nil, fun key => (hn key).symm⟩
theorem no_both {X Y : Pairs} (h : Asc X) (hn : ∀ key, fBoth (getM Y key) (getM X key) = none) : partL X Y true = [] :=
  blends_eq (partL_both X Y h) ⟨List.Pairwise.nil, fun key => (hn key).symm⟩
theorem both_none (A B : Pairs) (h : Asc A) : partL (partL A B false) (partL A B true) true = [] := no_both (partL_asc _ _ _ h) fun key => by
  rw [get_minus A B h, get_both A B h]
  unfold fMinus fBoth
  cases getM A key <;> cases getM B key <;> rfl
theorem sub_first (A B : Pairs) (h : Asc A) (h' : Asc B) : partL A (uniL A B) false = [] := no_minus h fun key => by
  rw [uniL_get B A key h h']
  unfold fMinus fUnion
  cases getM A key <;> cases getM B key <;> rfl
theorem sub_second (A B : Pairs) (h : Asc A) (h' : Asc B) : partL B (uniL A B) false = [] := no_minus h' fun key => by
  rw [uniL_get B A key h h']
  unfold fMinus fUnion
  cases getM A key <;> cases getM B key <;> rfl
theorem sub_both (A B : Pairs) (h : Asc A) : partL (partL A B true) A false = [] := no_minus (partL_asc _ _ _ h) fun key => by
  rw [get_both A B h]
  unfold fMinus fBoth
  cases getM A key <;> cases getM B key <;> rfl
theorem sub_both' (A B : Pairs) (h : Asc A) : partL (partL A B true) B false = [] := no_minus (partL_asc _ _ _ h) fun key => by
  rw [get_both A B h]
  unfold fMinus fBoth
  cases getM A key <;> cases getM B key <;> rfl
theorem sub_self (A : Pairs) (h : Asc A) : partL A A false = [] := no_minus h fun key => by
  unfold fMinus
  cases getM A key <;> rfl
theorem part_len (Y : Pairs) : ∀ X : Pairs, (partL X Y false).length + (partL X Y true).length = X.length
  | [] => rfl
  | p :: X => by
    have ih := part_len Y X
    unfold partL at ih ⊢
    rw [List.filter_cons, List.filter_cons]
    cases (getM Y p.1).isSome <;> simp at ih ⊢ <;> omega
theorem ins_len_eq (k x : Bytes) : ∀ M : Pairs, Asc M → (insL k x M).length = M.length + (if (getM M k).isSome = true then 0 else 1) := by
  intro M h
  have h1 : Asc (insL k x M) := ins_asc k x M h
  have e1 : ∀ key, getM (insL k x M) key = if k = key then some x else getM M key := fun key => getM_ins k x M key h
  by_cases hs : (getM M k).isSome = true
  · rw [if_pos hs]
    obtain ⟨y, hy⟩ := Option.isSome_iff_exists.1 hs
    refine Nat.le_antisymm (sub_len _ _ h1 fun p hp => ?_) (sub_len _ _ h fun p hp => ?_)
    · rcases ins_mem k x M p hp with e | hm
      · exact ⟨(k, y), mem_getM M k y hy, by rw [e]⟩
      · exact ⟨p, hm, rfl⟩
    · have hg := getM_mem M p.1 p.2 h hp
      have hg2 : (getM (insL k x M) p.1).isSome = true := by
        rw [e1]; split
        · rfl
        · rw [hg]; rfl
      obtain ⟨z, hz⟩ := Option.isSome_iff_exists.1 hg2
      exact ⟨(p.1, z), mem_getM _ _ _ hz, rfl⟩
  · rw [if_neg hs]
    have hnk : ∀ p ∈ M, p.1 ≠ k := fun p hp e => by
      have := getM_mem M p.1 p.2 h hp
      rw [e] at this
      rw [this] at hs
      exact hs rfl
    have h2 : (insL k x M).length ≤ M.length + 1 := ins_len k x M
    have h3 : M.length ≤ ((insL k x M).filter fun q => decide (q.1 ≠ k)).length := by
      refine sub_len _ _ h fun p hp => ?_
      have hg := getM_mem M p.1 p.2 h hp
      have hg2 : getM (insL k x M) p.1 = some p.2 := by rw [e1, if_neg (fun e => hnk p hp e.symm), hg]
      exact ⟨(p.1, p.2), List.mem_filter.2 ⟨mem_getM _ _ _ hg2, decide_eq_true (hnk p hp)⟩, rfl⟩
    have h4 : ((insL k x M).filter fun q => decide (q.1 ≠ k)).length < (insL k x M).length := by
      refine Nat.lt_of_le_of_ne (List.length_filter_le _ _) fun e => ?_
      have hk : (k, x) ∈ insL k x M := mem_getM _ _ _ (by rw [e1, if_pos rfl])
      have := List.length_filter_eq_length_iff.1 e (k, x) hk
      simp at this
    omega
theorem uni_len : ∀ (Y X : Pairs), Asc X → Asc Y → (uniL X Y).length + (partL Y X true).length = X.length + Y.length
  | [], X, _, _ => rfl
  | (k, x) :: Y, X, hX, hY => by
    have ih := uni_len Y (insL k x X) (ins_asc k x X hX) hY.tail
    have hp : partL Y (insL k x X) true = partL Y X true := by
      unfold partL
      refine List.filter_congr fun p hp => ?_
      rw [getM_ins k x X p.1 hX, if_neg (fun e => cmp_ne (hY.head p hp) e)]
    have hl := ins_len_eq k x X hX
    show (uniL (insL k x X) Y).length + _ = _
    rw [hp] at ih
    unfold partL at ih ⊢
    rw [List.filter_cons, List.length_cons]
    by_cases hs : (getM X k).isSome = true
    · rw [if_pos hs] at hl
      have e : ((getM X (k, x).1).isSome == true) = true := by simpa using hs
      rw [if_pos e, List.length_cons]
      omega
    · rw [if_neg hs] at hl
      have e : ¬ ((getM X (k, x).1).isSome == true) = true := by simpa using hs
      rw [if_neg e]
      omega
theorem both_len (A B : Pairs) (h : Asc A) (h' : Asc B) : (partL A B true).length = (partL B A true).length := by
  have half : ∀ A B : Pairs, Asc A → Asc B → (partL A B true).length ≤ (partL B A true).length := fun A B h h' =>
    sub_len _ _ (partL_asc _ _ _ h) fun p hp => by
      have hm := List.mem_filter.1 hp
      have hs : (getM B p.1).isSome = true := by simpa using hm.2
      obtain ⟨y, hy⟩ := Option.isSome_iff_exists.1 hs
      have ha := getM_mem A p.1 p.2 h hm.1
      exact ⟨(p.1, y), List.mem_filter.2 ⟨mem_getM B p.1 y hy, by simp [ha]⟩, rfl⟩
  exact Nat.le_antisymm (half A B h h') (half B A h' h)
theorem union_len (A B : Pairs) (h : Asc A) (h' : Asc B) : (uniL A B).length + (partL A B true).length = A.length + B.length := by
  rw [both_len A B h h']; exact uni_len B A h h'

end Go.Proofs.Ytnfhbljhohjkhaa
