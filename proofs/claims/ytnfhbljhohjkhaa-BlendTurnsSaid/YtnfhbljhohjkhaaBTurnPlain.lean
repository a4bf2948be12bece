/- The plain law of BlendTurns. -/
import Derived.Test.YtnfhbljhohjkhaaBLawPlain
set_option linter.unusedVariables false
set_option linter.unusedSimpArgs false
namespace Go.Proofs.Ytnfhbljhohjkhaa
open Go.RowKit Go.Deep

theorem get_uni (X Y : Pairs) (h : Asc X) (h' : Asc Y) (key : Bytes) : getM (uniL X Y) key = fUnion (getM X key) (getM Y key) := uniL_get Y X key h h'
theorem uni_turn (A B : Pairs) (h : Asc A) (h' : Asc B) : partL (uniL A B) (uniL B A) false = [] := no_minus (uniL_asc _ _ h) fun key => by
  rw [get_uni A B h h', get_uni B A h' h]
  unfold fMinus fUnion
  cases getM A key <;> cases getM B key <;> rfl
theorem both_turn (A B : Pairs) (h : Asc A) (h' : Asc B) : partL (partL A B true) (partL B A true) false = [] := no_minus (partL_asc _ _ _ h) fun key => by
  rw [get_both A B h, get_both B A h']
  unfold fMinus fBoth
  cases getM A key <;> cases getM B key <;> rfl
theorem odd_asc (A B : Pairs) (h : Asc A) : Asc (oddL A B) := uniL_asc _ _ (partL_asc _ _ _ h)
theorem odd_turn (A B : Pairs) (h : Asc A) (h' : Asc B) : partL (oddL A B) (oddL B A) false = [] := no_minus (odd_asc A B h) fun key => by
  unfold oddL
  rw [get_uni _ _ (partL_asc _ _ _ h) (partL_asc _ _ _ h'), get_uni _ _ (partL_asc _ _ _ h') (partL_asc _ _ _ h), get_minus A B h, get_minus B A h']
  unfold fMinus fUnion
  cases getM A key <;> cases getM B key <;> rfl
theorem uni_third (A B C : Pairs) (h : Asc A) (h' : Asc B) (h'' : Asc C) : uniL (uniL A B) C = uniL A (uniL B C) :=
  blends_eq (uniL_blends _ _ (uniL_asc _ _ h) h'') ⟨uniL_asc _ _ h, fun key => by
    rw [get_uni A _ h (uniL_asc _ _ h'), get_uni B C h' h'', get_uni A B h h']
    unfold fUnion
    cases getM A key <;> cases getM B key <;> cases getM C key <;> rfl⟩
theorem both_third (A B C : Pairs) (h : Asc A) (h' : Asc B) : partL (partL A B true) C true = partL A (partL B C true) true :=
  blends_eq (partL_both _ _ (partL_asc _ _ _ h)) ⟨partL_asc _ _ _ h, fun key => by
    rw [get_both A _ h, get_both B C h', get_both A B h]
    unfold fBoth
    cases getM A key <;> cases getM B key <;> cases getM C key <;> rfl⟩

end Go.Proofs.Ytnfhbljhohjkhaa
