/- The contracts of Height, join and Join. -/
import Derived.Test.YtocideolihbnaaaTEven
set_option linter.unusedVariables false
set_option linter.unusedSimpArgs false
namespace Go.Proofs.Ytocideolihbnaaa
open Go.RowKit

theorem PT.size_of {T : PT} {L : Pairs} (h : T.list = L) : T.size = L.length := by rw [← h, PT.size_list]
theorem up_imp {S : Nat → Prop} {n m : Nat} (h : n ≤ m) : ∀ b : Nat, Up S m b → Up S n b := fun b hb => by
  rcases hb with hb | hb
  · exact .inl hb
  · exact .inr (Nat.le_trans h hb)


/-- How high a tree is. -/
def PT.height : PT → Nat
  | .nil => 0
  | .node l _ _ r => 1 + max l.height r.height
theorem PT.height_le : ∀ T : PT, T.height ≤ T.size
  | .nil => Nat.le_refl _
  | .node l _ _ r => by simp only [PT.height, PT.size]; have := l.height_le; have := r.height_le; omega

end Go.Proofs.Ytocideolihbnaaa
