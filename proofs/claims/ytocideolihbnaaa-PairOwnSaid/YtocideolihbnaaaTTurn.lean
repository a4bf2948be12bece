/- The contracts of the turns: turnLeft, turnRight. -/
import Derived.Test.YtocideolihbnaaaTSound
set_option linter.unusedVariables false
set_option linter.unusedSimpArgs false
namespace Go.Proofs.Ytocideolihbnaaa
open Go.RowKit

theorem evenB_comm (a b : Nat) : evenB a b = evenB b a := by unfold evenB; rw [Bool.and_comm]

/-- What a turn tells: nothing, or an even tree of the same pairs. -/
def Turned (S : Nat → Prop) (w : World) (w' : World) (e : Ending) (L : Pairs) : Prop :=
  (e = .returned (.pointer none) ∨ ∃ b T, e = .returned (.pointer (some b)) ∧ T.list = L ∧ T.even ∧ TIn (Up S w.heap.size) w' (.pointer (some b)) T) ∧ Below w.heap.size w w'
theorem upup {S : Nat → Prop} {n m : Nat} (h : n ≤ m) : ∀ b : Nat, Up (Up S n) m b → Up S n b := fun b hb => by
  rcases hb with hb | hb
  · exact hb
  · exact .inr (Nat.le_trans h hb)

end Go.Proofs.Ytocideolihbnaaa
