/- The contract of the tree's Get. -/
import Derived.Test.YtocideolihbnaaaTMeter
import Derived.Deep.LoopGhost
set_option linter.unusedVariables false
set_option linter.unusedSimpArgs false
namespace Go.Proofs.Ytocideolihbnaaa
open Go.RowKit

theorem cmp3 (a b : Bytes) : Lib.compareBytes a b = 0 ∨ Lib.compareBytes a b = 1 ∨ Lib.compareBytes a b = -1 := by
  induction a generalizing b with
  | nil => cases b <;> simp [Lib.compareBytes]
  | cons x xs ih =>
    cases b with
    | nil => simp [Lib.compareBytes]
    | cons y ys =>
      unfold Lib.compareBytes
      split
      · simp
      · split
        · simp
        · exact ih ys

namespace PT
/-- What a tree holds at a key, along the keys. -/
def get : PT → Bytes → Option Bytes
  | nil, _ => none
  | node l k x r, key => if Lib.compareBytes key k = 0 then some x else if Lib.compareBytes key k = 1 then r.get key else l.get key
/-- How many nodes are met on the way. -/
def path : PT → Bytes → Nat
  | nil, _ => 0
  | node l k _ r, key => 1 + (if Lib.compareBytes key k = 0 then 0 else if Lib.compareBytes key k = 1 then r.path key else l.path key)
end PT

/-- What Get tells. -/
def GotIn (n : Nat) (w : World) (e : Ending) : Option Bytes → Prop
  | none => e = .returned (.tuple #[.slice none 0 0, .bool false])
  | some x => ∃ u, e = .returned (.tuple #[u, .bool true]) ∧ BIn (New n) w u x

end Go.Proofs.Ytocideolihbnaaa
