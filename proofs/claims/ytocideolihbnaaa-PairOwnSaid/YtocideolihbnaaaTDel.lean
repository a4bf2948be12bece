/- The contracts of Pair and Delete, with the meter. -/
import Derived.Test.YtocideolihbnaaaTFirst
set_option linter.unusedVariables false
set_option linter.unusedSimpArgs false
namespace Go.Proofs.Ytocideolihbnaaa
open Go.RowKit

namespace PT
/-- The pairs of a tree without a key, along the keys. -/
def delL : PT → Bytes → Pairs
  | nil, _ => []
  | node l k x r, key => if Lib.compareBytes key k = 0 then l.list ++ r.list else if Lib.compareBytes key k = 1 then l.list ++ (k, x) :: r.delL key else l.delL key ++ (k, x) :: r.list
def has : PT → Bytes → Bool
  | nil, _ => false
  | node l k x r, key => if Lib.compareBytes key k = 0 then true else if Lib.compareBytes key k = 1 then r.has key else l.has key
theorem delL_len : ∀ (T : PT) (key : Bytes), (T.delL key).length ≤ T.size
  | nil, key => by simp [delL, size]
  | node l k x r, key => by
    have h1 := l.delL_len key
    have h2 := r.delL_len key
    have h3 := l.size_list
    have h4 := r.size_list
    unfold delL
    simp only [size]
    split
    · simp; omega
    · split <;> (simp; omega)
theorem delL_not : ∀ (T : PT) (key : Bytes), T.has key = false → T.delL key = T.list
  | nil, key, _ => rfl
  | node l k x r, key, h => by
    unfold has at h
    unfold delL
    split at h
    · cases h
    · next h0 =>
      rw [if_neg h0]
      split at h
      · next h1 => rw [if_pos h1, r.delL_not key h]; rfl
      · next h1 => rw [if_neg h1, l.delL_not key h]; rfl
end PT

/-- What Delete tells. -/
def DelIn (S : Nat → Prop) (m : Option Nat) (w w' : World) (e : Ending) (ok : Bool) (L : Pairs) (vi co lo hi : Nat) : Prop :=
  ∃ u T vi' co', e = .returned (.tuple #[.pointer u, .bool ok]) ∧ T.list = L ∧ T.even ∧ TIn (Up S w.heap.size) w' (.pointer u) T ∧ Met m w w' vi co vi' co' lo hi

end Go.Proofs.Ytocideolihbnaaa
