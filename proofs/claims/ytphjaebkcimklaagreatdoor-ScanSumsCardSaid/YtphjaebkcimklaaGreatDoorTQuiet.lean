/- A region that draws its order, and whose callees make memory of their own: one walk serves every order. -/
import Derived.Test.YtphjaebkcimklaaGreatDoorTBase
set_option linter.unusedVariables false
namespace Go.Proofs.YtphjaebkcimklaaGreatDoor
open Go.RowKit

/-- A world in which all that was there is as it was. -/
structure BelowBy (w : World) where
  W : World
  below : Below w.heap.size w W
instance (w : World) : Inhabited (BelowBy w) := ⟨⟨w, Below.refl _ _⟩⟩
theorem wp_region_quiet_below {P : Program} {id : Nat} {Q : Exit → Act → World → Prop} {a : Act} {w : World} {l : List Oper} (hm : P.follows .mixedOrders = true) (hB : Region.lexB .any l.toArray = true)
    (h : wpQuiet P l.toArray (fun w' => ∃ p : BelowBy w, w' = p.W) (fun a' => ∀ w', (∃ p : BelowBy w, w' = p.W) → Q .normal a' w') l a) : (Code.region id l.toArray true).wp P Q a w :=
  wp_region_quiet (C := fun w' => ∃ p : BelowBy w, w' = p.W) hm hB ⟨⟨w.drew, below_drew2 (Below.refl _ _)⟩, rfl⟩ (by simpa using h)
theorem Calls.below_of {P : Program} {f : FuncId} {args : Array Value} {w : World} {p : BelowBy w} {v : Value}
    (h : Calls P f args p.W fun e w' => e = .returned v ∧ Below p.W.heap.size p.W w') : Calls P f args p.W fun e w'' => e = .returned v ∧ ∃ q : BelowBy w, w'' = q.W :=
  h.mono fun _ W ⟨he, hb⟩ => ⟨he, ⟨W, p.below.trans (hb.mono p.below.size)⟩, rfl⟩
theorem Calls.below_same {P : Program} {f : FuncId} {args : Array Value} {w : World} {p : BelowBy w} {v : Value}
    (h : Calls P f args p.W fun e w' => e = .returned v ∧ p.W = w') : Calls P f args p.W fun e w'' => e = .returned v ∧ ∃ q : BelowBy w, w'' = q.W :=
  h.mono fun _ W ⟨he, hb⟩ => ⟨he, p, hb.symm⟩

end Go.Proofs.YtphjaebkcimklaaGreatDoor
