/- Contracts: the meter's Visit and Compare; the tree's Get. -/
import Derived.Test.YtocideolihbnaaaTNode
set_option linter.unusedVariables false
set_option linter.unusedSimpArgs false
namespace Go.Proofs.Ytocideolihbnaaa
open Go.RowKit

/-- A meter's pointer: nil, or a block. -/
def mV : Option Nat → Value
  | none => .pointer none
  | some b => .pointer (some ⟨b, 0, none⟩)
/-- The meter's two counts. -/
def MAt (m : Option Nat) (w : World) (vi co : Nat) : Prop := ∀ b, m = some b → w.heap[b]? = some (.cells #[.int .i64 (vi : Int), .int .i64 (co : Int)] 99999 (0, 0))
theorem MAt.below {m : Option Nat} {w w1 : World} {vi co : Nat} (h : MAt m w vi co) (hb : Below w.heap.size w w1) : MAt m w1 vi co := fun b e => (hb.block b (Array.getElem?_eq_some_iff.1 (h b e)).1).trans (h b e)
theorem Kept.set {w : World} {b : Nat} (i : Nat) (v : Value) : Kept (some b) w (w.setCell ⟨b, i, none⟩ v) :=
  ⟨rfl, rfl, rfl, by simp, fun b' _ hne => heap_setCell_other w _ b' v (by simpa using fun e => hne (by rw [e]))⟩

end Go.Proofs.Ytocideolihbnaaa
