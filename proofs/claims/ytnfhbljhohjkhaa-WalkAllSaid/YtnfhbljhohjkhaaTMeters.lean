/- The law TreeMeters. -/
import Derived.Test.YtnfhbljhohjkhaaTPlays
set_option linter.unusedVariables false
set_option linter.unusedSimpArgs false
namespace Go.Proofs.Ytnfhbljhohjkhaa
open Go.RowKit

theorem OIn.imp {S S' : Nat → Prop} {w : World} {v : Value} {op : Int} {k x : Bytes} (h : OIn S w v op k x) (hS : ∀ b, b < w.heap.size → S b → S' b) : OIn S' w v op k x := by
  obtain ⟨kv, xv, e, h1, h2⟩ := h
  exact ⟨kv, xv, e, h1.imp hS, h2.imp hS⟩

end Go.Proofs.Ytnfhbljhohjkhaa
