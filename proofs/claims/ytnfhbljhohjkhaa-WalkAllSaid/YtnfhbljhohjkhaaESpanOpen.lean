/- What a law is given: a stretch. -/
import Derived.Test.YtnfhbljhohjkhaaECutRef
set_option linter.unusedVariables false
set_option linter.unusedSimpArgs false
namespace Go.Proofs.Ytnfhbljhohjkhaa
open Go.RowKit Go.ChangeShapes Go.WideShapes Go.Deep

/-- A stretch as it comes. -/
def SRaw (w : World) (v : Value) (f t : Bytes) (c : Bool) : Prop := ∃ fv tv, v = .agg #[fv, tv, .bool c] ∧ BRaw w fv f ∧ BRaw w tv t
theorem cellsSpan : Try.prog.cellsOf 42 = 3 := by kernel_rfl
theorem cellsBool : Try.prog.cellsOf 4 = 1 := by kernel_rfl
theorem cellsBytes : Try.prog.cellsOf 23 = 1 := by kernel_rfl
variable {H : Type} {enc : TypeId × Value → H} {w : World} {base : Nat} {spare : Nat → Bool} {held : Bool}
set_option maxRecDepth 100000 in
theorem open_bool4 {fuel : Nat} {v : Value} {x : DataW H × List MemPlace} (h : DataW.trod enc Try.prog w base spare held fuel 4 [v] = some x) : ∃ b, v = .bool b := by
  cases fuel with
  | zero => simp [DataW.trod] at h
  | succ f =>
    unfold DataW.trod at h
    rw [Try.underlying4] at h
    cases v <;> simp at h
    exact ⟨_, rfl⟩

set_option maxRecDepth 100000 in
theorem open_span {fuel : Nat} {cs : Array Value} {x : DataW H × List MemPlace} (h : DataW.trod enc Try.prog w base spare held fuel 42 cs.toList = some x) :
    ∃ f t c, SRaw w (.agg cs) f t c := by
  obtain ⟨xs, n, rfl, _, hlen, hxl, hf⟩ := DataW.trod_struct Try.underlying42 h
  rw [cellsSpan] at hlen
  obtain ⟨l⟩ := cs
  simp only [] at hlen hf
  match l, hlen with
  | [v0, v1, v2], _ =>
    have g0 := hf 0 _ rfl
    have g1 := hf 1 _ rfl
    have g2 := hf 2 _ rfl
    simp [cellsBool, cellsBytes] at g0 g1 g2
    have hx3 : xs.length = 3 := hxl
    rw [List.getElem?_eq_getElem (by omega)] at g0 g1 g2
    obtain ⟨k, hk⟩ := open_raw g0
    obtain ⟨y, hy⟩ := open_raw g1
    obtain ⟨b, rfl⟩ := open_bool4 g2
    exact ⟨k, y, b, v0, v1, rfl, hk, hy⟩

end Go.Proofs.Ytnfhbljhohjkhaa
