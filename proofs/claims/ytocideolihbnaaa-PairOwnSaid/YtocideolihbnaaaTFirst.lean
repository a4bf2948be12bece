/- The contract of first, with the meter. -/
import Derived.Test.YtocideolihbnaaaTPut
import Derived.Laws.ResultCell
set_option linter.unusedVariables false
set_option linter.unusedSimpArgs false
namespace Go.Proofs.Ytocideolihbnaaa
open Go.RowKit

/-- What first tells. -/
def Fst (S : Nat → Prop) (m : Option Nat) (w w' : World) (e : Ending) (L : Pairs) (vi co lo hi : Nat) : Prop :=
  ∃ A n c A' n' c' u k x T vi' co', e = .returned (.tuple #[.agg #[.slice A n c, .slice A' n' c'], .pointer u]) ∧ (k, x) :: T.list = L ∧ PIn S w' (.agg #[.slice A n c, .slice A' n' c']) k x ∧ T.even ∧ TIn (Up S w.heap.size) w' (.pointer u) T ∧ Met m w w' vi co vi' co' lo hi
theorem results_two {fn : Func} {p u : Tmp} (h : fn.results = #[.cell p 34, .tmp u]) (tmps : Array Value) (w : World) (g : Nat) (x y : Value) (hp : tmps.getD p undef = .pointer (some ⟨g, 0, none⟩)) (hg : Two w g x y) :
    (results fn tmps).run Try.prog w = .ok (.tuple #[.agg #[x, y], tmps.getD u undef]) w := by
  rw [results_cell_tmp h, hp]
  simp [asAddr, run_loadVar_row (P := Try.prog) w g 34 34 #[x, y] (0, 0) _ hg Try.underlying34 rfl info39]
theorem Kept.set2 {m : Option Nat} {w w' : World} {b : Nat} (h : Kept m w w') (hb : w.heap.size ≤ b) (i : Nat) (v : Value) : Kept m w (w'.setCell ⟨b, i, none⟩ v) :=
  ⟨h.os, h.tape, h.output, by simpa using h.size, fun b' hlt hne => (heap_setCell_other w' _ b' v (by simp only; omega)).trans (h.block b' hlt hne)⟩
theorem Met.sets {m : Option Nat} {w W : World} {b vi co vi' co' lo hi : Nat} (h : Met m w W vi co vi' co' lo hi) (hb : w.heap.size ≤ b) (hm : m ≠ some b) (x y : Value) : Met m w ((W.setCell ⟨b, 0, none⟩ x).setCell ⟨b, 1, none⟩ y) vi co vi' co' lo hi :=
  ⟨(Kept.set2 (Kept.set2 h.kept hb 0 x) hb 1 y), fun b' e => by
    rw [heap_setCell_other _ _ _ _ (by simp only; intro e2; exact hm (e.trans (congrArg some e2))), heap_setCell_other _ _ _ _ (by simp only; intro e2; exact hm (e.trans (congrArg some e2)))]; exact h.at_ b' e, h.low, h.high, h.up, h.fit⟩
theorem Met.drew {m : Option Nat} {w W : World} {vi co vi' co' lo hi : Nat} (h : Met m w W vi co vi' co' lo hi) : Met m w W.drew vi co vi' co' lo hi := ⟨h.kept.drew, h.at_, h.low, h.high, h.up, h.fit⟩

end Go.Proofs.Ytocideolihbnaaa
