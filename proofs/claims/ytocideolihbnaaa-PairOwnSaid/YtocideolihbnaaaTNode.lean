/- Contracts: own, node, Root, the meter's Visit and Compare. -/
import Derived.Test.YtocideolihbnaaaTMem
set_option linter.unusedVariables false
set_option linter.unusedSimpArgs false
namespace Go.Proofs.Ytocideolihbnaaa
open Go.RowKit

/-- A pair lies in a block. -/
def Two (W : World) (b : Nat) (u v : Value) : Prop := W.heap[b]? = some (.cells #[u, v] 34 (0, 0))
theorem Two.cells {W : World} {b : Nat} {u v : Value} (h : Two W b u v) : W.cell? ⟨b, 0, none⟩ = some u ∧ W.cell? ⟨b, 1, none⟩ = some v := ⟨cell_of_row W b 0 _ _ _ h, cell_of_row W b 1 _ _ _ h⟩
theorem Two.lt {W : World} {b : Nat} {u v : Value} (h : Two W b u v) : b < W.heap.size := (Array.getElem?_eq_some_iff.1 h).1
theorem Two.below {W W' : World} {b n : Nat} {u v : Value} (h : Two W b u v) (hb : Below n W W') (hn : b < n) : Two W' b u v := (hb.block b hn).trans h
theorem Two.set {W : World} {b : Nat} {u v : Value} (h : Two W b u v) (x y : Value) : Two ((W.setCell ⟨b, 0, none⟩ x).setCell ⟨b, 1, none⟩ y) b x y := by
  simp [Two, World.setCell, Array.getElem?_modify, show W.heap[b]? = _ from h]

theorem BIn.set2 {W : World} {v : Value} {l : Bytes} {n b : Nat} (h : BIn (New n) W v l) (hb : b < n) (x y : Value) : BIn (New n) ((W.setCell ⟨b, 0, none⟩ x).setCell ⟨b, 1, none⟩ y) v l :=
  h.carry (by simp) fun b' hb' _ => by
    have hne : b' ≠ b := by intro e; subst e; exact absurd (show n ≤ b' from hb') (by omega)
    rw [heap_setCell_other _ _ _ _ (by simpa using hne), heap_setCell_other _ _ _ _ (by simpa using hne)]

theorem TIn.ptr {S : Nat → Prop} {w : World} {v : Value} {T : PT} (h : TIn S w v T) : ∃ u, v = .pointer u := by
  cases T with
  | nil => exact ⟨none, h⟩
  | node l k x r => obtain ⟨b, kv, xv, lv, rv, e, _⟩ := h; exact ⟨_, e⟩
theorem BIn.slice {S : Nat → Prop} {w : World} {v : Value} {l : Bytes} (h : BIn S w v l) : ∃ A n c, v = .slice A n c := by
  obtain ⟨A, n, c, e, _⟩ := h; exact ⟨A, n, c, e⟩
theorem i64_small {x : Int} (h : -9223372036854775808 ≤ x ∧ x < 9223372036854775808) : IntKind.i64.wrap x = x := by
  rw [IntKind.wrap_i64]; omega

/-- The pair at a tree's root; no pair, if there is none. -/
def PT.root : PT → Bytes × Bytes
  | .nil => ([], [])
  | .node _ k x _ => (k, x)
theorem BIn.nil (S : Nat → Prop) (w : World) : BIn S w (.slice none 0 0) [] := ⟨none, 0, 0, rfl, ⟨Nat.le_refl _, by omega⟩, ⟨rfl, by omega, fun h => by omega⟩, fun b o h => by omega⟩

end Go.Proofs.Ytocideolihbnaaa
