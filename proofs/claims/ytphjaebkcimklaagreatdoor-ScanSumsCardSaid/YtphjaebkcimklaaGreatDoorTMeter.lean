/- Contracts: the meter's Visit and Compare; the tree's Get. -/
import Derived.Test.YtphjaebkcimklaaGreatDoorTNode
set_option linter.unusedVariables false
set_option linter.unusedSimpArgs false
namespace Go.Proofs.YtphjaebkcimklaaGreatDoor
open Go.RowKit

/-- A meter's pointer: nil, or a block. -/
def mV : Option Nat → Value
  | none => .pointer none
  | some b => .pointer (some ⟨b, 0, none⟩)
/-- The meter's two counts. -/
def MAt (m : Option Nat) (w : World) (vi co : Nat) : Prop := ∀ b, m = some b → w.heap[b]? = some (.cells #[.int .i64 (vi : Int), .int .i64 (co : Int)] 170 (0, 0))
theorem MAt.below {m : Option Nat} {w w1 : World} {vi co : Nat} (h : MAt m w vi co) (hb : Below w.heap.size w w1) : MAt m w1 vi co := fun b e => (hb.block b (Array.getElem?_eq_some_iff.1 (h b e)).1).trans (h b e)
theorem Kept.set {w : World} {b : Nat} (i : Nat) (v : Value) : Kept (some b) w (w.setCell ⟨b, i, none⟩ v) :=
  ⟨rfl, rfl, rfl, by simp, fun b' _ hne => heap_setCell_other w _ b' v (by simpa using fun e => hne (by rw [e]))⟩

theorem visit_results (tmps : Array Value) (w : World) : (results Tryz.f96 tmps).run Tryz.prog w = .ok (.tuple #[]) w := by
  simp [results, Tryz.f96]
theorem visit_any (m : Option Nat) (vi co : Nat) (w : World) (h : MAt m w vi co) (hv : vi < 1000000) :
    Calls Tryz.prog 96 #[mV m] w fun e w' => e = .returned (.tuple #[]) ∧ Kept m w w' ∧ MAt m w' (vi + 1) co := by
  cases m with
  | none =>
    simp only [mV]
    go_enter Tryz.func96, Tryz.ntmps96
    go_wp2
    exact bodyPost_end (visit_results _ _) rfl ⟨rfl, Kept.refl _ _, fun b e => by cases e⟩
  | some b =>
    have hh := h b rfl
    have c0 := cell_of_row w b 0 _ _ _ hh
    have f0 := frozen_of_row w b 0 _ _ hh
    dsimp at c0
    have HH := Lib.hid hh
    clear h hh
    simp only [mV]
    go_enter Tryz.func96, Tryz.ntmps96
    go_wp2
    refine bodyPost_end (visit_results _ _) rfl ⟨rfl, Kept.set 0 _, fun b' e => ?_⟩
    cases e
    simp [World.setCell, Array.getElem?_modify, HH.out]

theorem mcompare_any {S S' : Nat → Prop} (m : Option Nat) (v u : Value) (a b : Bytes) (vi co : Nat) (w : World) (h : MAt m w vi co) (hv : co < 1000000) (ha : BIn S w v a) (hb : BIn S' w u b) (hS : ∀ b, S b → m ≠ some b) (hS' : ∀ b, S' b → m ≠ some b) :
    Calls Tryz.prog 97 #[mV m, v, u] w fun e w' => e = .returned (.int .i64 (Lib.compareBytes a b)) ∧ Kept m w w' ∧ MAt m w' vi (co + 1) := by
  obtain ⟨A, n, c, rfl⟩ := ha.slice
  obtain ⟨A', n', c', rfl⟩ := hb.slice
  have HC := Lib.hid (fun w1 (hk : Kept m w w1) => compare_any (.slice A n c) (.slice A' n' c') a b w1 (ha.kept hk hS) (hb.kept hk hS'))
  clear ha hb
  cases m with
  | none =>
    simp only [mV]
    go_enter Tryz.func97, Tryz.ntmps97
    go_wp2_with fail
    refine (HC.out _ (Kept.refl _ _)).mono ?_
    rintro e w1 ⟨rfl, rfl⟩
    go_wp2_with fail
    go_ret
    exact ⟨rfl, Kept.refl _ _, fun b e => by cases e⟩
  | some b =>
    have hh := h b rfl
    have c1 := cell_of_row w b 1 _ _ _ hh
    have f1 := frozen_of_row w b 1 _ _ hh
    dsimp at c1
    have HH := Lib.hid hh
    clear h hh
    simp only [mV]
    go_enter Tryz.func97, Tryz.ntmps97
    go_wp2_with fail
    refine (HC.out _ (Kept.set 1 _)).mono ?_
    rintro e w1 ⟨rfl, rfl⟩
    go_wp2_with fail
    go_ret
    refine ⟨rfl, Kept.set 1 _, fun b' e => ?_⟩
    cases e
    simp [World.setCell, Array.getElem?_modify, HH.out]

end Go.Proofs.YtphjaebkcimklaaGreatDoor
