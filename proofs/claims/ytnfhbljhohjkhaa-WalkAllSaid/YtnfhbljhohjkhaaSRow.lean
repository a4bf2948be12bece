/- A row of pairs as a sort sees it; two exchanged ranges; two blocks rotated. -/
import Derived.Test.YtnfhbljhohjkhaaTEven
import Derived.Test.YtnfhbljhohjkhaaTStr
import Derived.Test.YtnfhbljhohjkhaaTQuiet
import Derived.Test.YtnfhbljhohjkhaaSPure2
import Derived.StillTailTactics
set_option linter.unusedVariables false
set_option linter.unusedSimpArgs false
namespace Go.Proofs.Ytnfhbljhohjkhaa
open Go.RowKit Stab

/-- The pairs' values, by their numbers. -/
abbrev Vals := Nat → Value × Value
def SliceVals (vals : Vals) : Prop := ∀ i, (∃ A n c, (vals i).1 = .slice A n c) ∧ ∃ A n c, (vals i).2 = .slice A n c
/-- A block holds the pairs in some order. -/
structure Row (g n : Nat) (vals : Vals) (f : Nat → Nat) (W : World) : Prop where
  obj : ∃ arr : Array Value, W.heap[g]? = some (.cells arr 40 (0, 0)) ∧ ∀ p, p < n → arr[p * 2]? = some (vals (f p)).1 ∧ arr[p * 2 + 1]? = some (vals (f p)).2
theorem Row.cells {g n : Nat} {vals : Vals} {f : Nat → Nat} {W : World} (h : Row g n vals f W) {p : Nat} (hp : p < n) : W.cell? ⟨g, p * 2, none⟩ = some (vals (f p)).1 ∧ W.cell? ⟨g, p * 2 + 1, none⟩ = some (vals (f p)).2 := by
  obtain ⟨arr, ha, hc⟩ := h.obj
  simp only [World.cell?, ha]
  exact hc p hp
theorem Row.free {g n : Nat} {vals : Vals} {f : Nat → Nat} {W : World} (h : Row g n vals f W) {i : Nat} (hi : i < n * 2) : W.frozen? ⟨g, i, none⟩ = false := by
  obtain ⟨arr, ha, hc⟩ := h.obj
  exact frozen_of_row W g i _ _ ha
theorem Row.lt {g n : Nat} {vals : Vals} {f : Nat → Nat} {W : World} (h : Row g n vals f W) : g < W.heap.size := by
  obtain ⟨arr, ha, _⟩ := h.obj
  exact (Array.getElem?_eq_some_iff.1 ha).1
theorem Row.below {g n : Nat} {vals : Vals} {f : Nat → Nat} {W W1 : World} (h : Row g n vals f W) (hb : Below W.heap.size W W1) : Row g n vals f W1 := by
  obtain ⟨arr, ha, hc⟩ := h.obj
  exact ⟨arr, (hb.block g (Array.getElem?_eq_some_iff.1 ha).1).trans ha, hc⟩
/-- What lies at two places is exchanged. -/
theorem Row.swp {g n : Nat} {vals : Vals} {f : Nat → Nat} {W : World} (h : Row g n vals f W) {i j : Nat} (hi : i < n) (hj : j < n) :
    Row g n vals (swp f i j) ((((W.setCell ⟨g, i * 2, none⟩ (vals (f j)).1).setCell ⟨g, i * 2 + 1, none⟩ (vals (f j)).2).setCell ⟨g, j * 2, none⟩ (vals (f i)).1).setCell ⟨g, j * 2 + 1, none⟩ (vals (f i)).2) := by
  obtain ⟨arr, ha, hc⟩ := h.obj
  refine ⟨(((arr.setIfInBounds (i * 2) (vals (f j)).1).setIfInBounds (i * 2 + 1) (vals (f j)).2).setIfInBounds (j * 2) (vals (f i)).1).setIfInBounds (j * 2 + 1) (vals (f i)).2, ?_, fun p hp => ?_⟩
  · simp [World.setCell, Array.getElem?_modify, ha]
  · have hlt : ∀ q, q < n → q * 2 + 1 < arr.size := fun q hq => (Array.getElem?_eq_some_iff.1 (hc q hq).2).1
    have l1 := hlt i hi
    have l2 := hlt j hj
    have l3 := hlt p hp
    have hcp := hc p hp
    simp only [Array.getElem?_setIfInBounds, Array.size_setIfInBounds]
    unfold Stab.swp
    by_cases e1 : p = j
    · subst e1
      by_cases e2 : p = i
      · subst e2
        refine ⟨?_, ?_⟩
        · rw [if_neg (by omega), if_pos rfl, if_pos (by omega), if_pos rfl]
        · rw [if_pos rfl, if_pos (by omega), if_pos rfl]
      · refine ⟨?_, ?_⟩
        · rw [if_neg (by omega), if_pos rfl, if_pos (by omega), if_neg e2, if_pos rfl]
        · rw [if_pos rfl, if_pos (by omega), if_neg e2, if_pos rfl]
    · by_cases e2 : p = i
      · subst e2
        refine ⟨?_, ?_⟩
        · rw [if_neg (by omega), if_neg (by omega), if_neg (by omega), if_pos rfl, if_pos (by omega), if_pos rfl]
        · rw [if_neg (by omega), if_neg (by omega), if_pos rfl, if_pos (by omega), if_pos rfl]
      · refine ⟨?_, ?_⟩
        · rw [if_neg (by omega), if_neg (by omega), if_neg (by omega), if_neg (by omega), if_neg e2, if_neg e1]; exact hcp.1
        · rw [if_neg (by omega), if_neg (by omega), if_neg (by omega), if_neg (by omega), if_neg e2, if_neg e1]; exact hcp.2
theorem kept_swp {g : Nat} {W W1 : World} (hk : Kept (some g) W W1) (i j k l : Nat) (a b c d : Value) : Kept (some g) W ((((W1.setCell ⟨g, i, none⟩ a).setCell ⟨g, j, none⟩ b).setCell ⟨g, k, none⟩ c).setCell ⟨g, l, none⟩ d) :=
  (((hk.trans (Kept.set i a)).trans (Kept.set j b)).trans (Kept.set k c)).trans (Kept.set l d)
/-- A row on its way: its order, and all else as it was. -/
structure On (g n : Nat) (vals : Vals) (f : Nat → Nat) (w W : World) : Prop where
  row : Row g n vals f W
  kept : Kept (some g) w W
theorem On.swp {g n : Nat} {vals : Vals} {f : Nat → Nat} {w W : World} (h : On g n vals f w W) {i j : Nat} (hi : i < n) (hj : j < n) :
    On g n vals (swp f i j) w ((((W.setCell ⟨g, i * 2, none⟩ (vals (f j)).1).setCell ⟨g, i * 2 + 1, none⟩ (vals (f j)).2).setCell ⟨g, j * 2, none⟩ (vals (f i)).1).setCell ⟨g, j * 2 + 1, none⟩ (vals (f i)).2) :=
  ⟨h.row.swp hi hj, kept_swp h.kept _ _ _ _ _ _ _ _⟩
theorem On.below {g n : Nat} {vals : Vals} {f : Nat → Nat} {w W W1 : World} (h : On g n vals f w W) (hb : Below W.heap.size W W1) : On g n vals f w W1 :=
  ⟨h.row.below hb, h.kept.trans (Kept.of hb)⟩

/-- What the walks lean on. -/
structure Env (g n c : Nat) (vals : Vals) (key : Nat → Bytes) (w : World) : Prop where
  hv : SliceVals vals
  hk : ∀ i, BIn (fun b => b ≠ g) w (vals i).1 (key i)
  hn : n ≤ 100000
  hc : n ≤ c

def less (key : Nat → Bytes) (i j : Nat) : Bool := decide (cmp (key i) (key j) = -1)
def lt (key : Nat → Bytes) (i j : Nat) : Prop := cmp (key i) (key j) = -1 ∨ (key i = key j ∧ i < j)
theorem ord (key : Nat → Bytes) : Ord (less key) (lt key) := by
  refine ⟨fun x y h => .inl (of_decide_eq_true h), fun x y h hxy => ?_, fun x y z h1 h2 => ?_⟩
  · have h' := of_decide_eq_false h
    rcases cmp3 (key x) (key y) with e | e | e
    · exact .inr ⟨((cmp_eq0 _ _).1 e).symm, hxy⟩
    · exact .inl (cmp_gt e)
    · exact absurd e h'
  · rcases h1 with h1 | ⟨e1, h1⟩ <;> rcases h2 with h2 | ⟨e2, h2⟩
    · exact .inl (cmp_lt_trans _ _ _ h1 h2)
    · exact .inl (by rw [← e2]; exact h1)
    · exact .inl (by rw [e1]; exact h2)
    · exact .inr ⟨e1.trans e2, by omega⟩
theorem irr (key : Nat → Bytes) : ∀ x, ¬ lt key x x := by
  intro x h
  rcases h with h | ⟨_, h⟩
  · rw [cmp_self] at h; exact absurd h (by decide)
  · omega
theorem less_neg {key : Nat → Bytes} {i j : Nat} {cv : Int} (h : cmp (key i) (key j) = cv) : less key i j = decide (cv < 0) := by
  unfold less
  rw [decide_eq_decide, h]
  have := cmp3 (key i) (key j)
  have h' : Lib.compareBytes (key i) (key j) = cv := h
  rw [h'] at this
  omega

end Go.Proofs.Ytnfhbljhohjkhaa
