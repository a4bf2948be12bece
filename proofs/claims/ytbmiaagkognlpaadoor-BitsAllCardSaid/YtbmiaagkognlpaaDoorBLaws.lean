/- Walks of the laws BitsOf, BitsTells and BitsTurns: each returns true; no conditions but that the numbers are of their kinds. -/
import Derived.Test.YtbmiaagkognlpaaDoorBList
set_option linter.unusedVariables false
set_option linter.unusedSimpArgs false
namespace Go.Proofs.YtbmiaagkognlpaaDoor
open Go.RowKit

theorem below_step {w w1 w2 : World} (h : Below w.heap.size w w1) (k : Below w1.heap.size w1 w2) : Below w.heap.size w w2 := h.trans (k.mono h.size)

theorem three_reads (w : World) : RdI (w.alloc (.cells #[.int .i64 3, .int .i64 5, .int .i64 40] 3)) (some ⟨w.heap.size, 0, none⟩) 3 [3, 5, 40] :=
  ⟨rfl, by omega, fun _ => ⟨_, _, rfl, by simp, fun j hj => by
    rw [World.cell?_alloc_at _ _ _ _ rfl]
    match j, hj with
    | 0, _ => rfl
    | 1, _ => rfl
    | 2, _ => rfl⟩⟩

set_option maxHeartbeats 800000 in
theorem awake_any (w : World) : Calls Tryd.prog 18 #[] w fun e w' => e = .returned (.bool true) ∧ Below w.heap.size w w' := by
  have e40 : ofN [3, 5, 40] = 40 := by decide +kernel
  have E40 := Lib.hid e40
  clear e40
  go_enter Tryd.func18, Tryd.ntmps18
  go_wp2_with fail
  refine (of_any _ _ _ [3, 5, 40] _ (three_reads _)).mono ?_
  rintro e w1 ⟨rfl, rfl⟩
  rw [E40.out]
  go_wp2_with fail
  refine (count_any 40 _ (by omega)).mono ?_
  rintro e w2 ⟨rfl, hb2⟩
  have hb2' := below_step (below_step (Below.refl w.heap.size w) ((Below.refl _ _).alloc (Nat.le_refl _) _)) hb2
  have HB2 := Lib.hid hb2'
  clear hb2 hb2'
  rw [show cnt (Nat.testBit 40) 32 = 2 from by decide +kernel]
  go_wp2_with fail
  refine (of_any _ _ _ [3, 5, 40] _ (three_reads _)).mono ?_
  rintro e w3 ⟨rfl, rfl⟩
  rw [E40.out]
  go_wp2_with fail
  refine (place_any 40 _ _ (by omega)).mono ?_
  rintro e w4 ⟨rfl, rfl⟩
  rw [show cnt (Nat.testBit (40 % 2 ^ c32 5)) 32 = 1 from by decide +kernel]
  go_wp2_with fail
  go_ret
  exact ⟨rfl, HB2.out.alloc HB2.out.size _⟩

theorem own_below {w w1 : World} {base : Nat} {e : TypeId} {size n : Nat} {v : Value} {xs : List Value} (h : w.ownsRow base e size v n xs) (hb : Below w.heap.size w w1) : w1.ownsRow base e size v n xs :=
  h.kept (row := none) ⟨hb.os, hb.tape, hb.output, hb.size, fun i hi _ => hb.block i hi⟩ (by cases v.ownBlock <;> simp)

/-- What is kept of some, but for a number. -/
def wo (l : List Int) (i : Int) : List Int := l.filter (· ≠ i)
theorem wo_snoc (l : List Int) (d i : Int) : wo (l ++ [d]) i = if d = i then wo l i else wo l i ++ [d] := by
  unfold wo
  rw [List.filter_append]
  by_cases h : d = i <;> simp [h]
theorem wo_le (l : List Int) (i : Int) : (wo l i).length ≤ l.length := List.length_filter_le _ _

end Go.Proofs.YtbmiaagkognlpaaDoor
