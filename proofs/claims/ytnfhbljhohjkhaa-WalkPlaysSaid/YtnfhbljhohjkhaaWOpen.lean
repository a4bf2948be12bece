/- What a law is given: a row of a cursor's calls. -/
import Derived.Test.YtnfhbljhohjkhaaWPlays
set_option linter.unusedVariables false
set_option linter.unusedSimpArgs false
namespace Go.Proofs.Ytnfhbljhohjkhaa
open Go.RowKit Go.ChangeShapes Go.WideShapes Go.Deep

theorem cellsMove : Try.prog.cellsOf 72 = 2 := by kernel_rfl
theorem cellsInt : Try.prog.cellsOf 3 = 1 := by kernel_rfl
variable {H : Type} {enc : TypeId × Value → H} {w : World} {base : Nat} {spare : Nat → Bool} {held : Bool}
set_option maxRecDepth 100000 in
theorem open_move {fuel : Nat} {cs : List Value} {x : DataW H × List MemPlace} (h : DataW.trod enc Try.prog w base spare held fuel 72 cs = some x) :
    ∃ op kv k, cs = [.int .i64 op, kv] ∧ BRaw w kv k := by
  obtain ⟨xs, n, rfl, _, hlen, hxl, hf⟩ := DataW.trod_struct Try.underlying72 h
  rw [cellsMove] at hlen
  match cs, hlen with
  | [v0, v1], _ =>
    have g0 := hf 0 _ rfl
    have g1 := hf 1 _ rfl
    simp [cellsInt, cellsBytes] at g0 g1
    have hx3 : xs.length = 2 := hxl
    rw [List.getElem?_eq_getElem (by omega)] at g0 g1
    obtain ⟨op, rfl⟩ := open_i64 g0
    obtain ⟨k, hk⟩ := open_raw g1
    exact ⟨op, v1, k, rfl, hk⟩

set_option maxRecDepth 100000 in
theorem open_moves {fuel : Nat} {A : Option Addr} {n c : Nat} {x : DataW H × List MemPlace} (h : DataW.trod enc Try.prog w base spare held fuel 69 [.slice A n c] = some x) : ∃ L, Moves w A n L := by
  rcases open_slice Try.underlying69 h with ⟨hcs, _⟩ | ⟨a, len, cap, m, f, D, Pl, hcs, _, hl, hm, hmm, _, hx⟩
  · cases hcs
    exact ⟨[], rfl, by omega, fun h => by omega⟩
  · cases hcs
    have hnm : n ≤ m := by rw [hmm]; split <;> omega
    unfold maxLen at hm
    have each : ∀ i, i < n → ∃ q : Int × Bytes, ∃ kv, w.cell? (a.add (i * 2)) = some (.int .i64 q.1) ∧ w.cell? (a.add (i * 2 + 1)) = some kv ∧ BRaw w kv q.2 := by
      intro i hi
      obtain ⟨cs', h1, h2⟩ := hx i (by omega)
      rw [cellsMove] at h1
      obtain ⟨_, hlen, hcell⟩ := World.cells?_some h1
      obtain ⟨op, kv, k, rfl, hk⟩ := open_move h2
      have e0 := hcell 0 (by omega)
      have e1 := hcell 1 (by omega)
      rw [add_add] at e0 e1
      exact ⟨(op, k), kv, by simpa using e0, by simpa using e1, hk⟩
    have : Inhabited (Int × Bytes) := ⟨(0, [])⟩
    obtain ⟨q, hq⟩ := choose_lt each
    refine ⟨(List.range n).map q, by simp, by omega, fun hn => ?_⟩
    obtain ⟨_, z0, _⟩ := hq 0 hn
    obtain ⟨b, off, spot⟩ := a
    have hspot : spot = none := by simpa [Addr.add] using World.cell?_spot z0
    subst hspot
    refine ⟨b, off, rfl, ?_, fun j hj => ?_⟩
    · have := World.block_lt_of_cell? w _ z0
      simpa [Addr.add] using this
    · obtain ⟨kv, h1, h2, h3⟩ := hq j hj
      have e : ((List.range n).map q).getD j (0, []) = q j := by simp [List.getD_eq_getElem?_getD, hj]
      rw [e]
      rw [addP] at h1 h2
      exact ⟨kv, h1, h2, h3⟩

end Go.Proofs.Ytnfhbljhohjkhaa
