/- What a law is given: a row of operations; Fine. -/
import Derived.Test.YtocideolihbnaaaTStep
import Derived.OpenShut
import Derived.Deep.Slices
import Derived.ChangeSlices
set_option linter.unusedVariables false
set_option linter.unusedSimpArgs false
namespace Go.Proofs.Ytocideolihbnaaa
open Go.RowKit Go.ChangeShapes Go.WideShapes Go.Deep

/-- A slice of bytes, of any length. -/
def BRaw (w : World) (v : Value) (l : Bytes) : Prop := ∃ A n c, v = .slice A n c ∧ n ≤ c ∧ c ≤ 9223372036854775807 ∧ RdB w A n l
theorem BRaw.below {w w1 : World} {v : Value} {l : Bytes} (h : BRaw w v l) (hb : Below w.heap.size w w1) : BRaw w1 v l := by
  obtain ⟨A, n, c, e, h1, h2, h3⟩ := h
  exact ⟨A, n, c, e, h1, h2, h3.below hb⟩
theorem BRaw.fine {w : World} {v : Value} {l : Bytes} (h : BRaw w v l) (hl : l.length ≤ 100000) : BIn (fun _ => True) w v l := by
  obtain ⟨A, n, c, e, h1, h2, h3⟩ := h
  exact ⟨A, n, c, e, ⟨h1, by have := h3.len; omega⟩, h3, fun _ _ _ _ => trivial⟩
structure Ops (w : World) (A : Option Addr) (n : Nat) (L : List (Int × Bytes × Bytes)) : Prop where
  len : L.length = n
  le : n ≤ 9223372036854775807
  cell : 0 < n → ∃ b o, A = some ⟨b, o, none⟩ ∧ b < w.heap.size ∧ ∀ j, j < n → ∃ kv xv, w.cell? ⟨b, o + j * 3, none⟩ = some (.int .i64 (L.getD j (0, [], [])).1) ∧ w.cell? ⟨b, o + j * 3 + 1, none⟩ = some kv ∧ w.cell? ⟨b, o + j * 3 + 2, none⟩ = some xv ∧
    BRaw w kv (L.getD j (0, [], [])).2.1 ∧ BRaw w xv (L.getD j (0, [], [])).2.2
theorem Ops.below {w w1 : World} {A : Option Addr} {n : Nat} {L : List (Int × Bytes × Bytes)} (h : Ops w A n L) (hb : Below w.heap.size w w1) : Ops w1 A n L :=
  ⟨h.len, h.le, fun hn => by
    obtain ⟨b, o, e, hlt, hc⟩ := h.cell hn
    refine ⟨b, o, e, Nat.lt_of_lt_of_le hlt hb.size, fun j hj => ?_⟩
    obtain ⟨kv, xv, h1, h2, h3, h4, h5⟩ := hc j hj
    exact ⟨kv, xv, (cell_block (hb.block b hlt)).trans h1, (cell_block (hb.block b hlt)).trans h2, (cell_block (hb.block b hlt)).trans h3, h4.below hb, h5.below hb⟩⟩

section

variable {H : Type} {enc : TypeId × Value → H} {w : World} {base : Nat} {spare : Nat → Bool} {held : Bool}
set_option maxRecDepth 100000 in
theorem open_raw {fuel : Nat} {v : Value} {x : DataW H × List MemPlace} (h : DataW.trod enc Try.prog w base spare held fuel 32 [v] = some x) : ∃ l, BRaw w v l := by
  rcases open_ints Try.underlying32 Try.underlying5 (by kernel_rfl) h with ⟨hcs, _⟩ | ⟨a, len, cap, zs, hcs, _, hl, hm, hz, _, hcell, hwz⟩
  · cases hcs
    exact ⟨[], none, 0, 0, rfl, by omega, by omega, ⟨rfl, by omega, fun h => by omega⟩⟩
  · cases hcs
    unfold maxLen at hm
    have hlz : len ≤ zs.length := by rw [hz]; split <;> omega
    refine ⟨(zs.take len).map fun z => UInt8.ofNat z.toNat, some a, len, cap, rfl, hl, hm, ⟨by rw [List.length_map, List.length_take]; omega, by omega, fun hn => ?_⟩⟩
    obtain ⟨b, o, rfl, hc⟩ := ints_at hcell (by omega)
    refine ⟨b, o, rfl, World.block_lt_of_cell? w _ (hc 0 (by omega)), fun j hj => ?_⟩
    rw [hc j (by omega)]
    have hj2 : j < zs.length := by omega
    have hw := bounds_u8 (hwz (zs.getD j 0) (by rw [List.getD_eq_getElem?_getD, List.getElem?_eq_getElem hj2]; simp))
    simp only [List.getD_eq_getElem?_getD, List.getElem?_map, List.getElem?_take, hj, if_true, List.getElem?_eq_getElem hj2, Option.map_some, Option.getD_some] at hw ⊢
    rw [UInt8.toNat_ofNat_of_lt' (by show zs[j].toNat < 256; omega)]
    congr 2; omega
set_option maxRecDepth 100000 in
theorem open_i64 {fuel : Nat} {v : Value} {x : DataW H × List MemPlace} (h : DataW.trod enc Try.prog w base spare held fuel 3 [v] = some x) : ∃ n, v = .int .i64 n := by
  cases fuel with
  | zero => simp [DataW.trod] at h
  | succ f =>
    unfold DataW.trod at h
    rw [Try.underlying3] at h
    cases v <;> simp at h
    exact ⟨_, by rw [h.1.1]⟩

theorem cells3 : Try.prog.cellsOf 3 = 1 := by kernel_rfl

theorem cells27 : Try.prog.cellsOf 32 = 1 := by kernel_rfl

instance : Inhabited (Int × Bytes × Bytes) := ⟨(0, [], [])⟩

end

/-- What Fine tells of. -/
def FineL (L : List (Int × Bytes × Bytes)) (most : Nat) : Prop := L.length ≤ most ∧ ∀ o ∈ L, o.2.1.length ≤ 100 ∧ o.2.2.length ≤ 100

def FineR (L : List (Int × Bytes × Bytes)) (most : Nat) (w w' : World) (e : Ending) : Prop := ∃ r, e = .returned (.bool r) ∧ (r = true → FineL L most) ∧ Below w.heap.size w w'

end Go.Proofs.Ytocideolihbnaaa
