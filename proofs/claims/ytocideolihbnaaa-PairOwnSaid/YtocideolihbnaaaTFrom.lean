/- The contract of the tree's From. -/
import Derived.Test.YtocideolihbnaaaTGet
set_option linter.unusedVariables false
set_option linter.unusedSimpArgs false
namespace Go.Proofs.Ytocideolihbnaaa
open Go.RowKit

abbrev Pairs := List (Bytes × Bytes)
/-- A slice of pairs, as it reads. -/
structure LIn (S : Nat → Prop) (w : World) (A : Option Addr) (n : Nat) (L : Pairs) : Prop where
  len : L.length = n
  cell : 0 < n → ∃ b o, A = some ⟨b, o, none⟩ ∧ b < w.heap.size ∧ S b ∧ ∀ j, j < n → ∃ kv xv, w.cell? ⟨b, o + j * 2, none⟩ = some kv ∧ w.cell? ⟨b, o + j * 2 + 1, none⟩ = some xv ∧ BIn S w kv (L.getD j ([], [])).1 ∧ BIn S w xv (L.getD j ([], [])).2
theorem cell_block {w w1 : World} {b i : Nat} (h : w1.heap[b]? = w.heap[b]?) : w1.cell? ⟨b, i, none⟩ = w.cell? ⟨b, i, none⟩ := by simp only [World.cell?, h]
theorem LIn.carry {S : Nat → Prop} {w w1 : World} {A : Option Addr} {n : Nat} {L : Pairs} (h : LIn S w A n L) (hs : w.heap.size ≤ w1.heap.size) (hb : ∀ b, S b → b < w.heap.size → w1.heap[b]? = w.heap[b]?) : LIn S w1 A n L := by
  refine ⟨h.len, fun hn => ?_⟩
  obtain ⟨b, o, e, hlt, hS, hc⟩ := h.cell hn
  refine ⟨b, o, e, Nat.lt_of_lt_of_le hlt hs, hS, fun j hj => ?_⟩
  obtain ⟨kv, xv, h1, h2, h3, h4⟩ := hc j hj
  exact ⟨kv, xv, (cell_block (hb b hS hlt)).trans h1, (cell_block (hb b hS hlt)).trans h2, h3.carry hs hb, h4.carry hs hb⟩
theorem LIn.below {S : Nat → Prop} {w w1 : World} {A : Option Addr} {n : Nat} {L : Pairs} (h : LIn S w A n L) (hk : Below w.heap.size w w1) : LIn S w1 A n L := h.carry hk.size fun b _ hlt => hk.block b hlt
theorem LIn.imp {S S' : Nat → Prop} {w : World} {A : Option Addr} {n : Nat} {L : Pairs} (h : LIn S w A n L) (hS : ∀ b, b < w.heap.size → S b → S' b) : LIn S' w A n L := by
  refine ⟨h.len, fun hn => ?_⟩
  obtain ⟨b, o, e, hlt, hSb, hc⟩ := h.cell hn
  refine ⟨b, o, e, hlt, hS b hlt hSb, fun j hj => ?_⟩
  obtain ⟨kv, xv, h1, h2, h3, h4⟩ := hc j hj
  exact ⟨kv, xv, h1, h2, h3.imp hS, h4.imp hS⟩
theorem LIn.take {S : Nat → Prop} {w : World} {A : Option Addr} {n k : Nat} {L : Pairs} (h : LIn S w A n L) (hk : k ≤ n) : LIn S w A k (L.take k) := by
  have := h.len
  refine ⟨by rw [List.length_take]; omega, fun hn => ?_⟩
  obtain ⟨b, o, e, hlt, hS, hc⟩ := h.cell (by omega)
  refine ⟨b, o, e, hlt, hS, fun j hj => ?_⟩
  have h2 := hc j (by omega)
  have e2 : (L.take k).getD j ([], []) = L.getD j ([], []) := by simp [List.getD_eq_getElem?_getD, List.getElem?_take, hj]
  rw [e2]; exact h2
theorem LIn.drop {S : Nat → Prop} {w : World} {b o n k : Nat} {L : Pairs} (h : LIn S w (some ⟨b, o, none⟩) n L) (hk : k ≤ n) (A : Option Addr) (hA : k < n → A = some ⟨b, o + k * 2, none⟩) : LIn S w A (n - k) (L.drop k) := by
  have := h.len
  refine ⟨by rw [List.length_drop]; omega, fun hn => ?_⟩
  obtain ⟨b', o', e, hlt, hS, hc⟩ := h.cell (by omega)
  cases e
  refine ⟨b, o + k * 2, hA (by omega), hlt, hS, fun j hj => ?_⟩
  have h2 := hc (k + j) (by omega)
  have e2 : (L.drop k).getD j ([], []) = L.getD (k + j) ([], []) := by simp [List.getD_eq_getElem?_getD, List.getElem?_drop]
  rw [e2, show o + k * 2 + j * 2 = o + (k + j) * 2 by omega]; exact h2

namespace PT
/-- Each node's sides are even. -/
def even : PT → Prop
  | nil => True
  | node l _ _ r => evenB l.size r.size = true ∧ l.even ∧ r.even
end PT
theorem evenB_half (n : Nat) (h : 0 < n) : evenB (n / 2) (n - (n / 2 + 1)) = true := by
  unfold evenB; simp; omega

theorem split_mid (L : Pairs) (k : Nat) (h : k < L.length) : L.take k ++ L.getD k ([], []) :: L.drop (k + 1) = L := by
  rw [List.getD_eq_getElem?_getD, List.getElem?_eq_getElem h]
  simp

end Go.Proofs.Ytocideolihbnaaa
