/- Bytes written into unfrozen blocks; a kept tree and map. -/
import Derived.Test.YtlnlgahokifolaaTListN
set_option linter.unusedVariables false
set_option linter.unusedSimpArgs false
namespace Go.Proofs.Ytlnlgahokifolaa
open Go.RowKit

theorem cell_lt' {W : World} {a : Addr} {v : Value} (h : W.cell? a = some v) : a.block < W.heap.size := by
  unfold World.cell? at h
  split at h
  · rename_i c e f hb
    exact (Array.getElem?_eq_some_iff.1 hb).1
  · cases h
theorem cell_blk {A B : World} {a : Addr} (h : B.heap[a.block]? = A.heap[a.block]?) : B.cell? a = A.cell? a := by unfold World.cell?; rw [h]
/-- What is left by bytes put into unfrozen blocks of D. -/
structure Wr (D : Nat → Prop) (W W' : World) : Prop where
  os : W'.os = W.os
  tape : W'.tape = W.tape
  output : W'.output = W.output
  size : W.heap.size ≤ W'.heap.size
  block : ∀ b, b < W.heap.size → ¬ D b → W'.heap[b]? = W.heap[b]?
  keep : ∀ a v, W.cell? a = some v → (∀ x, v ≠ .int .u8 x) → W'.cell? a = some v
  byte : ∀ a x, W.cell? a = some (.int .u8 x) → ∃ y, W'.cell? a = some (.int .u8 y)
  nf : ∀ b, Nf W b → Nf W' b
section
variable {D : Nat → Prop} {W W' : World}
theorem Wr.refl (D : Nat → Prop) (W : World) : Wr D W W := ⟨rfl, rfl, rfl, Nat.le_refl _, fun _ _ _ => rfl, fun _ _ h _ => h, fun _ x h => ⟨x, h⟩, fun _ h => h⟩
theorem Wr.trans {A B C : World} (h : Wr D A B) (h' : Wr D B C) : Wr D A C :=
  ⟨h'.os.trans h.os, h'.tape.trans h.tape, h'.output.trans h.output, Nat.le_trans h.size h'.size, fun b hb hd => (h'.block b (Nat.lt_of_lt_of_le hb h.size) hd).trans (h.block b hb hd), fun a v hv hn => h'.keep a v (h.keep a v hv hn) hn, fun a x hx => by
    obtain ⟨y, hy⟩ := h.byte a x hx
    exact h'.byte a y hy, fun b hb => h'.nf b (h.nf b hb)⟩
theorem Wr.of_below {A B : World} (h : Below A.heap.size A B) : Wr D A B :=
  ⟨h.os, h.tape, h.output, h.size, fun b hb _ => h.block b hb, fun a v hv _ => (cell_blk (h.block a.block (cell_lt' hv))).trans hv, fun a x hx => ⟨x, (cell_blk (h.block a.block (cell_lt' hx))).trans hx⟩, fun b hb => hb.same (h.block b hb.lt)⟩
theorem Wr.below {n : Nat} (h : Wr D W W') (hn : n ≤ W.heap.size) (hD : ∀ b, b < n → ¬ D b) : Below n W W' :=
  ⟨h.os, h.tape, h.output, h.size, fun b hb => h.block b (Nat.lt_of_lt_of_le hb hn) (hD b hb)⟩
theorem Nf.free {b : Nat} (h : Nf W b) (o : Nat) : W.frozen? ⟨b, o, none⟩ = false := by
  obtain ⟨arr, T, h⟩ := h
  simp [World.frozen?, h]
theorem Wr.set {b o : Nat} {x y : Int} (hc : W.cell? ⟨b, o, none⟩ = some (.int .u8 x)) (hD : D b) : Wr D W (W.setCell ⟨b, o, none⟩ (.int .u8 y)) := by
  have hs : (W.setCell ⟨b, o, none⟩ (.int .u8 y)).heap.size = W.heap.size := by simp
  refine ⟨rfl, rfl, rfl, by omega, fun k _ hk => Go.Deep.blk_setCell_other _ _ _ _ (fun e => hk (by rw [e]; exact hD)), fun a v hv hn => ?_, fun a z hz => ?_, fun k hk => hk.setCell _ _ _⟩
  · by_cases e : (⟨b, o, none⟩ : Addr) = a
    · subst e; rw [hc] at hv; injection hv with hv; exact absurd hv.symm (hn x)
    · exact (World.cell?_setCell_other W _ _ _ e).trans hv
  · by_cases e : (⟨b, o, none⟩ : Addr) = a
    · subst e; exact ⟨y, World.cell?_setCell_same W _ _ hc⟩
    · exact ⟨z, (World.cell?_setCell_other W _ _ _ e).trans hz⟩

/-- A slice of bytes that may be written. -/
def SW (D : Nat → Prop) (W : World) (v : Value) : Prop := ∃ A n c, v = .slice A n c ∧ n ≤ 100000 ∧ (0 < n → ∃ b o, A = some ⟨b, o, none⟩ ∧ D b ∧ Nf W b ∧ ∀ i, i < n → ∃ x, W.cell? ⟨b, o + i, none⟩ = some (.int .u8 x))
theorem SW.wr {v : Value} (h : SW D W v) {D' : Nat → Prop} (hw : Wr D' W W') : SW D W' v := by
  obtain ⟨A, n, c, rfl, h5, h⟩ := h
  exact ⟨A, n, c, rfl, h5, fun hn => by
    obtain ⟨b, o, e, h1, h2, h3⟩ := h hn
    exact ⟨b, o, e, h1, hw.nf b h2, fun i hi => by
      obtain ⟨x, hx⟩ := h3 i hi
      exact hw.byte _ x hx⟩⟩
theorem SW.of {v : Value} {l : Bytes} (h : BIn D W v l) (hf : NfV W v) : SW D W v := by
  obtain ⟨A, n, c, rfl, h5, hr, hs⟩ := h
  refine ⟨A, n, c, rfl, h5.2, fun hn => ?_⟩
  obtain ⟨b, o, rfl, hc⟩ : ∃ b o, A = some ⟨b, o, none⟩ ∧ ∀ i, i < n → ∃ x, W.cell? ⟨b, o + i, none⟩ = some (.int .u8 x) := by
    obtain ⟨b, o, e, _, hc⟩ := hr.cell hn
    exact ⟨b, o, e, fun i hi => ⟨_, hc i hi⟩⟩
  exact ⟨b, o, rfl, hs b o hn rfl, hf _ n c b o rfl hn rfl, hc⟩
/-- A row of pairs whose values are such slices. -/
def PW (D : Nat → Prop) (W : World) (A : Option Addr) (n : Nat) : Prop := 0 < n → ∃ b o, A = some ⟨b, o, none⟩ ∧ ∀ j, j < n → ∃ kv xv, W.cell? ⟨b, o + j * 2, none⟩ = some kv ∧ W.cell? ⟨b, o + j * 2 + 1, none⟩ = some xv ∧ SW D W kv ∧ SW D W xv
theorem PW.wr {A : Option Addr} {n : Nat} (h : PW D W A n) {D' : Nat → Prop} (hw : Wr D' W W') : PW D W' A n := fun hn => by
  obtain ⟨b, o, e, h⟩ := h hn
  refine ⟨b, o, e, fun j hj => ?_⟩
  obtain ⟨kv, xv, h1, h2, h3, h4⟩ := h j hj
  refine ⟨kv, xv, hw.keep _ _ h1 ?_, hw.keep _ _ h2 ?_, h3.wr hw, h4.wr hw⟩
  · obtain ⟨_, _, _, e, _⟩ := h3; subst e; intro x e; cases e
  · obtain ⟨_, _, _, e, _⟩ := h4; subst e; intro x e; cases e
theorem PW.of {n : Nat} {A : Option Addr} {L : Pairs} (h : LIn D W A n L) (hf : NfR W A n) : PW D W A n := fun hn => by
  obtain ⟨b, o, e, _, _, hc⟩ := h.cell hn
  obtain ⟨b', o', e', hf⟩ := hf hn
  rw [e] at e'
  injection e' with e'
  injection e' with e1 e2
  subst e1 e2
  refine ⟨b, o, e, fun j hj => ?_⟩
  obtain ⟨kv, xv, h1, h2, h3, h4⟩ := hc j hj
  obtain ⟨kv', xv', g1, g2, g3, g4⟩ := hf j hj
  rw [h1] at g1
  rw [h2] at g2
  injection g1 with g1
  injection g2 with g2
  subst g1 g2
  exact ⟨kv, xv, h1, h2, SW.of h3 g3, SW.of h4 g4⟩
end

/-- A tree and a map, one to the other, in blocks of S. -/
structure Pt (S : Nat → Prop) (W : World) (u A : Option Addr) (c : Nat) (T : PT) (n : Nat) : Prop where
  tin : TIn S W (.pointer u) T
  min : MIn S W A T.list.length T.list
  cap : T.list.length ≤ c
  even : T.even
  asc : Asc T.list
  keys : ∀ p ∈ T.list, p.1.length ≤ 100000
  size : T.size ≤ n
section
variable {S S' : Nat → Prop} {W W' : World} {u A : Option Addr} {c n : Nat} {T : PT}
theorem Pt.carry (h : Pt S W u A c T n) (hs : W.heap.size ≤ W'.heap.size) (hb : ∀ b, S b → b < W.heap.size → W'.heap[b]? = W.heap[b]?) : Pt S W' u A c T n := ⟨h.tin.carry hs hb, h.min.carry hs hb, h.cap, h.even, h.asc, h.keys, h.size⟩
theorem Pt.below (h : Pt S W u A c T n) (hb : Below W.heap.size W W') : Pt S W' u A c T n := h.carry hb.size fun b _ hlt => hb.block b hlt
theorem Pt.imp (h : Pt S W u A c T n) (hS : ∀ b, b < W.heap.size → S b → S' b) : Pt S' W u A c T n := ⟨h.tin.imp hS, h.min.imp hS, h.cap, h.even, h.asc, h.keys, h.size⟩
theorem Pt.wr (h : Pt S W u A c T n) {D : Nat → Prop} (hw : Wr D W W') (hD : ∀ b, b < W.heap.size → S b → ¬ D b) : Pt S W' u A c T n := h.carry hw.size fun b hb hlt => hw.block b hlt (hD b hlt hb)
end

/-- One step of the law, the operation's bytes elsewhere. -/
theorem step_pt {S S' : Nat → Prop} (op : Int) (k x : Bytes) (W : World) (u A : Option Addr) (c n : Nat) (T : PT) (ov : Value) (h : Pt S W u A c T n) (hO : OIn S' W ov op k x) (hk : k.length ≤ 100000) (hn : n ≤ 1000) :
    Calls Try.prog 15 #[.pointer u, .slice A T.list.length c, ov, .pointer none] W fun e W' => ∃ u' A' c' T', e = .returned (.tuple #[.pointer u', .slice A' T'.list.length c', .bool true]) ∧ Hid (Pt (Up S W.heap.size) W' u' A' c' T' (n + 1) ∧ Below W.heap.size W W') := by
  refine (step_any2 none (by simp) (by simp) T T.list (.pointer u) ov A c 0 0 op k x W h.tin h.min h.cap hO hk h.even h.asc h.asc h.keys (fun b e => by cases e) (by have := h.size; omega) (by rw [PT.size_list]; have := h.size; omega) (by have := T.height_le; have := h.size; omega) (by have := T.height_le; have := h.size; omega)).mono ?_
  rintro e W' ⟨u', T', A', c', M', b, vi', co', rfl, hs, hb⟩
  have hM' := hs.same rfl
  subst hM'
  rw [hb rfl]
  exact ⟨u', A', c', T', rfl, Lib.hid ⟨⟨hs.tin, hs.min, hs.cap, hs.even, hs.asc, hs.keys, by have := hs.ts; have := h.size; omega⟩, hs.met.kept.to⟩⟩

end Go.Proofs.Ytlnlgahokifolaa
