/- The law TreePlays. -/
import Derived.Test.YtnfhbljhohjkhaaTAwake
set_option linter.unusedVariables false
set_option linter.unusedSimpArgs false
namespace Go.Proofs.Ytnfhbljhohjkhaa
open Go.RowKit

/-- A tree and a map, one to the other, on the way of a law. -/
structure Both (w W : World) (u : Option Addr) (A : Option Addr) (c : Nat) (T : PT) (n : Nat) : Prop where
  tin : TIn (fun _ => True) W (.pointer u) T
  min : MIn (fun _ => True) W A T.list.length T.list
  cap : T.list.length ≤ c
  even : T.even
  asc : Asc T.list
  keys : ∀ p ∈ T.list, p.1.length ≤ 100000
  size : T.size ≤ n
  below : Below w.heap.size w W
theorem Both.nil (w W : World) (h : Below w.heap.size w W) : Both w W none none 0 .nil 0 :=
  ⟨rfl, ⟨rfl, fun h => by simp [PT.list] at h⟩, by simp [PT.list], trivial, List.Pairwise.nil, by simp [PT.list], by simp [PT.size], h⟩
theorem Both.on {w W W' : World} {u A : Option Addr} {c n : Nat} {T : PT} (h : Both w W u A c T n) (hb : Below W.heap.size W W') : Both w W' u A c T n :=
  ⟨h.tin.below hb, h.min.below hb, h.cap, h.even, h.asc, h.keys, h.size, h.below.trans (hb.mono h.below.size)⟩

/-- One step of a law: the tree and the map stay one. -/
theorem step_both {S : Nat → Prop} (m : Option Nat) (vi co : Nat) (op : Int) (k x : Bytes) (w W : World) (u A : Option Addr) (c n : Nat) (T : PT) (ov : Value) (h : Both w W u A c T n) (hO : OIn (fun _ => True) W ov op k x) (hk : k.length ≤ 100000)
    (hm : ∀ b, m = some b → w.heap.size ≤ b) (hS : ∀ b, S b → m ≠ some b) (hT : TIn S W (.pointer u) T) (hM : MIn S W A T.list.length T.list) (hO' : OIn S W ov op k x) (hA : MAt m W vi co) (hn : n ≤ 1000) (hv : vi + T.height < 1000000) (hco : co + T.height < 1000000) :
    Calls Try.prog 57 #[.pointer u, .slice A T.list.length c, ov, mV m] W fun e W' => ∃ u' A' c' T' vi' co', e = .returned (.tuple #[.pointer u', .slice A' T'.list.length c', .bool true]) ∧ Hid (Both w W' u' A' c' T' (n + 1) ∧ Met m W W' vi co vi' co' 0 T.height ∧ (1 ≤ op → op ≤ 3 → 0 < T.size → vi < vi')) := by
  refine (step_any m hS T T.list (.pointer u) ov A c vi co op k x W hT hM h.cap hO' hk h.even h.asc h.asc h.keys hA (by have := h.size; omega) (by rw [PT.size_list]; have := h.size; omega) hv hco).mono ?_
  rintro e W' ⟨u', T', A', c', M', b, vi', co', rfl, hs, hb⟩
  have hM' := hs.same rfl
  subst hM'
  rw [hb rfl]
  refine ⟨u', A', c', T', vi', co', rfl, Lib.hid ⟨⟨hs.tin.imp (fun _ _ _ => trivial), hs.min.imp (fun _ _ _ => trivial), hs.cap, hs.even, hs.asc, hs.keys, by have := hs.ts; have := h.size; omega, ?_⟩, hs.met, hs.low⟩⟩
  have hk := hs.met.kept
  exact ⟨hk.os.trans h.below.os, hk.tape.trans h.below.tape, hk.output.trans h.below.output, Nat.le_trans h.below.size hk.size, fun b' hb' => (hk.block b' (Nat.lt_of_lt_of_le hb' h.below.size) (fun e => by have := hm b' e; omega)).trans (h.below.block b' hb')⟩

theorem OIn.of {w : World} {op : Int} {kv xv : Value} {k x : Bytes} (hk : BRaw w kv k) (hx : BRaw w xv x) (hk1 : k.length ≤ 100) (hx1 : x.length ≤ 100) : OIn (fun _ => True) w (.agg #[.int .i64 op, kv, xv]) op k x :=
  ⟨kv, xv, rfl, hk.fine (by omega), hx.fine (by omega)⟩
theorem OIn.below {S : Nat → Prop} {w w1 : World} {v : Value} {op : Int} {k x : Bytes} (h : OIn S w v op k x) (hb : Below w.heap.size w w1) : OIn S w1 v op k x := by
  obtain ⟨kv, xv, e, h1, h2⟩ := h
  exact ⟨kv, xv, e, h1.below hb, h2.below hb⟩

end Go.Proofs.Ytnfhbljhohjkhaa
