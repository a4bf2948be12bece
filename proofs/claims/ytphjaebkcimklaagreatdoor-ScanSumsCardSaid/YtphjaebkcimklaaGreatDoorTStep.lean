/- The laws' Step: a tree and the reference's map take one operation. -/
import Derived.Test.YtphjaebkcimklaaGreatDoorTPlain
set_option linter.unusedVariables false
set_option linter.unusedSimpArgs false
namespace Go.Proofs.YtphjaebkcimklaaGreatDoor
open Go.RowKit

theorem info29 : (Tryz.prog.info? 81).map (·.size) = some 3 := by kernel_rfl

/-- An operation as it lies. -/
def OIn (S : Nat → Prop) (w : World) (v : Value) (op : Int) (k x : Bytes) : Prop := ∃ kv xv, v = .agg #[.int .i64 op, kv, xv] ∧ BIn S w kv k ∧ BIn S w xv x

/-- A tree and a map behind a step. -/
structure StepIn (S : Nat → Prop) (m : Option Nat) (w W : World) (T T' : PT) (M M' : Pairs) (u : Option Addr) (A' : Option Addr) (c' vi co vi' co' : Nat) (op : Int) : Prop where
  even : T'.even
  asc : Asc T'.list
  tin : TIn (Up S w.heap.size) W (.pointer u) T'
  min : MIn (Up S w.heap.size) W A' M'.length M'
  cap : M'.length ≤ c'
  met : Met m w W vi co vi' co' 0 T.height
  ts : T'.size ≤ T.size + 1
  ms : M'.length ≤ M.length + 1
  ascM : Asc M'
  keys : ∀ p ∈ M', p.1.length ≤ 100000
  same : M = T.list → M' = T'.list
  low : 1 ≤ op → op ≤ 3 → 0 < T.size → vi < vi'

theorem StepIn.on {S : Nat → Prop} {m : Option Nat} {w W W' : World} {T T' : PT} {M M' : Pairs} {u : Option Addr} {A' : Option Addr} {c' vi co vi' co' : Nat} {op : Int} (h : StepIn S m w W T T' M M' u A' c' vi co vi' co' op) (hb : Below W.heap.size W W') :
    StepIn S m w W' T T' M M' u A' c' vi co vi' co' op :=
  ⟨h.even, h.asc, h.tin.below hb, h.min.below hb, h.cap, (h.met.trans (Met.of h.met.at_ hb)).wide (by omega) (by omega), h.ts, h.ms, h.ascM, h.keys, h.same, h.low⟩

theorem Kept.drewN {m : Option Nat} {w w' : World} (h : Kept m w w') (q : Nat) : Kept m w (w'.drewN q) := ⟨h.os, h.tape, h.output, h.size, h.block⟩
theorem gotM_parts (o : Option Bytes) : ∃ want is, gotM o = .tuple #[.string want, .bool is] ∧ is = o.isSome ∧ want = strO (o.getD []) := by
  cases o with
  | none => exact ⟨_, _, rfl, rfl, rfl⟩
  | some x => exact ⟨_, _, rfl, rfl, rfl⟩
theorem ins_len (k x : Bytes) : ∀ M : Pairs, (insL k x M).length ≤ M.length + 1
  | [] => by simp [insL]
  | q :: M => by
    have := ins_len k x M
    unfold insL
    split
    · simp; omega
    · split <;> simp
theorem path_le : ∀ (T : PT) (key : Bytes), T.path key ≤ T.height
  | .nil, _ => Nat.le_refl _
  | .node l k x r, key => by
    have h1 := path_le l key
    have h2 := path_le r key
    simp only [PT.path, PT.height]
    split
    · omega
    · split <;> omega
theorem path_pos (T : PT) (key : Bytes) (h : 0 < T.size) : 1 ≤ T.path key := by
  cases T with
  | nil => simp [PT.size] at h
  | node l k x r => simp only [PT.path]; omega

/-- What Step tells. -/
def Stepped (S : Nat → Prop) (m : Option Nat) (w W : World) (e : Ending) (T : PT) (M : Pairs) (vi co : Nat) (op : Int) : Prop :=
  ∃ u T' A' c' M' b vi' co', e = .returned (.tuple #[.pointer u, .slice A' M'.length c', .bool b]) ∧ StepIn S m w W T T' M M' u A' c' vi co vi' co' op ∧ (M = T.list → b = true)

end Go.Proofs.YtphjaebkcimklaaGreatDoor
