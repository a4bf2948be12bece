/- The contract of the tree's Sound, at trees whose nodes are even and whose keys rise. -/
import Derived.Test.YtphjaebkcimklaaGreatDoorTList
set_option linter.unusedVariables false
set_option linter.unusedSimpArgs false
namespace Go.Proofs.YtphjaebkcimklaaGreatDoor
open Go.RowKit

/-- What the closure keeps: the last node, if there was one, and its key. -/
def LastIn (S : Nat → Prop) (ob : Nat) (W : World) (u : Option Addr) : Option Bytes → Prop
  | none => u = none
  | some k => ∃ b kv xv lv rv sz, u = some ⟨b, 0, none⟩ ∧ S b ∧ W.heap[b]? = some (.cells #[kv, xv, lv, rv, .int .i64 sz] 129 (0, 0)) ∧ BIn S W kv k

theorem one_set {W : World} {b : Nat} {t : TypeId} {u : Value} (h : W.heap[b]? = some (.cells #[u] t (0, 0))) (v : Value) : (W.setCell ⟨b, 0, none⟩ v).heap[b]? = some (.cells #[v] t (0, 0)) := by
  simp [World.setCell, Array.getElem?_modify, h]
theorem quiet_same {f : FuncId} {args : Array Value} {w : World} {n : Nat} {v : Value} (h : Calls Tryz.prog f args (w.drewN n) fun e w' => e = .returned v ∧ w.drewN n = w') :
    Calls Tryz.prog f args (w.drewN n) fun e w'' => e = .returned v ∧ ∃ m, w'' = w.drewN m := h.mono fun _ _ ⟨he, hm⟩ => ⟨he, n, hm.symm⟩

/-- The keys rise. -/
def Asc (L : Pairs) : Prop := L.Pairwise fun a b => Lib.compareBytes a.1 b.1 = -1
theorem LastIn.below {S : Nat → Prop} {base ob : Nat} {w w1 : World} {u : Option Addr} {lk : Option Bytes} (h : LastIn S ob w u lk) (hS : ∀ b, S b → b < base) (hb : Below base w w1) : LastIn S ob w1 u lk := by
  cases lk with
  | none => exact h
  | some k =>
    obtain ⟨b, kv, xv, lv, rv, sz, e, hSb, hh, hk⟩ := h
    exact ⟨b, kv, xv, lv, rv, sz, e, hSb, (hb.block b (hS b hSb)).trans hh, hk.carry hb.size fun b hb' _ => hb.block b (hS b hb')⟩

end Go.Proofs.YtphjaebkcimklaaGreatDoor
