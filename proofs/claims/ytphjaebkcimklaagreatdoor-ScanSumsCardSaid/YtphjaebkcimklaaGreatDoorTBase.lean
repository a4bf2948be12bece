/- Trees as they lie in memory: bytes, pairs, nodes; and the contracts of the sizes' arithmetic. -/
import Derived.Test.YtphjaebkcimklaaGreatDoorRows
import Derived.WalkKit
import Derived.WalkSpells
import Derived.WalkLawsBesides
import Derived.IntWalk
import Derived.KernelRfl
import Derived.Lib.Hide
import Derived.Lib.ConvBytes
import Derived.Laws.BytesArg
import Derived.Laws.Rows
import Derived.Laws.Tables
import Derived.Laws.CopyOwn
import Derived.Deep.QuietTactic
import Derived.Deep.RegionHeld3
import Derived.Deep.DrawnRows
import Derived.BigQuiet
import Derived.Maps.AppendAt
import Derived.Lib.Bytealg
import Derived.Lib.UnsafeStr
set_option linter.unusedVariables false
set_option linter.unusedSimpArgs false
namespace Go.Proofs.YtphjaebkcimklaaGreatDoor
open Go.RowKit

theorem max2_num (k k' : IntKind) (x y : Int) : Builtin.max2 (.int k x) (.int k' y) = pure (.int k (if x < y then y else x)) := by simp only [Builtin.max2, gt_iff_lt]
theorem min2_num (k k' : IntKind) (x y : Int) : Builtin.min2 (.int k x) (.int k' y) = pure (.int k (if y < x then y else x)) := by simp only [Builtin.min2]
theorem maxOf_two (ats : Array TypeId) (ty : TypeId) (a b : Value) : Builtin.max_ ats ty #[a, b] = (Builtin.max2 a b >>= fun s => pure s) := by simp only [Builtin.max_, List.foldlM_cons, List.foldlM_nil]
theorem minOf_two (ats : Array TypeId) (ty : TypeId) (a b : Value) : Builtin.min_ ats ty #[a, b] = (Builtin.min2 a b >>= fun s => pure s) := by simp only [Builtin.min_, List.foldlM_cons, List.foldlM_nil]
attribute [local go_sem] max2_num min2_num maxOf_two minOf_two
theorem ret_num {k : IntKind} {a b : Int} (h : a = b) : Ending.returned (.int k a) = .returned (.int k b) := by rw [h]
theorem heap_new (w : World) (o : Obj) : (w.alloc o).heap[w.heap.size]? = some o := heap_alloc_new w o
theorem heap_old {w : World} {b : Nat} {o : Obj} (p : Obj) (h : w.heap[b]? = some o) : (w.alloc p).heap[b]? = some o := (Below.heap_alloc w p b (Array.getElem?_eq_some_iff.1 h).1).trans h
theorem below_drewN {B : Nat} {a w : World} (h : Below B a w) (n : Nat) : Below B a (w.drewN n) := ⟨h.os, h.tape, h.output, h.size, h.block⟩
theorem below_drew1 {B : Nat} {w W : World} (h : Below B w.drew W) : Below B w W := ⟨h.os, h.tape, h.output, h.size, h.block⟩
theorem below_drew2 {B : Nat} {w W : World} (h : Below B w W) : Below B w W.drew := ⟨h.os, h.tape, h.output, h.size, h.block⟩

/-! ### Bytes -/
/-- A slice of bytes, as it reads: nil, empty and other ones alike. -/
structure RdB (w : World) (A : Option Addr) (n : Nat) (l : List UInt8) : Prop where
  len : l.length = n
  le : n ≤ 9223372036854775807
  cell : 0 < n → ∃ b o, A = some ⟨b, o, none⟩ ∧ b < w.heap.size ∧ ∀ j, j < n → w.cell? ⟨b, o + j, none⟩ = some (.int .u8 ((l.getD j 0).toNat : Int))
theorem RdB.carry {w w1 : World} {A : Option Addr} {n : Nat} {l : List UInt8} (h : RdB w A n l) (hs : w.heap.size ≤ w1.heap.size) (hb : ∀ b o, 0 < n → A = some ⟨b, o, none⟩ → b < w.heap.size → w1.heap[b]? = w.heap[b]?) : RdB w1 A n l := by
  refine ⟨h.len, h.le, fun hn => ?_⟩
  obtain ⟨b, o, e, hlt, hc⟩ := h.cell hn
  refine ⟨b, o, e, Nat.lt_of_lt_of_le hlt hs, fun j hj => ?_⟩
  rw [← hc j hj]
  simp only [World.cell?, hb b o hn e hlt]
theorem RdB.below {w w1 : World} {A : Option Addr} {n : Nat} {l : List UInt8} (h : RdB w A n l) (hb : Below w.heap.size w w1) : RdB w1 A n l :=
  h.carry hb.size fun b _ _ _ hlt => hb.block b hlt

abbrev Bytes := List UInt8
/-- A value is a slice of some bytes, which lie in blocks of S. -/
def BIn (S : Nat → Prop) (w : World) (v : Value) (l : Bytes) : Prop := ∃ A n c, v = .slice A n c ∧ (n ≤ c ∧ n ≤ 100000) ∧ RdB w A n l ∧ ∀ b o, 0 < n → A = some ⟨b, o, none⟩ → S b
/-- A value is a pair. -/
def PIn (S : Nat → Prop) (w : World) (v : Value) (k x : Bytes) : Prop := ∃ kv xv, v = .agg #[kv, xv] ∧ BIn S w kv k ∧ BIn S w xv x

/-! ### Trees -/
inductive PT where
  | nil
  | node (l : PT) (k x : Bytes) (r : PT)
namespace PT
def size : PT → Nat
  | nil => 0
  | node l _ _ r => l.size + 1 + r.size
def list : PT → List (Bytes × Bytes)
  | nil => []
  | node l k x r => l.list ++ (k, x) :: r.list
theorem size_list : ∀ T : PT, T.list.length = T.size
  | nil => rfl
  | node l k x r => by rw [list, List.length_append, List.length_cons, size_list l, size_list r, size]; omega
def left : PT → PT
  | nil => nil
  | node l _ _ _ => l
def right : PT → PT
  | nil => nil
  | node _ _ _ r => r
end PT

/-- A tree lies in memory, in blocks of S. -/
def TIn (S : Nat → Prop) (w : World) : Value → PT → Prop
  | v, .nil => v = .pointer none
  | v, .node l k x r => ∃ b kv xv lv rv, v = .pointer (some ⟨b, 0, none⟩) ∧ S b ∧ w.heap[b]? = some (.cells #[kv, xv, lv, rv, .int .i64 ((l.size + 1 + r.size : Nat) : Int)] 129 (0, 0)) ∧
      BIn S w kv k ∧ BIn S w xv x ∧ TIn S w lv l ∧ TIn S w rv r

section
variable {S S' : Nat → Prop} {w w1 : World} {v : Value} {l k x : Bytes} {T : PT}
theorem BIn.imp (h : BIn S w v l) (hS : ∀ b, b < w.heap.size → S b → S' b) : BIn S' w v l := by
  obtain ⟨A, n, c, rfl, hc, hr, hs⟩ := h
  refine ⟨A, n, c, rfl, hc, hr, fun b o hn e => ?_⟩
  obtain ⟨b', o', e', hlt, _⟩ := hr.cell hn
  rw [e] at e'
  cases e'
  exact hS b hlt (hs b o hn e)
theorem BIn.carry (h : BIn S w v l) (hs : w.heap.size ≤ w1.heap.size) (hb : ∀ b, S b → b < w.heap.size → w1.heap[b]? = w.heap[b]?) : BIn S w1 v l := by
  obtain ⟨A, n, c, rfl, hc, hr, hS⟩ := h
  exact ⟨A, n, c, rfl, hc, hr.carry hs fun b o hn e hlt => hb b (hS b o hn e) hlt, hS⟩
theorem PIn.imp (h : PIn S w v k x) (hS : ∀ b, b < w.heap.size → S b → S' b) : PIn S' w v k x := by
  obtain ⟨kv, xv, rfl, h1, h2⟩ := h
  exact ⟨kv, xv, rfl, h1.imp hS, h2.imp hS⟩
theorem PIn.carry (h : PIn S w v k x) (hs : w.heap.size ≤ w1.heap.size) (hb : ∀ b, S b → b < w.heap.size → w1.heap[b]? = w.heap[b]?) : PIn S w1 v k x := by
  obtain ⟨kv, xv, rfl, h1, h2⟩ := h
  exact ⟨kv, xv, rfl, h1.carry hs hb, h2.carry hs hb⟩
theorem TIn.imp (hS : ∀ b, b < w.heap.size → S b → S' b) : ∀ {T : PT} {v : Value}, TIn S w v T → TIn S' w v T
  | .nil, _, h => h
  | .node _ _ _ _, _, ⟨b, kv, xv, lv, rv, e, hb, hh, h1, h2, h3, h4⟩ => ⟨b, kv, xv, lv, rv, e, hS b (Array.getElem?_eq_some_iff.1 hh).1 hb, hh, h1.imp hS, h2.imp hS, h3.imp hS, h4.imp hS⟩
theorem TIn.carry (hs : w.heap.size ≤ w1.heap.size) (hb : ∀ b, S b → b < w.heap.size → w1.heap[b]? = w.heap[b]?) : ∀ {T : PT} {v : Value}, TIn S w v T → TIn S w1 v T
  | .nil, _, h => h
  | .node _ _ _ _, _, ⟨b, kv, xv, lv, rv, e, hSb, hh, h1, h2, h3, h4⟩ =>
    ⟨b, kv, xv, lv, rv, e, hSb, (hb b hSb (Array.getElem?_eq_some_iff.1 hh).1).trans hh, h1.carry hs hb, h2.carry hs hb, h3.carry hs hb, h4.carry hs hb⟩
end

/-- Blocks of S, and those made since. -/
def Up (S : Nat → Prop) (n : Nat) : Nat → Prop := fun b => S b ∨ n ≤ b
/-- All is kept but one block, if one is named. -/
structure Kept (m : Option Nat) (w w' : World) : Prop where
  os : w'.os = w.os
  tape : w'.tape = w.tape
  output : w'.output = w.output
  size : w.heap.size ≤ w'.heap.size
  block : ∀ b, b < w.heap.size → m ≠ some b → w'.heap[b]? = w.heap[b]?
theorem Kept.refl (m : Option Nat) (w : World) : Kept m w w := ⟨rfl, rfl, rfl, Nat.le_refl _, fun _ _ _ => rfl⟩
theorem Kept.of {m : Option Nat} {w w' : World} (h : Below w.heap.size w w') : Kept m w w' := ⟨h.os, h.tape, h.output, h.size, fun b hb _ => h.block b hb⟩
theorem Kept.to {w w' : World} (h : Kept none w w') : Below w.heap.size w w' := ⟨h.os, h.tape, h.output, h.size, fun b hb => h.block b hb (by simp)⟩
theorem Kept.trans {m : Option Nat} {w w' w'' : World} (h : Kept m w w') (h' : Kept m w' w'') : Kept m w w'' :=
  ⟨h'.os.trans h.os, h'.tape.trans h.tape, h'.output.trans h.output, Nat.le_trans h.size h'.size, fun b hb hm => (h'.block b (Nat.lt_of_lt_of_le hb h.size) hm).trans (h.block b hb hm)⟩
theorem Kept.drew {m : Option Nat} {w w' : World} (h : Kept m w w') : Kept m w w'.drew := ⟨h.os, h.tape, h.output, h.size, h.block⟩
section
variable {S : Nat → Prop} {w w1 : World} {v : Value} {l k x : Bytes} {T : PT} {m : Option Nat}
theorem BIn.kept (h : BIn S w v l) (hk : Kept m w w1) (hm : ∀ b, S b → m ≠ some b) : BIn S w1 v l := h.carry hk.size fun b hb hlt => hk.block b hlt (hm b hb)
theorem PIn.kept (h : PIn S w v k x) (hk : Kept m w w1) (hm : ∀ b, S b → m ≠ some b) : PIn S w1 v k x := h.carry hk.size fun b hb hlt => hk.block b hlt (hm b hb)
theorem TIn.kept (h : TIn S w v T) (hk : Kept m w w1) (hm : ∀ b, S b → m ≠ some b) : TIn S w1 v T := h.carry hk.size fun b hb hlt => hk.block b hlt (hm b hb)
theorem BIn.below (h : BIn S w v l) (hk : Below w.heap.size w w1) : BIn S w1 v l := h.carry hk.size fun b _ hlt => hk.block b hlt
theorem PIn.below (h : PIn S w v k x) (hk : Below w.heap.size w w1) : PIn S w1 v k x := h.carry hk.size fun b _ hlt => hk.block b hlt
theorem TIn.below (h : TIn S w v T) (hk : Below w.heap.size w w1) : TIn S w1 v T := h.carry hk.size fun b _ hlt => hk.block b hlt
theorem TIn.up (h : TIn S w v T) (n : Nat) : TIn (Up S n) w v T := h.imp fun _ _ h => .inl h
theorem PIn.up (h : PIn S w v k x) (n : Nat) : PIn (Up S n) w v k x := h.imp fun _ _ h => .inl h
theorem BIn.up (h : BIn S w v l) (n : Nat) : BIn (Up S n) w v l := h.imp fun _ _ h => .inl h
theorem TIn.upup {n n' : Nat} (h : TIn (Up (Up S n) n') w v T) (hn : n ≤ n') : TIn (Up S n) w v T := h.imp fun b _ h => by rcases h with h | h; exact h; exact .inr (by omega)
end

/-! ### Sizes -/
def evenB (l r : Nat) : Bool := decide (l + 1 ≤ 3 * (r + 1)) && decide (r + 1 ≤ 3 * (l + 1))

theorem size_any (n : Nat) (w : World) (h : n ≤ 1048576) : Calls Tryz.prog 129 #[.int .i64 (n : Int)] w fun e w' => e = .returned (.int .i64 (n : Int)) ∧ w = w' := by
  go_enter Tryz.func129, Tryz.ntmps129
  go_wp2
  all_goals (go_ret; first | exact ⟨rfl, rfl⟩ | exact ⟨ret_num (by omega), rfl⟩)

theorem even0_any (l r : Nat) (w : World) (hl : l ≤ 2200000) (hr : r ≤ 2200000) : Calls Tryz.prog 128 #[.int .i64 (l : Int), .int .i64 (r : Int)] w fun e w' => e = .returned (.bool (evenB l r)) ∧ w = w' := by
  have e1 : decide ((l : Int) + 1 ≤ 3 * ((r : Int) + 1)) = decide (l + 1 ≤ 3 * (r + 1)) := by rw [decide_eq_decide]; omega
  have e2 : decide ((r : Int) + 1 ≤ 3 * ((l : Int) + 1)) = decide (r + 1 ≤ 3 * (l + 1)) := by rw [decide_eq_decide]; omega
  have HV : Hid (evenB l r = (decide ((l : Int) + 1 ≤ 3 * ((r : Int) + 1)) && decide ((r : Int) + 1 ≤ 3 * ((l : Int) + 1)))) := by
    rw [e1, e2]; rfl
  clear e1 e2
  by_cases h1 : (l : Int) + 1 ≤ 3 * ((r : Int) + 1)
  · by_cases h2 : (r : Int) + 1 ≤ 3 * ((l : Int) + 1)
    · go_enter Tryz.func128, Tryz.ntmps128
      go_wp2
      go_ret
      exact ⟨by rw [HV.out]; simp [h1, h2], rfl⟩
    · go_enter Tryz.func128, Tryz.ntmps128
      go_wp2
      go_ret
      exact ⟨by rw [HV.out]; simp [h1, h2], rfl⟩
  · go_enter Tryz.func128, Tryz.ntmps128
    go_wp2
    go_ret
    exact ⟨by rw [HV.out, decide_eq_false (show ¬ ((l : Int) + 1 ≤ 3 * ((r : Int) + 1)) by omega)]; rfl, rfl⟩

theorem even_any (l r : Nat) (w : World) (hl : l ≤ 1000000) (hr : r ≤ 1000000) : Calls Tryz.prog 114 #[.int .i64 (l : Int), .int .i64 (r : Int)] w fun e w' => e = .returned (.bool (evenB l r)) ∧ w = w' := by
  have h1 := Lib.hid (fun w => size_any l w (by omega))
  have h2 := Lib.hid (fun w => size_any r w (by omega))
  have h3 := Lib.hid (fun w => even0_any l r w (by omega) (by omega))
  go_enter Tryz.func114, Tryz.ntmps114
  go_wp2_with fail
  refine (h1.out _).mono ?_
  rintro e w1 ⟨rfl, rfl⟩
  go_wp2_with fail
  refine (h2.out _).mono ?_
  rintro e w2 ⟨rfl, rfl⟩
  go_wp2_with fail
  refine (h3.out _).mono ?_
  rintro e w3 ⟨rfl, rfl⟩
  go_wp2_with fail
  go_ret
  exact ⟨rfl, rfl⟩

theorem single_any (l i o : Nat) (w : World) (hl : l ≤ 1000000) (hi : i ≤ 1000000) (ho : o ≤ 1000000) :
    Calls Tryz.prog 130 #[.int .i64 (l : Int), .int .i64 (i : Int), .int .i64 (o : Int)] w fun e w' => e = .returned (.bool (evenB l i && evenB (l + i + 1) o)) ∧ w = w' := by
  have h1 := Lib.hid (fun w => size_any l w (by omega))
  have h2 := Lib.hid (fun w => size_any i w (by omega))
  have h3 := Lib.hid (fun w => size_any o w (by omega))
  have h4 := Lib.hid (fun w => even0_any l i w (by omega) (by omega))
  have h5 := fun w => even0_any (l + i + 1) o w (by omega) (by omega)
  rw [show ((l + i + 1 : Nat) : Int) = (l : Int) + i + 1 by simp] at h5
  have H5 := Lib.hid h5
  clear h5
  generalize evenB (l + i + 1) o = B2 at *
  generalize evenB l i = B1 at *
  cases B1
  · go_enter Tryz.func130, Tryz.ntmps130
    go_wp2_with fail
    refine (h1.out _).mono ?_
    rintro e w1 ⟨rfl, rfl⟩
    go_wp2_with fail
    refine (h2.out _).mono ?_
    rintro e w2 ⟨rfl, rfl⟩
    go_wp2_with fail
    refine (h3.out _).mono ?_
    rintro e w3 ⟨rfl, rfl⟩
    go_wp2_with fail
    refine (h4.out _).mono ?_
    rintro e w4 ⟨rfl, rfl⟩
    go_wp2_with fail
    go_ret
    exact ⟨rfl, rfl⟩
  · go_enter Tryz.func130, Tryz.ntmps130
    go_wp2_with fail
    refine (h1.out _).mono ?_
    rintro e w1 ⟨rfl, rfl⟩
    go_wp2_with fail
    refine (h2.out _).mono ?_
    rintro e w2 ⟨rfl, rfl⟩
    go_wp2_with fail
    refine (h3.out _).mono ?_
    rintro e w3 ⟨rfl, rfl⟩
    go_wp2_with fail
    refine (h4.out _).mono ?_
    rintro e w4 ⟨rfl, rfl⟩
    go_wp2_with fail
    refine (H5.out _).mono ?_
    rintro e w5 ⟨rfl, rfl⟩
    go_wp2_with fail
    go_ret
    exact ⟨rfl, rfl⟩

/-! ### Nodes -/
theorem node_cells {W : World} {b : Nat} {kv xv lv rv : Value} {n : Int} (h : W.heap[b]? = some (.cells #[kv, xv, lv, rv, .int .i64 n] 129 (0, 0))) :
    W.cell? ⟨b, 0, none⟩ = some kv ∧ W.cell? ⟨b, 1, none⟩ = some xv ∧ W.cell? ⟨b, 2, none⟩ = some lv ∧ W.cell? ⟨b, 3, none⟩ = some rv ∧ W.cell? ⟨b, 4, none⟩ = some (.int .i64 n) :=
  ⟨cell_of_row W b 0 _ _ _ h, cell_of_row W b 1 _ _ _ h, cell_of_row W b 2 _ _ _ h, cell_of_row W b 3 _ _ _ h, cell_of_row W b 4 _ _ _ h⟩

theorem tsize_any {S : Nat → Prop} (T : PT) (v : Value) (w : World) (h : TIn S w v T) : Calls Tryz.prog 49 #[v] w fun e w' => e = .returned (.int .i64 (T.size : Int)) ∧ w = w' := by
  cases T with
  | nil =>
    obtain rfl : v = .pointer none := h
    go_enter Tryz.func49, Tryz.ntmps49
    go_wp2
    go_ret
    exact ⟨rfl, rfl⟩
  | node l k x r =>
    obtain ⟨b, kv, xv, lv, rv, rfl, _, hh, _⟩ := h
    obtain ⟨_, _, _, _, c4⟩ := node_cells hh
    clear hh
    have HS : Hid ((PT.node l k x r).size = l.size + 1 + r.size) := rfl
    rw [HS.out]
    generalize l.size + 1 + r.size = n at *
    go_enter Tryz.func49, Tryz.ntmps49
    go_wp2
    go_ret
    exact ⟨rfl, rfl⟩

theorem left_any {S : Nat → Prop} (T : PT) (v : Value) (w : World) (h : TIn S w v T) : Calls Tryz.prog 84 #[v] w fun e w' => ∃ u, e = .returned u ∧ TIn S w u T.left ∧ w = w' := by
  cases T with
  | nil =>
    obtain rfl : v = .pointer none := h
    go_enter Tryz.func84, Tryz.ntmps84
    go_wp2
    go_ret
    exact ⟨_, rfl, rfl, rfl⟩
  | node l k x r =>
    obtain ⟨b, kv, xv, lv, rv, rfl, _, hh, _, _, hl, _⟩ := h
    obtain ⟨_, _, c2, _, _⟩ := node_cells hh
    have HL := Lib.hid hl
    clear hh hl
    go_enter Tryz.func84, Tryz.ntmps84
    go_wp2
    go_ret
    exact ⟨_, rfl, HL.out, rfl⟩

theorem right_any {S : Nat → Prop} (T : PT) (v : Value) (w : World) (h : TIn S w v T) : Calls Tryz.prog 85 #[v] w fun e w' => ∃ u, e = .returned u ∧ TIn S w u T.right ∧ w = w' := by
  cases T with
  | nil =>
    obtain rfl : v = .pointer none := h
    go_enter Tryz.func85, Tryz.ntmps85
    go_wp2
    go_ret
    exact ⟨_, rfl, rfl, rfl⟩
  | node l k x r =>
    obtain ⟨b, kv, xv, lv, rv, rfl, _, hh, _, _, _, hr⟩ := h
    obtain ⟨_, _, _, c3, _⟩ := node_cells hh
    have HR := Lib.hid hr
    clear hh hr
    go_enter Tryz.func85, Tryz.ntmps85
    go_wp2
    go_ret
    exact ⟨_, rfl, HR.out, rfl⟩

end Go.Proofs.YtphjaebkcimklaaGreatDoor
