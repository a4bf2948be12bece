/- Contracts of what makes or compares bytes: Clone, own, Root, node, Compare. -/
import Derived.Test.YtphjaebkcimklaaGreatDoorTBase
import Derived.Lib.SliceRun
import Derived.Laws.Externs
import Derived.Lib.BytesEntry
set_option linter.unusedVariables false
set_option linter.unusedSimpArgs false
namespace Go.Proofs.YtphjaebkcimklaaGreatDoor
open Go.RowKit

theorem addP (b off i : Nat) : (⟨b, off, none⟩ : Addr).add i = ⟨b, off + i, none⟩ := by unfold Addr.add; split <;> simp_all
theorem info5 : (Tryz.prog.info? 5).map (fun i => (i.zero, i.size, i.bytes)) = some (some (.int .u8 0), 1, 1) := by kernel_rfl
theorem info39 : (Tryz.prog.info? 60).map (·.size) = some 2 := by kernel_rfl
theorem info80 : (Tryz.prog.info? 129).map (·.size) = some 5 := by kernel_rfl
theorem nil27 (w : World) (a : Option Addr) (n c n' c' : Nat) : (binOp .eql 23 (.slice a n c) (.slice none n' c')).run Tryz.prog w = .ok (.bool a.isNone) w := Lib.run_eql_slice_nil w _ _ a n c n' c' Tryz.underlying23

def bvals (l : Bytes) : List Value := l.map fun c => Value.int .u8 (c.toNat : Int)
/-- Blocks made since. -/
abbrev New (n : Nat) : Nat → Prop := fun b => n ≤ b

theorem BIn.owned {w : World} {base : Nat} {v : Value} {l : Bytes} {e : TypeId} {n : Nat} (hn : l.length = n) (h5 : n ≤ 100000) (h : w.ownsRow base e 1 v n (bvals l)) : BIn (New base) w v l := by
  subst hn
  rcases h.2 with ⟨rfl, hn⟩ | ⟨g, cap, cur, rfl, hb, hg, hc, hm, hs, ht⟩
  · exact ⟨none, 0, 0, rfl, ⟨Nat.le_refl _, by omega⟩, ⟨hn, by omega, fun h => by omega⟩, fun b o h => by omega⟩
  · refine ⟨_, _, cap, rfl, ⟨hc, h5⟩, ⟨rfl, by omega, fun hn => ⟨g, 0, rfl, (Array.getElem?_eq_some_iff.1 hg).1, fun j hj => ?_⟩⟩, fun b o _ e => by cases e; exact hb⟩
    rw [Nat.zero_add, h.cellAt j (by omega), bvals, List.getElem?_map, List.getElem?_eq_getElem hj, List.getD_eq_getElem?_getD, List.getElem?_eq_getElem hj]
    rfl

set_option maxHeartbeats 1600000 in
theorem clone_any {S : Nat → Prop} (v : Value) (l : Bytes) (w : World) (h : BIn S w v l) :
    Calls Tryz.prog 41 #[v] w fun e w' => ∃ A n c, e = .returned (.slice A n c) ∧ BIn (New w.heap.size) w' (.slice A n c) l ∧ Below w.heap.size w w' := by
  obtain ⟨A, n, c, rfl, ⟨hc, h5⟩, hR, _⟩ := h
  have q27 := nil27
  obtain ⟨i0, hi, hz0, hz1, hz2⟩ := info_parts info5
  have hlen := hR.len
  cases A with
  | none =>
    have hn : n = 0 := by
      rcases Nat.eq_zero_or_pos n with h | h
      · exact h
      · obtain ⟨b, o, e, _⟩ := hR.cell h; cases e
    subst hn
    clear hR
    go_enter Tryz.func41, Tryz.ntmps41
    go_wp2
    go_ret
    exact ⟨_, _, _, rfl, ⟨none, 0, 0, rfl, ⟨Nat.le_refl _, by omega⟩, ⟨hlen, by omega, fun h => by omega⟩, fun b o h => by omega⟩, Below.refl _ _⟩
  | some a =>
    have HA : Hid (∀ i, i < n → w.cell? (a.add i) = some (.int .u8 ((l.getD i 0).toNat : Int))) := by
      intro i hi
      obtain ⟨b, o, e, _, hcell⟩ := hR.cell (by omega)
      cases e
      rw [addP]
      exact hcell i hi
    clear hR
    go_enter Tryz.func41, Tryz.ntmps41
    go_wp2_with (at_builtin; refine wpList_append_own _ rfl _ _ 23 rfl w.heap.size 5 i0 (.int .u8 0) 1 1 Tryz.underlying23 hi hz0 hz1 hz2 rfl (by decide) _ _ _ rfl (World.ownsRow_made w #[] 0 (Nat.le_refl _) (Nat.zero_le _) rfl) a n c (bvals l) rfl ?qc1 ?qc2 ?qc3 ?qc4 ?qc5 ?qc6 ?_)
    case qc1 => simp [bvals]; omega
    case qc2 =>
      intro j u hj
      have hjn : j < n := by
        have := (List.getElem?_eq_some_iff.1 hj).1
        simp [bvals] at this
        omega
      refine Lib.cell?_alloc_some _ ?_
      rw [HA.out j hjn]
      have e : (bvals l)[j]? = some (Value.int .u8 ((l.getD j 0).toNat : Int)) := by simp [bvals, List.getD, List.getElem?_eq_getElem (show j < l.length by omega)]
      rw [e] at hj
      exact hj
    case qc3 => intro u hu; obtain ⟨x, _, rfl⟩ := List.mem_map.1 hu; rfl
    case qc4 => unfold maxLen; omega
    case qc5 => omega
    case qc6 => simp
    intro v' w1 hown hgrow hnil
    have hb : Below w.heap.size w w1 := ((Below.refl _ w).alloc (Nat.le_refl _) _).grown hgrow (by simp) (by intro k hk; simp [Value.ownBlock] at hk; omega)
    have hB : BIn (New w.heap.size) w1 v' l := BIn.owned hlen h5 (by simpa using hown)
    have HB := Lib.hid hb
    have HI := Lib.hid hB
    clear hown hgrow hnil hb hB
    go_wp2
    go_ret
    obtain ⟨A', n', c', rfl, h'⟩ := HI.out
    exact ⟨A', n', c', rfl, HI.out, HB.out⟩

/-! ### Comparing -/
theorem run_bytesOf {S : Nat → Prop} (w : World) (v : Value) (l : Bytes) (h : BIn S w v l) : (Extern.Bytes.bytesOf v).run Tryz.prog w = .ok ⟨l.toArray⟩ w := by
  obtain ⟨A, n, c, rfl, _, hR, _⟩ := h
  cases A with
  | none =>
    have hn : l = [] := by
      rcases Nat.eq_zero_or_pos n with h | h
      · exact List.eq_nil_of_length_eq_zero (hR.len.trans h)
      · obtain ⟨b, o, e, _⟩ := hR.cell h; cases e
    subst hn
    rfl
  | some a =>
    have hlen := hR.len
    have hc : ∀ j x, (l.map fun x => (x.toNat : Int))[j]? = some x → w.cell? (a.add j) = some (.int .u8 x) := by
      intro j x hx
      rw [List.getElem?_map] at hx
      obtain ⟨y, hy, rfl⟩ := Option.map_eq_some_iff.1 hx
      have hj : j < l.length := (List.getElem?_eq_some_iff.1 hy).1
      obtain ⟨b, o, e, _, hcell⟩ := hR.cell (by omega)
      cases e
      rw [addP, hcell j (by omega), List.getD_eq_getElem?_getD, hy]
      rfl
    have h2 := Lib.run_loadBytesX (P := Tryz.prog) w _ a .empty hc
    rw [List.length_map, hlen] at h2
    have hb : Lib.bytesOf (l.map fun x => (x.toNat : Int)) = l := by
      unfold Lib.bytesOf
      rw [List.map_map]
      conv => rhs; rw [← List.map_id l]
      apply List.map_congr_left
      intro x _
      simp
    rw [hb] at h2
    simp only [Extern.Bytes.bytesOf]
    rw [h2]
    congr 1
    congr 1
    show (#[] : Array UInt8) ++ l.toArray = l.toArray
    simp

theorem run_compare {S S' : Nat → Prop} (w : World) (v u : Value) (a b : Bytes) (h : BIn S w v a) (h' : BIn S' w u b) :
    (Extern.BytealgCompare.compare #[v, u]).run Tryz.prog w = .ok (.int .i64 (Lib.compareBytes a b)) w := by
  change Sem.run Tryz.prog (do pure (goInt (Extern.BytealgCompare.cmp (← Extern.Bytes.bytesOf v) (← Extern.Bytes.bytesOf u)))) w = _
  simp only [Sem.run_bind, run_bytesOf w v a h, run_bytesOf w u b h', Sem.run_pure, Result.andThen]
  rw [Lib.cmp_eq]
  rfl

set_option maxRecDepth 100000 in
theorem bcompare_any {S S' : Nat → Prop} (v u : Value) (a b : Bytes) (w : World) (h : BIn S w v a) (h' : BIn S' w u b) :
    Calls Tryz.prog 87 #[v, u] w fun e w' => e = .returned (.int .i64 (Lib.compareBytes a b)) ∧ w = w' := by
  have HC := Lib.hid (run_compare w v u a b h h')
  obtain ⟨A, n, c, rfl, _⟩ := h
  obtain ⟨B, m, d, rfl, _⟩ := h'
  go_enter Tryz.func87, Tryz.ntmps87
  go_wp2
  rw [run_callFunc_extern Tryz.func100 (by kernel_rfl) (by kernel_rfl) (by kernel_rfl) (e := Extern.BytealgCompare.compare) (by kernel_rfl), HC.out]
  simp only [Result.andThen]
  rw [Oper.upon_value]
  go_wp2
  go_ret
  exact ⟨rfl, rfl⟩

theorem compare_any {S S' : Nat → Prop} (v u : Value) (a b : Bytes) (w : World) (h : BIn S w v a) (h' : BIn S' w u b) :
    Calls Tryz.prog 71 #[v, u] w fun e w' => e = .returned (.int .i64 (Lib.compareBytes a b)) ∧ w = w' := by
  have HC := Lib.hid (bcompare_any v u a b w h h')
  obtain ⟨A, n, c, rfl, _⟩ := h
  obtain ⟨B, m, d, rfl, _⟩ := h'
  go_enter Tryz.func71, Tryz.ntmps71
  go_wp2_with fail
  refine HC.out.mono ?_
  rintro e w1 ⟨rfl, rfl⟩
  go_wp2_with fail
  go_ret
  exact ⟨rfl, rfl⟩

end Go.Proofs.YtphjaebkcimklaaGreatDoor
