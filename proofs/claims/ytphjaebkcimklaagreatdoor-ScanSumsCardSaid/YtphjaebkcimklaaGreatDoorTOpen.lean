/- What a law is given: a row of operations; Fine. -/
import Derived.Test.YtphjaebkcimklaaGreatDoorTStep
import Derived.OpenShut
import Derived.Deep.Slices
import Derived.ChangeSlices
set_option linter.unusedVariables false
set_option linter.unusedSimpArgs false
namespace Go.Proofs.YtphjaebkcimklaaGreatDoor
open Go.RowKit Go.ChangeShapes Go.WideShapes Go.Deep

/-- A slice of bytes, of any length. -/
def BRaw (w : World) (v : Value) (l : Bytes) : Prop := ∃ A n c, v = .slice A n c ∧ n ≤ c ∧ c ≤ 9223372036854775807 ∧ RdB w A n l
theorem BRaw.below {w w1 : World} {v : Value} {l : Bytes} (h : BRaw w v l) (hb : Below w.heap.size w w1) : BRaw w1 v l := by
  obtain ⟨A, n, c, e, h1, h2, h3⟩ := h
  exact ⟨A, n, c, e, h1, h2, h3.below hb⟩
theorem BRaw.fine {w : World} {v : Value} {l : Bytes} (h : BRaw w v l) (hl : l.length ≤ 100000) : BIn (fun _ => True) w v l := by
  obtain ⟨A, n, c, e, h1, h2, h3⟩ := h
  exact ⟨A, n, c, e, ⟨h1, by have := h3.len; omega⟩, h3, fun _ _ _ _ => trivial⟩
structure Ops (w : World) (A : Option Addr) (n : Nat) (L : List (Int × Bytes × Bytes)) : Prop where
  len : L.length = n
  le : n ≤ 9223372036854775807
  cell : 0 < n → ∃ b o, A = some ⟨b, o, none⟩ ∧ b < w.heap.size ∧ ∀ j, j < n → ∃ kv xv, w.cell? ⟨b, o + j * 3, none⟩ = some (.int .i64 (L.getD j (0, [], [])).1) ∧ w.cell? ⟨b, o + j * 3 + 1, none⟩ = some kv ∧ w.cell? ⟨b, o + j * 3 + 2, none⟩ = some xv ∧
    BRaw w kv (L.getD j (0, [], [])).2.1 ∧ BRaw w xv (L.getD j (0, [], [])).2.2
theorem Ops.below {w w1 : World} {A : Option Addr} {n : Nat} {L : List (Int × Bytes × Bytes)} (h : Ops w A n L) (hb : Below w.heap.size w w1) : Ops w1 A n L :=
  ⟨h.len, h.le, fun hn => by
    obtain ⟨b, o, e, hlt, hc⟩ := h.cell hn
    refine ⟨b, o, e, Nat.lt_of_lt_of_le hlt hb.size, fun j hj => ?_⟩
    obtain ⟨kv, xv, h1, h2, h3, h4, h5⟩ := hc j hj
    exact ⟨kv, xv, (cell_block (hb.block b hlt)).trans h1, (cell_block (hb.block b hlt)).trans h2, (cell_block (hb.block b hlt)).trans h3, h4.below hb, h5.below hb⟩⟩

section

variable {H : Type} {enc : TypeId × Value → H} {w : World} {base : Nat} {spare : Nat → Bool} {held : Bool}
set_option maxRecDepth 100000 in
theorem open_raw {fuel : Nat} {v : Value} {x : DataW H × List MemPlace} (h : DataW.trod enc Tryz.prog w base spare held fuel 23 [v] = some x) : ∃ l, BRaw w v l := by
  rcases open_ints Tryz.underlying23 Tryz.underlying5 (by kernel_rfl) h with ⟨hcs, _⟩ | ⟨a, len, cap, zs, hcs, _, hl, hm, hz, _, hcell, hwz⟩
  · cases hcs
    exact ⟨[], none, 0, 0, rfl, by omega, by omega, ⟨rfl, by omega, fun h => by omega⟩⟩
  · cases hcs
    unfold maxLen at hm
    have hlz : len ≤ zs.length := by rw [hz]; split <;> omega
    refine ⟨(zs.take len).map fun z => UInt8.ofNat z.toNat, some a, len, cap, rfl, hl, hm, ⟨by rw [List.length_map, List.length_take]; omega, by omega, fun hn => ?_⟩⟩
    obtain ⟨b, o, rfl, hc⟩ := ints_at hcell (by omega)
    refine ⟨b, o, rfl, World.block_lt_of_cell? w _ (hc 0 (by omega)), fun j hj => ?_⟩
    rw [hc j (by omega)]
    have hj2 : j < zs.length := by omega
    have hw := bounds_u8 (hwz (zs.getD j 0) (by rw [List.getD_eq_getElem?_getD, List.getElem?_eq_getElem hj2]; simp))
    simp only [List.getD_eq_getElem?_getD, List.getElem?_map, List.getElem?_take, hj, if_true, List.getElem?_eq_getElem hj2, Option.map_some, Option.getD_some] at hw ⊢
    rw [UInt8.toNat_ofNat_of_lt' (by show zs[j].toNat < 256; omega)]
    congr 2; omega
set_option maxRecDepth 100000 in
theorem open_i64 {fuel : Nat} {v : Value} {x : DataW H × List MemPlace} (h : DataW.trod enc Tryz.prog w base spare held fuel 3 [v] = some x) : ∃ n, v = .int .i64 n := by
  cases fuel with
  | zero => simp [DataW.trod] at h
  | succ f =>
    unfold DataW.trod at h
    rw [Tryz.underlying3] at h
    cases v <;> simp at h
    exact ⟨_, by rw [h.1.1]⟩

theorem cells29 : Tryz.prog.cellsOf 81 = 3 := by kernel_rfl
theorem cells3 : Tryz.prog.cellsOf 3 = 1 := by kernel_rfl
theorem cells27 : Tryz.prog.cellsOf 23 = 1 := by kernel_rfl
instance : Inhabited (Int × Bytes × Bytes) := ⟨(0, [], [])⟩

set_option maxRecDepth 100000 in
theorem open_op {fuel : Nat} {cs : List Value} {x : DataW H × List MemPlace} (h : DataW.trod enc Tryz.prog w base spare held fuel 81 cs = some x) :
    ∃ op kv xv k y, cs = [.int .i64 op, kv, xv] ∧ BRaw w kv k ∧ BRaw w xv y := by
  obtain ⟨xs, n, rfl, _, hlen, hxl, hf⟩ := DataW.trod_struct Tryz.underlying81 h
  rw [cells29] at hlen
  match cs, hlen with
  | [v0, v1, v2], _ =>
    have g0 := hf 0 _ rfl
    have g1 := hf 1 _ rfl
    have g2 := hf 2 _ rfl
    simp [cells3, cells27] at g0 g1 g2
    have hx3 : xs.length = 3 := hxl
    rw [List.getElem?_eq_getElem (by omega)] at g0 g1 g2
    obtain ⟨op, rfl⟩ := open_i64 g0
    obtain ⟨k, hk⟩ := open_raw g1
    obtain ⟨y, hy⟩ := open_raw g2
    exact ⟨op, v1, v2, k, y, rfl, hk, hy⟩

set_option maxRecDepth 100000 in
theorem open_ops {fuel : Nat} {A : Option Addr} {n c : Nat} {x : DataW H × List MemPlace} (h : DataW.trod enc Tryz.prog w base spare held fuel 22 [.slice A n c] = some x) : ∃ L, Ops w A n L := by
  rcases open_slice Tryz.underlying22 h with ⟨hcs, _⟩ | ⟨a, len, cap, m, f, D, Pl, hcs, _, hl, hm, hmm, _, hx⟩
  · cases hcs
    exact ⟨[], rfl, by omega, fun h => by omega⟩
  · cases hcs
    have hnm : n ≤ m := by rw [hmm]; split <;> omega
    unfold maxLen at hm
    have each : ∀ i, i < n → ∃ q : Int × Bytes × Bytes, ∃ kv xv, w.cell? (a.add (i * 3)) = some (.int .i64 q.1) ∧ w.cell? (a.add (i * 3 + 1)) = some kv ∧ w.cell? (a.add (i * 3 + 2)) = some xv ∧ BRaw w kv q.2.1 ∧ BRaw w xv q.2.2 := by
      intro i hi
      obtain ⟨cs', h1, h2⟩ := hx i (by omega)
      rw [cells29] at h1
      obtain ⟨_, hlen, hcell⟩ := World.cells?_some h1
      obtain ⟨op, kv, xv, k, y, rfl, hk, hy⟩ := open_op h2
      have e0 := hcell 0 (by omega)
      have e1 := hcell 1 (by omega)
      have e2 := hcell 2 (by omega)
      rw [add_add] at e0 e1 e2
      exact ⟨(op, k, y), kv, xv, by simpa using e0, by simpa using e1, by simpa using e2, hk, hy⟩
    obtain ⟨q, hq⟩ := choose_lt each
    refine ⟨(List.range n).map q, by simp, by omega, fun hn => ?_⟩
    obtain ⟨_, _, z0, _⟩ := hq 0 hn
    obtain ⟨b, off, spot⟩ := a
    have hspot : spot = none := by simpa [Addr.add] using World.cell?_spot z0
    subst hspot
    refine ⟨b, off, rfl, ?_, fun j hj => ?_⟩
    · have := World.block_lt_of_cell? w _ z0
      simpa [Addr.add] using this
    · obtain ⟨kv, xv, h1, h2, h3, h4, h5⟩ := hq j hj
      have e : ((List.range n).map q).getD j (0, [], []) = q j := by simp [List.getD_eq_getElem?_getD, hj]
      rw [e]
      rw [addP] at h1 h2 h3
      exact ⟨kv, xv, h1, h2, h3, h4, h5⟩

end

/-- What Fine tells of. -/
def FineL (L : List (Int × Bytes × Bytes)) (most : Nat) : Prop := L.length ≤ most ∧ ∀ o ∈ L, o.2.1.length ≤ 100 ∧ o.2.2.length ≤ 100

def FineR (L : List (Int × Bytes × Bytes)) (most : Nat) (w w' : World) (e : Ending) : Prop := ∃ r, e = .returned (.bool r) ∧ (r = true → FineL L most) ∧ Below w.heap.size w w'

set_option maxHeartbeats 6400000 in
theorem fine_any (A : Option Addr) (n c : Nat) (L : List (Int × Bytes × Bytes)) (most : Nat) (w : World) (h : Ops w A n L) (hmost : most ≤ 1000) :
    Calls Tryz.prog 15 #[.slice A n c, .int .i64 (most : Int)] w fun e w' => FineR L most w w' e := by
  have HO := Lib.hid h
  have hle := h.le
  clear h
  by_cases hbig : most < n
  · have hb2 : (most : Int) < (n : Int) := by omega
    go_enter Tryz.func15, Tryz.ntmps15
    go_wp2_with fail
    go_ret
    exact ⟨false, rfl, (fun h => by cases h), Below.refl _ _⟩
  · have hb2 : ¬ (most : Int) < (n : Int) := by omega
    go_enter Tryz.func15, Tryz.ntmps15
    go_wp2_with fail
    go_loopw [13] (fun v wr => ∃ j : Nat, v = .int .i64 (j : Int) ∧ j ≤ n ∧ Hid (∀ i, i < j → (L.getD i (0, [], [])).2.1.length ≤ 100 ∧ (L.getD i (0, [], [])).2.2.length ≤ 100) ∧ Below w.heap.size w wr) (fun v _ => n - (intOf v).toNat)
    case atStart => exact ⟨0, rfl, by omega, Lib.hid (fun i hi => by omega), Below.refl _ _⟩
    case round =>
      obtain ⟨j, rfl, hj, hall, hb⟩ := hrel
      have HB := Lib.hid hb
      clear hb
      by_cases hlt : j < n
      · obtain ⟨b, o, rfl, hbl, hc⟩ := (HO.out.below HB.out).cell (by omega)
        obtain ⟨kv, xv, c0, c1, c2, ⟨Ak, nk, ck, rfl, hk1, hk2, hk3⟩, ⟨Ax, nx, cx, rfl, hx1, hx2, hx3⟩⟩ := hc j hlt
        have HL := Lib.hid (And.intro hk3.len hx3.len)
        have al : (0 : Int) ≤ (j : Int) := by omega
        have al3 : (j : Int) < (n : Int) := by omega
        clear hc hk3 hx3
        generalize (L.getD j (0, [], [])).1 = op at *
        by_cases hbk : 100 < nk
        · have : (100 : Int) < (nk : Int) := by omega
          go_wp2_with fail
          go_ret
          exact ⟨false, rfl, (fun h => by cases h), HB.out.alloc HB.out.size _⟩
        · have hbk2 : ¬ (100 : Int) < (nk : Int) := by omega
          by_cases hbx : 100 < nx
          · have : (100 : Int) < (nx : Int) := by omega
            go_wp2_with fail
            go_ret
            exact ⟨false, rfl, (fun h => by cases h), HB.out.alloc HB.out.size _⟩
          · have hbx2 : ¬ (100 : Int) < (nx : Int) := by omega
            go_wp2_with fail
            go_roundw
            case rel => exact ⟨j + 1, by go_num, by omega, Lib.hid (fun i hi => by
              rcases Nat.lt_succ_iff_lt_or_eq.1 hi with h | rfl
              · exact hall.out i h
              · have := HL.out; omega), HB.out.alloc HB.out.size _⟩
            case measure => simp [intOf]; omega
      · obtain rfl : j = n := by omega
        have hfin : FineL L most := by
          refine ⟨by rw [HO.out.len]; omega, fun x hx => ?_⟩
          obtain ⟨i, hi, rfl⟩ := List.getElem_of_mem hx
          have := hall.out i (by rw [HO.out.len] at hi; exact hi)
          rw [List.getD_eq_getElem?_getD, List.getElem?_eq_getElem hi, Option.getD_some] at this
          exact this
        have HF := Lib.hid hfin
        clear hfin
        go_wp2_with fail
        go_ret
        exact ⟨true, rfl, fun _ => HF.out, HB.out⟩

end Go.Proofs.YtphjaebkcimklaaGreatDoor
