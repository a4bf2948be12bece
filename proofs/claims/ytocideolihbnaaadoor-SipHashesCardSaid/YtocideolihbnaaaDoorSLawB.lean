/- The laws SipSteps and SipHashes, as walks. -/
import Derived.Test.YtocideolihbnaaaDoorSLawA
set_option linter.unusedVariables false
set_option linter.unusedSimpArgs false
namespace Go.Proofs.YtocideolihbnaaaDoor
open Go.RowKit
attribute [local go_sem ↓] Go.wp_at_zero Go.wp_at_succ

/-- A seed lies in a block. -/
def SeedAt (W : World) (b : Nat) (s : List UInt8) : Prop := W.heap[b]? = some (.cells (rowOf s) 23 (0, 0))
theorem SeedAt.below {W W' : World} {b : Nat} {s : List UInt8} {n : Nat} (h : SeedAt W b s) (hb : Below n W W') (hn : b < n) : SeedAt W' b s := (hb.block b hn).trans h
theorem SeedAt.lt {W : World} {b : Nat} {s : List UInt8} (h : SeedAt W b s) : b < W.heap.size := (Array.getElem?_eq_some_iff.1 h).1
/-- The law's world: the seed's box, the state's box, the table. -/
structure Sc (w W : World) (s : List UInt8) (x : St) : Prop where
  seed : SeedAt W w.heap.size s
  st : Lies W (w.heap.size + 1) 31 x
  tab : TabOK W
  bel : Below w.heap.size w W
theorem Sc.below {w W W' : World} {s : List UInt8} {x : St} (h : Sc w W s x) (hb : Below W.heap.size W W') : Sc w W' s x :=
  ⟨h.seed.below hb h.seed.lt, h.st.below hb h.st.lt, h.tab.below hb, h.bel.trans (hb.mono h.bel.size)⟩
theorem Sc.drew {w W : World} {s : List UInt8} {x : St} (h : Sc w W s x) : Sc w W.drew s x := ⟨h.seed, h.st, h.tab, ⟨h.bel.os, h.bel.tape, h.bel.output, h.bel.size, h.bel.block⟩⟩

/-! ### Sixteen bytes by name -/
theorem sixteen {α : Type} (l : List α) (h : l.length = 16) : ∃ a0 a1 a2 a3 a4 a5 a6 a7 a8 a9 a10 a11 a12 a13 a14 a15, l = [a0, a1, a2, a3, a4, a5, a6, a7, a8, a9, a10, a11, a12, a13, a14, a15] := by
  match l, h with
  | [a0, a1, a2, a3, a4, a5, a6, a7, a8, a9, a10, a11, a12, a13, a14, a15], _ => exact ⟨_, _, _, _, _, _, _, _, _, _, _, _, _, _, _, _, rfl⟩
theorem row16 (a0 a1 a2 a3 a4 a5 a6 a7 a8 a9 a10 a11 a12 a13 a14 a15 : UInt8) : rowOf [a0, a1, a2, a3, a4, a5, a6, a7, a8, a9, a10, a11, a12, a13, a14, a15] = #[.int .u8 (a0.toNat : Int), .int .u8 (a1.toNat : Int), .int .u8 (a2.toNat : Int), .int .u8 (a3.toNat : Int), .int .u8 (a4.toNat : Int), .int .u8 (a5.toNat : Int), .int .u8 (a6.toNat : Int), .int .u8 (a7.toNat : Int), .int .u8 (a8.toNat : Int), .int .u8 (a9.toNat : Int), .int .u8 (a10.toNat : Int), .int .u8 (a11.toNat : Int), .int .u8 (a12.toNat : Int), .int .u8 (a13.toNat : Int), .int .u8 (a14.toNat : Int), .int .u8 (a15.toNat : Int)] := rfl
/-- Sixteen cells of a block. -/
theorem cells16 {W : World} {b : Nat} {t : TypeId} {fr : Nat × Nat} {x0 x1 x2 x3 x4 x5 x6 x7 x8 x9 x10 x11 x12 x13 x14 x15 : Value} (h : W.heap[b]? = some (.cells #[x0, x1, x2, x3, x4, x5, x6, x7, x8, x9, x10, x11, x12, x13, x14, x15] t fr)) :
    W.cell? ⟨b, 0, none⟩ = some x0 ∧ W.cell? ⟨b, 1, none⟩ = some x1 ∧ W.cell? ⟨b, 2, none⟩ = some x2 ∧ W.cell? ⟨b, 3, none⟩ = some x3 ∧ W.cell? ⟨b, 4, none⟩ = some x4 ∧ W.cell? ⟨b, 5, none⟩ = some x5 ∧ W.cell? ⟨b, 6, none⟩ = some x6 ∧ W.cell? ⟨b, 7, none⟩ = some x7 ∧ W.cell? ⟨b, 8, none⟩ = some x8 ∧ W.cell? ⟨b, 9, none⟩ = some x9 ∧ W.cell? ⟨b, 10, none⟩ = some x10 ∧ W.cell? ⟨b, 11, none⟩ = some x11 ∧ W.cell? ⟨b, 12, none⟩ = some x12 ∧ W.cell? ⟨b, 13, none⟩ = some x13 ∧ W.cell? ⟨b, 14, none⟩ = some x14 ∧ W.cell? ⟨b, 15, none⟩ = some x15 :=
  ⟨cell_of_row W b 0 _ _ _ h, cell_of_row W b 1 _ _ _ h, cell_of_row W b 2 _ _ _ h, cell_of_row W b 3 _ _ _ h, cell_of_row W b 4 _ _ _ h, cell_of_row W b 5 _ _ _ h, cell_of_row W b 6 _ _ _ h, cell_of_row W b 7 _ _ _ h, cell_of_row W b 8 _ _ _ h, cell_of_row W b 9 _ _ _ h, cell_of_row W b 10 _ _ _ h, cell_of_row W b 11 _ _ _ h, cell_of_row W b 12 _ _ _ h, cell_of_row W b 13 _ _ _ h, cell_of_row W b 14 _ _ _ h, cell_of_row W b 15 _ _ _ h⟩

set_option maxHeartbeats 6400000 in
theorem sipSteps_any (s : List UInt8) (hs : s.length = 16) (x : St) (m : Nat) (w : World) (h : x.ok) (hm : m < 18446744073709551616) (hT : TabOK w) :
    Calls Tryd.prog 5 #[.agg (rowOf s), x.v, .int .u64 (m : Int)] w fun e w' => e = .returned (.bool true) ∧ Below w.heap.size w w' := by
  have B1 := Lib.hid (fun w h => begin_any s hs w h)
  have B2 := Lib.hid (fun w => refBegin_any s hs w)
  have T1 := Lib.hid (fun w => take_any x m w h hm)
  have T2 := Lib.hid (fun w => refTake_any x m w h hm)
  have E1 := Lib.hid (fun w => end_any x w h)
  have E2 := Lib.hid (fun w => refEnd_any x w h)
  have Q1 := fun w => eqSt_v (beginN s) (beginN s) w
  have Q2 := fun w => eqSt_v (takeN x m) (takeN x m) w
  simp only [decide_true] at Q1 Q2
  generalize takeN x m = t at *
  generalize endN x = en at *
  generalize beginN s = bg at *
  have hsc : Sc w ((w.alloc (.cells (rowOf s) 23)).alloc (.cells #[.int .u64 (x.p : Int), .int .u64 (x.q : Int), .int .u64 (x.r : Int), .int .u64 (x.s : Int)] 31)) s x := by
    have hb := ((Below.refl _ w).alloc (Nat.le_refl _) (.cells (rowOf s) 23)).alloc (by simp) (.cells #[.int .u64 (x.p : Int), .int .u64 (x.q : Int), .int .u64 (x.r : Int), .int .u64 (x.s : Int)] 31)
    refine ⟨heap_old _ (heap_new w _), ?_, hT.below hb, hb⟩
    have := heap_new (w.alloc (.cells (rowOf s) 23)) (.cells #[.int .u64 (x.p : Int), .int .u64 (x.q : Int), .int .u64 (x.r : Int), .int .u64 (x.s : Int)] 31)
    rw [World.size_alloc] at this
    exact this
  have HS := Lib.hid hsc
  clear h hT hsc
  obtain ⟨p, q, r, u⟩ := x
  obtain ⟨t1, t2, t3, t4⟩ := t
  obtain ⟨b1, b2, b3, b4⟩ := bg
  obtain ⟨a0, a1, a2, a3, a4, a5, a6, a7, a8, a9, a10, a11, a12, a13, a14, a15, rfl⟩ := sixteen s hs
  have HC := Lib.hid (fun W (h : Sc w W [a0, a1, a2, a3, a4, a5, a6, a7, a8, a9, a10, a11, a12, a13, a14, a15] ⟨p, q, r, u⟩) => (cells16 (show W.heap[w.heap.size]? = some (.cells #[.int .u8 (a0.toNat : Int), .int .u8 (a1.toNat : Int), .int .u8 (a2.toNat : Int), .int .u8 (a3.toNat : Int), .int .u8 (a4.toNat : Int), .int .u8 (a5.toNat : Int), .int .u8 (a6.toNat : Int), .int .u8 (a7.toNat : Int), .int .u8 (a8.toNat : Int), .int .u8 (a9.toNat : Int), .int .u8 (a10.toNat : Int), .int .u8 (a11.toNat : Int), .int .u8 (a12.toNat : Int), .int .u8 (a13.toNat : Int), .int .u8 (a14.toNat : Int), .int .u8 (a15.toNat : Int)] 23 (0, 0)) from h.seed)))
  simp only [St.v, row16] at *
  generalize hx0 : (a0.toNat : Int) = x0 at *
  generalize hx1 : (a1.toNat : Int) = x1 at *
  generalize hx2 : (a2.toNat : Int) = x2 at *
  generalize hx3 : (a3.toNat : Int) = x3 at *
  generalize hx4 : (a4.toNat : Int) = x4 at *
  generalize hx5 : (a5.toNat : Int) = x5 at *
  generalize hx6 : (a6.toNat : Int) = x6 at *
  generalize hx7 : (a7.toNat : Int) = x7 at *
  generalize hx8 : (a8.toNat : Int) = x8 at *
  generalize hx9 : (a9.toNat : Int) = x9 at *
  generalize hx10 : (a10.toNat : Int) = x10 at *
  generalize hx11 : (a11.toNat : Int) = x11 at *
  generalize hx12 : (a12.toNat : Int) = x12 at *
  generalize hx13 : (a13.toNat : Int) = x13 at *
  generalize hx14 : (a14.toNat : Int) = x14 at *
  generalize hx15 : (a15.toNat : Int) = x15 at *
  go_enter Tryd.func5, Tryd.ntmps5
  go_wp2_with fail
  have hC := HC.out _ HS.out
  generalize (w.alloc (.cells #[.int .u8 x0, .int .u8 x1, .int .u8 x2, .int .u8 x3, .int .u8 x4, .int .u8 x5, .int .u8 x6, .int .u8 x7, .int .u8 x8, .int .u8 x9, .int .u8 x10, .int .u8 x11, .int .u8 x12, .int .u8 x13, .int .u8 x14, .int .u8 x15] 23)).alloc (.cells #[.int .u64 (p : Int), .int .u64 (q : Int), .int .u64 (r : Int), .int .u64 (u : Int)] 31) = X at *
  go_cut [11] (fun v wx => v = .bool false ∧ Sc w wx [a0, a1, a2, a3, a4, a5, a6, a7, a8, a9, a10, a11, a12, a13, a14, a15] ⟨p, q, r, u⟩)
  case first =>
    go_region_with (first
      | (go_at_call 13; refine (B1.out _ HS.out.drew.tab).mono ?_; rintro e wa ⟨rfl, hb⟩; have HS1 := Lib.hid (HS.out.drew.below hb); clear hb; have hC1 := HC.out _ HS1.out)
      | (go_at_call 14; refine (B2.out _).mono ?_; rintro e wb ⟨rfl, hb⟩; have HS2 := Lib.hid (HS1.out.below hb); clear hb))
    all_goals (go_wp2_with fail)
    all_goals (go_meet; exact ⟨rfl, HS2.out⟩)
  case rest =>
  obtain ⟨rfl, hS⟩ := hcut
  have HS2 := Lib.hid hS
  clear hS hC HS
  go_wp2_with fail
  have hC := HS2.out.st.cells
  go_region_held3 (fun w' => w'.cell? ⟨w.heap.size + 1, 0, none⟩ = some (.int .u64 (p : Int)) ∧ w'.cell? ⟨w.heap.size + 1, 1, none⟩ = some (.int .u64 (q : Int)) ∧ w'.cell? ⟨w.heap.size + 1, 2, none⟩ = some (.int .u64 (r : Int)) ∧ w'.cell? ⟨w.heap.size + 1, 3, none⟩ = some (.int .u64 (u : Int)))
    (first | with_reducible exact HS7.out.st.cells | with_reducible exact HS6.out.st.cells | with_reducible exact HS5.out.st.cells | with_reducible exact HS4.out.st.cells | with_reducible exact HS3.out.st.cells | with_reducible exact HS2.out.st.cells | with_reducible exact HS2.out.drew.st.cells | go_keep)
    (first
      | (go_at_call 15; refine (T1.out _).mono ?_; rintro e wc1 ⟨rfl, hb⟩; have HS3 := Lib.hid (HS2.out.drew.below hb); clear hb)
      | (go_at_call 16; refine (T2.out _).mono ?_; rintro e wd ⟨rfl, hb⟩; have HS4 := Lib.hid (HS3.out.below hb); clear hb)
      | (go_at_call 17; refine (E1.out _).mono ?_; rintro e we ⟨rfl, hb⟩; have HS5 := Lib.hid (HS4.out.below hb); clear hb)
      | (go_at_call 18; refine (E2.out _).mono ?_; rintro e wf ⟨rfl, hb⟩; have HS6 := Lib.hid (HS5.out.below hb); clear hb)
      | (go_at_call 8; refine (awake_any _ HS6.out.tab).mono ?_; rintro e wg ⟨rfl, hb⟩; have HS7 := Lib.hid (HS6.out.below hb); clear hb))
  go_wp2_with fail
  go_ret
  exact ⟨rfl, HS7.out.bel⟩

end Go.Proofs.YtocideolihbnaaaDoor
