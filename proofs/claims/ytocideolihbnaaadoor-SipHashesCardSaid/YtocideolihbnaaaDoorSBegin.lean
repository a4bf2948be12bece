/- Where a seed begins: the program's Begin, the reference's Begin and low. -/
import Derived.Test.YtocideolihbnaaaDoorRTake
set_option linter.unusedVariables false
set_option linter.unusedSimpArgs false
namespace Go.Proofs.YtocideolihbnaaaDoor
open Go.RowKit

/-- The bytes as the cells of an array. -/
def rowOf (l : List UInt8) : Array Value := (l.map fun c => Value.int .u8 (c.toNat : Int)).toArray
theorem rowOf_size (l : List UInt8) : (rowOf l).size = l.length := by simp [rowOf]
theorem rowOf_one (l : List UInt8) : (rowOf l).all (·.oneCell') = true := by
  simp [rowOf, Value.oneCell']
theorem rowOf_at (l : List UInt8) (j : Nat) (h : j < l.length) : (rowOf l)[j]? = some (.int .u8 ((l.getD j 0).toNat : Int)) := by
  simp [rowOf, List.getElem?_map, List.getElem?_eq_getElem h, List.getD_eq_getElem?_getD]

/-- The table that a seed is laid over, where the program holds it. -/
def TabOK (w : World) : Prop := 0 < w.heap.size ∧ w.cell? ⟨0, 0, none⟩ = some (.int .u64 8317987319222330741) ∧ w.cell? ⟨0, 1, none⟩ = some (.int .u64 7237128888997146477) ∧ w.cell? ⟨0, 2, none⟩ = some (.int .u64 7816392313619706465) ∧ w.cell? ⟨0, 3, none⟩ = some (.int .u64 8387220255154660723)
theorem TabOK.below {w w1 : World} (h : TabOK w) (hb : Below w.heap.size w w1) : TabOK w1 :=
  ⟨Nat.lt_of_lt_of_le h.1 hb.size, (hb.cell h.1).trans h.2.1, (hb.cell h.1).trans h.2.2.1, (hb.cell h.1).trans h.2.2.2.1, (hb.cell h.1).trans h.2.2.2.2⟩

theorem rd_row {w : World} {b : Nat} {t : TypeId} {fr : Nat × Nat} (l : List UInt8) (o n : Nat) (hw : w.heap[b]? = some (.cells (rowOf l) t fr)) (hn : o + n ≤ l.length) (hs : n ≤ 9223372036854775807) : RdB w (some ⟨b, o, none⟩) n ((l.drop o).take n) := by
  refine ⟨by rw [List.length_take, List.length_drop]; omega, hs, fun _ => ⟨b, o, rfl, (Array.getElem?_eq_some_iff.1 hw).1, fun j hj => ?_⟩⟩
  rw [cell_of_row w b (o + j) _ _ _ hw, rowOf_at l _ (by omega)]
  simp only [List.getD_eq_getElem?_getD, List.getElem?_take, hj, if_true, List.getElem?_drop]

def beginN (l : List UInt8) : St :=
  ⟨8317987319222330741 ^^^ lowv (l.take 8), 7237128888997146477 ^^^ lowv ((l.drop 8).take 8), 7816392313619706465 ^^^ lowv (l.take 8), 8387220255154660723 ^^^ lowv ((l.drop 8).take 8)⟩
theorem lowv_take8 (l : List UInt8) : lowv (l.take 8) < 18446744073709551616 := by
  have h := lowv_lt (l.take 8)
  have h2 : (l.take 8).length ≤ 8 := by rw [List.length_take]; omega
  have h3 : 256 ^ (l.take 8).length ≤ 256 ^ 8 := Nat.pow_le_pow_right (by omega) h2
  have h4 : (256 : Nat) ^ 8 = 18446744073709551616 := by decide
  omega
theorem beginN_ok (l : List UInt8) : (beginN l).ok :=
  ⟨xorN_lt (by omega) (lowv_take8 _), xorN_lt (by omega) (lowv_take8 _), xorN_lt (by omega) (lowv_take8 _), xorN_lt (by omega) (lowv_take8 _)⟩

def bgP (l : List UInt8) : Nat → St
  | 0 => ⟨0, 0, 0, 0⟩
  | 1 => ⟨8317987319222330741 ^^^ lowv (l.take 8), 0, 0, 0⟩
  | 2 => ⟨8317987319222330741 ^^^ lowv (l.take 8), 7237128888997146477 ^^^ lowv ((l.drop 8).take 8), 0, 0⟩
  | 3 => ⟨8317987319222330741 ^^^ lowv (l.take 8), 7237128888997146477 ^^^ lowv ((l.drop 8).take 8), 7816392313619706465 ^^^ lowv (l.take 8), 0⟩
  | _ => ⟨8317987319222330741 ^^^ lowv (l.take 8), 7237128888997146477 ^^^ lowv ((l.drop 8).take 8), 7816392313619706465 ^^^ lowv (l.take 8), 8387220255154660723 ^^^ lowv ((l.drop 8).take 8)⟩
/-- So many places of the state are laid. -/
structure Begun (w W : World) (l : List UInt8) (j : Nat) : Prop where
  row : W.heap[w.heap.size]? = some (.cells (rowOf l) 23 (0, 0))
  res : Lies W (w.heap.size + 1) 31 ⟨0, 0, 0, 0⟩
  x : Lies W (w.heap.size + 1 + 1) 31 (bgP l j)
  bel : Below w.heap.size w W
theorem lies_set {W : World} {b : Nat} {t : TypeId} {p q r s : Nat} (i : Nat) (v : Nat) (y : St) (h : Lies W b t ⟨p, q, r, s⟩)
    (hy : (#[.int .u64 (p : Int), .int .u64 (q : Int), .int .u64 (r : Int), .int .u64 (s : Int)] : Array Value).setIfInBounds i (.int .u64 (v : Int)) = #[.int .u64 (y.p : Int), .int .u64 (y.q : Int), .int .u64 (y.r : Int), .int .u64 (y.s : Int)]) :
    Lies (W.setCell ⟨b, i, none⟩ (.int .u64 (v : Int))) b t y := by
  rw [setCell_eq_setRow W b i _ _ _ _ h, hy]
  exact setRow_heap W b _ _ t _ h
theorem Begun.set {w W : World} {l : List UInt8} {j : Nat} (h : Begun w W l j) (i v : Nat) (j' : Nat) (hx : Lies (W.setCell ⟨w.heap.size + 1 + 1, i, none⟩ (.int .u64 (v : Int))) (w.heap.size + 1 + 1) 31 (bgP l j')) :
    Begun w (W.setCell ⟨w.heap.size + 1 + 1, i, none⟩ (.int .u64 (v : Int))) l j' :=
  ⟨(heap_setCell_other W _ _ _ (by simp only; omega)).trans h.row, (heap_setCell_other W _ _ _ (by simp)).trans h.res, hx, h.bel.setCell (by simp only; omega) _⟩
theorem Begun.step0 {w W : World} {l : List UInt8} (h : Begun w W l 0) : Begun w (W.setCell ⟨w.heap.size + 1 + 1, 0, none⟩ (.int .u64 ((8317987319222330741 ^^^ lowv (l.take 8) : Nat) : Int))) l 1 := h.set _ _ _ (lies_set 0 _ (bgP l 1) h.x rfl)
theorem Begun.step1 {w W : World} {l : List UInt8} (h : Begun w W l 1) : Begun w (W.setCell ⟨w.heap.size + 1 + 1, 1, none⟩ (.int .u64 ((7237128888997146477 ^^^ lowv ((l.drop 8).take 8) : Nat) : Int))) l 2 := h.set _ _ _ (lies_set 1 _ (bgP l 2) h.x rfl)
theorem Begun.step2 {w W : World} {l : List UInt8} (h : Begun w W l 2) : Begun w (W.setCell ⟨w.heap.size + 1 + 1, 2, none⟩ (.int .u64 ((7816392313619706465 ^^^ lowv (l.take 8) : Nat) : Int))) l 3 := h.set _ _ _ (lies_set 2 _ (bgP l 3) h.x rfl)
theorem Begun.step3 {w W : World} {l : List UInt8} (h : Begun w W l 3) : Begun w (W.setCell ⟨w.heap.size + 1 + 1, 3, none⟩ (.int .u64 ((8387220255154660723 ^^^ lowv ((l.drop 8).take 8) : Nat) : Int))) l 4 := h.set _ _ _ (lies_set 3 _ (bgP l 4) h.x rfl)
theorem Begun.tab {w W : World} {l : List UInt8} {j : Nat} (h : Begun w W l j) (hT : TabOK w) : W.cell? ⟨0, 0, none⟩ = some (.int .u64 8317987319222330741) ∧ W.cell? ⟨0, 1, none⟩ = some (.int .u64 7237128888997146477) ∧ W.cell? ⟨0, 2, none⟩ = some (.int .u64 7816392313619706465) ∧ W.cell? ⟨0, 3, none⟩ = some (.int .u64 8387220255154660723) := (hT.below h.bel).2
theorem Begun.lt {w W : World} {l : List UInt8} {j : Nat} (h : Begun w W l j) : w.heap.size + 1 + 1 < W.heap.size := h.x.lt
theorem Begun.drewN' {w W : World} {l : List UInt8} {j : Nat} {b i : Nat} {v : Value} (h : Begun w (W.setCell ⟨b, i, none⟩ v) l j) (n : Nat) : Begun w ((W.drewN n).setCell ⟨b, i, none⟩ v) l j :=
  ⟨h.row, h.res, h.x, ⟨h.bel.os, h.bel.tape, h.bel.output, h.bel.size, h.bel.block⟩⟩

theorem info23b : (Tryd.prog.info? 23).map (·.size) = some 16 := by kernel_rfl

set_option maxHeartbeats 1600000 in
theorem begin_any (l : List UInt8) (hl : l.length = 16) (w : World) (hT : TabOK w) :
    Calls Tryd.prog 13 #[.agg (rowOf l)] w fun e w' => e = .returned (beginN l).v ∧ Below w.heap.size w w' := by
  go_enter Tryd.func13, Tryd.ntmps13
  go_wp2_with fail
  have hX := ((((Below.refl _ w).alloc (Nat.le_refl _) (.cells (rowOf l) 23)).alloc (by simp) (.cells #[.int .u64 0, .int .u64 0, .int .u64 0, .int .u64 0] 31)).alloc (by simp; omega) (.cells #[.int .u64 0, .int .u64 0, .int .u64 0, .int .u64 0] 31))
  have hA := heap_old (.cells #[.int .u64 0, .int .u64 0, .int .u64 0, .int .u64 0] 31) (heap_old (.cells #[.int .u64 0, .int .u64 0, .int .u64 0, .int .u64 0] 31) (heap_new w (.cells (rowOf l) 23)))
  have hZ1 := heap_old (.cells #[.int .u64 0, .int .u64 0, .int .u64 0, .int .u64 0] 31) (heap_new (w.alloc (.cells (rowOf l) 23)) (.cells #[.int .u64 0, .int .u64 0, .int .u64 0, .int .u64 0] 31))
  have hZ2 := heap_new ((w.alloc (.cells (rowOf l) 23)).alloc (.cells #[.int .u64 0, .int .u64 0, .int .u64 0, .int .u64 0] 31)) (.cells #[.int .u64 0, .int .u64 0, .int .u64 0, .int .u64 0] 31)
  generalize hWX : (((w.alloc (.cells (rowOf l) 23)).alloc (.cells #[.int .u64 0, .int .u64 0, .int .u64 0, .int .u64 0] 31)).alloc (.cells #[.int .u64 0, .int .u64 0, .int .u64 0, .int .u64 0] 31)) = X at *
  simp only [World.size_alloc] at hZ1 hZ2
  have HB0 : Hid (Begun w X l 0) := ⟨hA, hZ1, hZ2, hX⟩
  have HT := Lib.hid hT
  clear hA hZ1 hZ2 hX hWX hT
  have al23 : Tryd.prog.arrayLen 23 = 16 := by kernel_rfl
  have w8 : IntKind.i64.wrap 8 = 8 := by rfl
  have w16 : IntKind.i64.wrap 16 = 16 := by rfl
  go_wp2_with fail
  go_loopw [6] (fun v wr => ∃ j : Nat, j ≤ 4 ∧ v = .int .i64 j ∧ Begun w wr l j) (fun v _ => 4 - (intOf v).toNat)
  case atStart => exact ⟨0, by omega, rfl, HB0.out⟩
  case round =>
    obtain ⟨j, hj, rfl, hb⟩ := hrel
    obtain ⟨q0, q1, q2, q3⟩ := hb.tab HT.out
    have HB := Lib.hid hb
    have hw := hb.lt
    clear hb HB0
    rcases (show j = 0 ∨ j = 1 ∨ j = 2 ∨ j = 3 ∨ j = 4 by omega) with rfl | rfl | rfl | rfl | rfl
    · have hL := fun n => low_any (some ⟨w.heap.size, 0, none⟩) 8 16 _ (wr.drewN n) (rd_row l 0 8 (show (wr.drewN n).heap[w.heap.size]? = _ from HB.out.row) (by omega) (by omega))
      have ht : ((l.drop 0).take 8).take 8 = (l.take 8) := by rw [List.take_take]; simp
      rw [ht] at hL
      have HL := Lib.hid hL
      have hx := u64_xor_nat 8317987319222330741 (lowv (l.take 8)) (by omega) (lowv_take8 _)
      have HN := Lib.hid (HB.out.step0)
      generalize 8317987319222330741 ^^^ lowv (l.take 8) = z at *
      generalize lowv (l.take 8) = y at *
      obtain ⟨c0, c1, c2, c3⟩ := Lies.cells HB.out.x
      have f0 := frozen_of_row _ _ 0 _ _ HB.out.x
      clear ht hL
      rw [show ((8317987319222330741 : Nat) : Int) = 8317987319222330741 from rfl] at hx
      go_wp2_with fail
      go_region_held3 (fun w' => w'.cell? ⟨0, 0, none⟩ = some (.int .u64 8317987319222330741)) (first | exact q0 | go_keep) ((go_at_call 19; refine (HL.out 1).mono ?_; rintro e w1 ⟨rfl, rfl⟩))
      go_wp2_with fail
      go_roundw
      case rel => exact ⟨1, by omega, by go_num, HN.out.drewN' 1⟩
      case measure => simp [intOf]
    · have hL := fun n => low_any (some ⟨w.heap.size, 8, none⟩) 8 8 _ (wr.drewN n) (rd_row l 8 8 (show (wr.drewN n).heap[w.heap.size]? = _ from HB.out.row) (by omega) (by omega))
      have ht : ((l.drop 8).take 8).take 8 = ((l.drop 8).take 8) := by rw [List.take_take]; simp
      rw [ht] at hL
      have HL := Lib.hid hL
      have hx := u64_xor_nat 7237128888997146477 (lowv ((l.drop 8).take 8)) (by omega) (lowv_take8 _)
      have HN := Lib.hid (HB.out.step1)
      generalize 7237128888997146477 ^^^ lowv ((l.drop 8).take 8) = z at *
      generalize lowv ((l.drop 8).take 8) = y at *
      obtain ⟨c0, c1, c2, c3⟩ := Lies.cells HB.out.x
      have f0 := frozen_of_row _ _ 1 _ _ HB.out.x
      clear ht hL
      rw [show ((7237128888997146477 : Nat) : Int) = 7237128888997146477 from rfl] at hx
      go_wp2_with fail
      go_region_held3 (fun w' => w'.cell? ⟨0, 1, none⟩ = some (.int .u64 7237128888997146477)) (first | exact q1 | go_keep) ((go_at_call 19; refine (HL.out 1).mono ?_; rintro e w1 ⟨rfl, rfl⟩))
      go_wp2_with fail
      go_roundw
      case rel => exact ⟨2, by omega, by go_num, HN.out.drewN' 1⟩
      case measure => simp [intOf]
    · have hL := fun n => low_any (some ⟨w.heap.size, 0, none⟩) 8 16 _ (wr.drewN n) (rd_row l 0 8 (show (wr.drewN n).heap[w.heap.size]? = _ from HB.out.row) (by omega) (by omega))
      have ht : ((l.drop 0).take 8).take 8 = (l.take 8) := by rw [List.take_take]; simp
      rw [ht] at hL
      have HL := Lib.hid hL
      have hx := u64_xor_nat 7816392313619706465 (lowv (l.take 8)) (by omega) (lowv_take8 _)
      have HN := Lib.hid (HB.out.step2)
      generalize 7816392313619706465 ^^^ lowv (l.take 8) = z at *
      generalize lowv (l.take 8) = y at *
      obtain ⟨c0, c1, c2, c3⟩ := Lies.cells HB.out.x
      have f0 := frozen_of_row _ _ 2 _ _ HB.out.x
      clear ht hL
      rw [show ((7816392313619706465 : Nat) : Int) = 7816392313619706465 from rfl] at hx
      go_wp2_with fail
      go_region_held3 (fun w' => w'.cell? ⟨0, 2, none⟩ = some (.int .u64 7816392313619706465)) (first | exact q2 | go_keep) ((go_at_call 19; refine (HL.out 1).mono ?_; rintro e w1 ⟨rfl, rfl⟩))
      go_wp2_with fail
      go_roundw
      case rel => exact ⟨3, by omega, by go_num, HN.out.drewN' 1⟩
      case measure => simp [intOf]
    · have hL := fun n => low_any (some ⟨w.heap.size, 8, none⟩) 8 8 _ (wr.drewN n) (rd_row l 8 8 (show (wr.drewN n).heap[w.heap.size]? = _ from HB.out.row) (by omega) (by omega))
      have ht : ((l.drop 8).take 8).take 8 = ((l.drop 8).take 8) := by rw [List.take_take]; simp
      rw [ht] at hL
      have HL := Lib.hid hL
      have hx := u64_xor_nat 8387220255154660723 (lowv ((l.drop 8).take 8)) (by omega) (lowv_take8 _)
      have HN := Lib.hid (HB.out.step3)
      generalize 8387220255154660723 ^^^ lowv ((l.drop 8).take 8) = z at *
      generalize lowv ((l.drop 8).take 8) = y at *
      obtain ⟨c0, c1, c2, c3⟩ := Lies.cells HB.out.x
      have f0 := frozen_of_row _ _ 3 _ _ HB.out.x
      clear ht hL
      rw [show ((8387220255154660723 : Nat) : Int) = 8387220255154660723 from rfl] at hx
      go_wp2_with fail
      go_region_held3 (fun w' => w'.cell? ⟨0, 3, none⟩ = some (.int .u64 8387220255154660723)) (first | exact q3 | go_keep) ((go_at_call 19; refine (HL.out 1).mono ?_; rintro e w1 ⟨rfl, rfl⟩))
      go_wp2_with fail
      go_roundw
      case rel => exact ⟨4, by omega, by go_num, HN.out.drewN' 1⟩
      case measure => simp [intOf]
    · obtain ⟨c0, c1, c2, c3⟩ := Lies.cells HB.out.x
      obtain ⟨z0, z1, z2, z3⟩ := Lies.cells HB.out.res
      have f0 := frozen_of_row _ _ 0 _ _ HB.out.res
      have f1 := frozen_of_row _ _ 1 _ _ HB.out.res
      have f2 := frozen_of_row _ _ 2 _ _ HB.out.res
      have f3 := frozen_of_row _ _ 3 _ _ HB.out.res
      have hfin := set4 (a := .int .u64 ((8317987319222330741 ^^^ lowv (l.take 8) : Nat) : Int)) (c := .int .u64 ((7237128888997146477 ^^^ lowv ((l.drop 8).take 8) : Nat) : Int)) (d := .int .u64 ((7816392313619706465 ^^^ lowv (l.take 8) : Nat) : Int)) (e := .int .u64 ((8387220255154660723 ^^^ lowv ((l.drop 8).take 8) : Nat) : Int)) HB.out.res
      have HF := Lib.hid hfin
      clear hfin q0 q1 q2 q3
      have HV : Hid ((beginN l).v = .agg #[.int .u64 ((8317987319222330741 ^^^ lowv (l.take 8) : Nat) : Int), .int .u64 ((7237128888997146477 ^^^ lowv ((l.drop 8).take 8) : Nat) : Int), .int .u64 ((7816392313619706465 ^^^ lowv (l.take 8) : Nat) : Int), .int .u64 ((8387220255154660723 ^^^ lowv ((l.drop 8).take 8) : Nat) : Int)]) := rfl
      generalize 8317987319222330741 ^^^ lowv (l.take 8) = x0 at *
      generalize 7237128888997146477 ^^^ lowv ((l.drop 8).take 8) = x1 at *
      generalize 7816392313619706465 ^^^ lowv (l.take 8) = x2 at *
      generalize 8387220255154660723 ^^^ lowv ((l.drop 8).take 8) = x3 at *
      go_wp2_with fail
      exact bodyPost_ret (results_cell_row rfl _ _ (w.heap.size + 1) 31 _ (0, 0) _ (by rfl) HF.out Tryd.underlying31 rfl info31) rfl ⟨by rw [HV.out], (((HB.out.bel.setCell (p := ⟨w.heap.size + 1, 0, none⟩) (by simp) _).setCell (p := ⟨w.heap.size + 1, 1, none⟩) (by simp) _).setCell (p := ⟨w.heap.size + 1, 2, none⟩) (by simp) _).setCell (p := ⟨w.heap.size + 1, 3, none⟩) (by simp) _⟩

end Go.Proofs.YtocideolihbnaaaDoor
