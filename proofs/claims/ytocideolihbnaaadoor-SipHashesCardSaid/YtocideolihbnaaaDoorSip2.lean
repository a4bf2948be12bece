/- Contracts of the hash's steps, on: Take, End. -/
import Derived.Test.YtocideolihbnaaaDoorSip
import Derived.Laws.CopyOwn
set_option linter.unusedVariables false
set_option linter.unusedSimpArgs false
namespace Go.Proofs.YtocideolihbnaaaDoor
open Go.RowKit

theorem one4 (a b c d : Int) : (#[.int .u64 a, .int .u64 b, .int .u64 c, .int .u64 d] : Array Value).all (·.oneCell') = true := by simp [Value.oneCell']
theorem one2 (a b : Int) : (#[.int .u64 a, .int .u64 b] : Array Value).all (·.oneCell') = true := by simp [Value.oneCell']

def takeN (x : St) (m : Nat) : St :=
  let y := roundN (roundN ⟨x.p, x.q, x.r, x.s ^^^ m⟩)
  ⟨y.p ^^^ m, y.q, y.r, y.s⟩
theorem takeN_ok (x : St) (m : Nat) (h : x.ok) (hm : m < 18446744073709551616) : (takeN x m).ok := by
  have h2 := roundN_ok _ (roundN_ok ⟨x.p, x.q, x.r, x.s ^^^ m⟩ ⟨h.1, h.2.1, h.2.2.1, xorN_lt h.2.2.2 hm⟩)
  exact ⟨xorN_lt h2.1 hm, h2.2.1, h2.2.2.1, h2.2.2.2⟩

set_option maxHeartbeats 1600000 in
theorem take_any (x : St) (m : Nat) (w : World) (h : x.ok) (hm : m < 18446744073709551616) :
    Calls Tryd.prog 15 #[x.v, .int .u64 (m : Int)] w fun e w' => e = .returned (takeN x m).v ∧ Below w.heap.size w w' := by
  obtain ⟨p, q, r, s⟩ := x
  have hok1 : (St.mk p q r (s ^^^ m)).ok := ⟨h.1, h.2.1, h.2.2.1, xorN_lt h.2.2.2 hm⟩
  have hok2 := roundN_ok _ hok1
  have R1 := Lib.hid (fun w => round_any ⟨p, q, r, s ^^^ m⟩ w hok1)
  have R2 := Lib.hid (fun w => round_any _ w hok2)
  have hok3 := roundN_ok _ hok2
  have hx1 := u64_xor_nat s m h.2.2.2 hm
  have e : takeN ⟨p, q, r, s⟩ m = ⟨(roundN (roundN ⟨p, q, r, s ^^^ m⟩)).p ^^^ m, (roundN (roundN ⟨p, q, r, s ^^^ m⟩)).q, (roundN (roundN ⟨p, q, r, s ^^^ m⟩)).r, (roundN (roundN ⟨p, q, r, s ^^^ m⟩)).s⟩ := rfl
  rw [e]
  clear e
  generalize s ^^^ m = s1 at *
  generalize roundN (roundN ⟨p, q, r, s1⟩) = y at *
  obtain ⟨y1, y2, y3, y4⟩ := y
  have hx2 := u64_xor_nat y1 m hok3.1 hm
  dsimp only
  generalize y1 ^^^ m = y5 at *
  generalize roundN ⟨p, q, r, s1⟩ = z at *
  obtain ⟨z1, z2, z3, z4⟩ := z
  clear hok1 hok2 hok3 h
  simp only [St.v] at R1 R2 ⊢
  go_enter Tryd.func15, Tryd.ntmps15
  go_wp2_with fail
  refine (R1.out _).mono ?_
  rintro e w1 ⟨rfl, hb1⟩
  go_wp2_with fail
  refine (R2.out _).mono ?_
  rintro e w2 ⟨rfl, hb2⟩
  have hX := (((Below.refl _ w).alloc (Nat.le_refl _) (.cells #[.int .u64 (p : Int), .int .u64 (q : Int), .int .u64 (r : Int), .int .u64 (s1 : Int)] 31)).alloc (by simp) (.cells #[.int .u64 0, .int .u64 0, .int .u64 0, .int .u64 0] 31))
  have hA := heap_old (.cells #[.int .u64 0, .int .u64 0, .int .u64 0, .int .u64 0] 31) (heap_new w (.cells #[.int .u64 (p : Int), .int .u64 (q : Int), .int .u64 (r : Int), .int .u64 (s1 : Int)] 31))
  have hZ := heap_new (w.alloc (.cells #[.int .u64 (p : Int), .int .u64 (q : Int), .int .u64 (r : Int), .int .u64 (s1 : Int)] 31)) (.cells #[.int .u64 0, .int .u64 0, .int .u64 0, .int .u64 0] 31)
  generalize ((w.alloc (.cells #[.int .u64 (p : Int), .int .u64 (q : Int), .int .u64 (r : Int), .int .u64 (s1 : Int)] 31)).alloc (.cells #[.int .u64 0, .int .u64 0, .int .u64 0, .int .u64 0] 31)) = X at *
  rw [World.size_alloc] at hZ
  have hb := hb1.trans (hb2.mono hb1.size)
  have hltA := (Array.getElem?_eq_some_iff.1 hA).1
  have hltZ := (Array.getElem?_eq_some_iff.1 hZ).1
  have hA2 := (hb.block _ hltA).trans hA
  have hZ2 := (hb.block _ hltZ).trans hZ
  have hB2 := hX.trans (hb.mono hX.size)
  have HA := Lib.hid hA2
  have HZ := Lib.hid hZ2
  have HB := Lib.hid hB2
  clear hb1 hb2 hb hA hZ hX hA2 hZ2 hB2 hltA hltZ
  have hW := setRow_heap w2 w.heap.size _ #[.int .u64 (y1 : Int), .int .u64 (y2 : Int), .int .u64 (y3 : Int), .int .u64 (y4 : Int)] 31 _ HA.out
  have hWZ := (setRow_other w2 w.heap.size (w.heap.size + 1) #[.int .u64 (y1 : Int), .int .u64 (y2 : Int), .int .u64 (y3 : Int), .int .u64 (y4 : Int)] (by omega)).trans HZ.out
  have hWB := below_setRow HB.out (Nat.le_refl _) #[.int .u64 (y1 : Int), .int .u64 (y2 : Int), .int .u64 (y3 : Int), .int .u64 (y4 : Int)]
  have HW := Lib.hid hW
  have HWZ := Lib.hid hWZ
  have HWB := Lib.hid hWB
  clear hW hWZ hWB
  go_wp2_with (first
    | (refine wpList_store_row rfl 31 _ _ rfl w.heap.size #[.int .u64 (y1 : Int), .int .u64 (y2 : Int), .int .u64 (y3 : Int), .int .u64 (y4 : Int)] rfl rfl 31 _ HA.out info31 rfl (one4 _ _ _ _) ?_
       clear HA HZ HB
       generalize w2.setRow w.heap.size #[.int .u64 (y1 : Int), .int .u64 (y2 : Int), .int .u64 (y3 : Int), .int .u64 (y4 : Int)] = W at *
       have c0 := cell_of_row W w.heap.size 0 _ _ _ HW.out
       have c1 := cell_of_row W w.heap.size 1 _ _ _ HW.out
       have c2 := cell_of_row W w.heap.size 2 _ _ _ HW.out
       have c3 := cell_of_row W w.heap.size 3 _ _ _ HW.out
       have f0 := frozen_of_row W w.heap.size 0 _ _ HW.out
       dsimp at c0 c1 c2 c3)
    | (refine wpList_store_row rfl 31 _ _ rfl (w.heap.size + 1) #[.int .u64 (y5 : Int), .int .u64 (y2 : Int), .int .u64 (y3 : Int), .int .u64 (y4 : Int)] rfl rfl 31 _ ((Below.heap_setCell W ⟨w.heap.size, 0, none⟩ _ (w.heap.size + 1) (by simp)).trans HWZ.out) info31 rfl (one4 _ _ _ _) ?_))
  have hfin := setRow_heap (W.setCell ⟨w.heap.size, 0, none⟩ (.int .u64 (y5 : Int))) (w.heap.size + 1) _ #[.int .u64 (y5 : Int), .int .u64 (y2 : Int), .int .u64 (y3 : Int), .int .u64 (y4 : Int)] 31 _ ((Below.heap_setCell W ⟨w.heap.size, 0, none⟩ _ (w.heap.size + 1) (by simp)).trans HWZ.out)
  exact bodyPost_ret (results_cell_row rfl _ _ (w.heap.size + 1) 31 _ (0, 0) _ (by rfl) hfin Tryd.underlying31 rfl info31) rfl ⟨rfl, below_setRow (HWB.out.setCell (p := ⟨w.heap.size, 0, none⟩) (Nat.le_refl _) _) (by omega) _⟩

end Go.Proofs.YtocideolihbnaaaDoor
