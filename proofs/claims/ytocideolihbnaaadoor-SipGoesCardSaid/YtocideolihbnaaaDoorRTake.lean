/- The contracts of the reference's Take and End: the same numbers as the program's. -/
import Derived.Test.YtocideolihbnaaaDoorRounds
set_option linter.unusedVariables false
set_option linter.unusedSimpArgs false
namespace Go.Proofs.YtocideolihbnaaaDoor
open Go.RowKit

theorem takeN_it (x : St) (m : Nat) : takeN x m = ⟨(itN 2 ⟨x.p, x.q, x.r, x.s ^^^ m⟩).p ^^^ m, (itN 2 ⟨x.p, x.q, x.r, x.s ^^^ m⟩).q, (itN 2 ⟨x.p, x.q, x.r, x.s ^^^ m⟩).r, (itN 2 ⟨x.p, x.q, x.r, x.s ^^^ m⟩).s⟩ := rfl

set_option maxHeartbeats 1600000 in
theorem refTake_any (x : St) (m : Nat) (w : World) (h : x.ok) (hm : m < 18446744073709551616) :
    Calls Tryd.prog 16 #[x.v, .int .u64 (m : Int)] w fun e w' => e = .returned (takeN x m).v ∧ Below w.heap.size w w' := by
  obtain ⟨p, q, r, s⟩ := x
  have hok1 : (St.mk p q r (s ^^^ m)).ok := ⟨h.1, h.2.1, h.2.2.1, xorN_lt h.2.2.2 hm⟩
  have R1 := Lib.hid (fun w => refRounds_any ⟨p, q, r, s ^^^ m⟩ 2 w hok1 (by omega))
  have hok3 := itN_ok _ hok1 2
  have hx1 := u64_xor_nat s m h.2.2.2 hm
  have e := takeN_it ⟨p, q, r, s⟩ m
  dsimp only at e
  rw [e]
  clear e
  generalize s ^^^ m = s1 at *
  generalize itN 2 ⟨p, q, r, s1⟩ = y at *
  obtain ⟨y1, y2, y3, y4⟩ := y
  have hx2 := u64_xor_nat y1 m hok3.1 hm
  dsimp only
  generalize y1 ^^^ m = y5 at *
  clear hok1 hok3 h
  simp only [St.v] at R1 ⊢
  go_enter Tryd.func16, Tryd.ntmps16
  go_wp2_with fail
  refine (R1.out _).mono ?_
  rintro e w2 ⟨rfl, hb⟩
  have hX := (((Below.refl _ w).alloc (Nat.le_refl _) (.cells #[.int .u64 (p : Int), .int .u64 (q : Int), .int .u64 (r : Int), .int .u64 (s1 : Int)] 30)).alloc (by simp) (.cells #[.int .u64 0, .int .u64 0, .int .u64 0, .int .u64 0] 30))
  have hA := heap_old (.cells #[.int .u64 0, .int .u64 0, .int .u64 0, .int .u64 0] 30) (heap_new w (.cells #[.int .u64 (p : Int), .int .u64 (q : Int), .int .u64 (r : Int), .int .u64 (s1 : Int)] 30))
  have hZ := heap_new (w.alloc (.cells #[.int .u64 (p : Int), .int .u64 (q : Int), .int .u64 (r : Int), .int .u64 (s1 : Int)] 30)) (.cells #[.int .u64 0, .int .u64 0, .int .u64 0, .int .u64 0] 30)
  generalize ((w.alloc (.cells #[.int .u64 (p : Int), .int .u64 (q : Int), .int .u64 (r : Int), .int .u64 (s1 : Int)] 30)).alloc (.cells #[.int .u64 0, .int .u64 0, .int .u64 0, .int .u64 0] 30)) = X at *
  rw [World.size_alloc] at hZ
  have hltA := (Array.getElem?_eq_some_iff.1 hA).1
  have hltZ := (Array.getElem?_eq_some_iff.1 hZ).1
  have hA2 := (hb.block _ hltA).trans hA
  have hZ2 := (hb.block _ hltZ).trans hZ
  have hB2 := hX.trans (hb.mono hX.size)
  have HA := Lib.hid hA2
  have HZ := Lib.hid hZ2
  have HB := Lib.hid hB2
  clear hb hA hZ hX hA2 hZ2 hB2 hltA hltZ
  have hW := setRow_heap w2 w.heap.size _ #[.int .u64 (y1 : Int), .int .u64 (y2 : Int), .int .u64 (y3 : Int), .int .u64 (y4 : Int)] 30 _ HA.out
  have hWZ := (setRow_other w2 w.heap.size (w.heap.size + 1) #[.int .u64 (y1 : Int), .int .u64 (y2 : Int), .int .u64 (y3 : Int), .int .u64 (y4 : Int)] (by omega)).trans HZ.out
  have hWB := below_setRow HB.out (Nat.le_refl _) #[.int .u64 (y1 : Int), .int .u64 (y2 : Int), .int .u64 (y3 : Int), .int .u64 (y4 : Int)]
  have HW := Lib.hid hW
  have HWZ := Lib.hid hWZ
  have HWB := Lib.hid hWB
  clear hW hWZ hWB
  go_wp2_with (first
    | (refine wpList_store_row rfl 30 _ _ rfl w.heap.size #[.int .u64 (y1 : Int), .int .u64 (y2 : Int), .int .u64 (y3 : Int), .int .u64 (y4 : Int)] rfl rfl 30 _ HA.out info30 rfl (one4 _ _ _ _) ?_
       clear HA HZ HB
       generalize w2.setRow w.heap.size #[.int .u64 (y1 : Int), .int .u64 (y2 : Int), .int .u64 (y3 : Int), .int .u64 (y4 : Int)] = W at *
       have c0 := cell_of_row W w.heap.size 0 _ _ _ HW.out
       have c1 := cell_of_row W w.heap.size 1 _ _ _ HW.out
       have c2 := cell_of_row W w.heap.size 2 _ _ _ HW.out
       have c3 := cell_of_row W w.heap.size 3 _ _ _ HW.out
       have f0 := frozen_of_row W w.heap.size 0 _ _ HW.out
       dsimp at c0 c1 c2 c3)
    | (refine wpList_store_row rfl 30 _ _ rfl (w.heap.size + 1) #[.int .u64 (y5 : Int), .int .u64 (y2 : Int), .int .u64 (y3 : Int), .int .u64 (y4 : Int)] rfl rfl 30 _ ((Below.heap_setCell W ⟨w.heap.size, 0, none⟩ _ (w.heap.size + 1) (by simp)).trans HWZ.out) info30 rfl (one4 _ _ _ _) ?_))
  have hfin := setRow_heap (W.setCell ⟨w.heap.size, 0, none⟩ (.int .u64 (y5 : Int))) (w.heap.size + 1) _ #[.int .u64 (y5 : Int), .int .u64 (y2 : Int), .int .u64 (y3 : Int), .int .u64 (y4 : Int)] 30 _ ((Below.heap_setCell W ⟨w.heap.size, 0, none⟩ _ (w.heap.size + 1) (by simp)).trans HWZ.out)
  exact bodyPost_ret (results_cell_row rfl _ _ (w.heap.size + 1) 30 _ (0, 0) _ (by rfl) hfin Tryd.underlying30 rfl info30) rfl ⟨rfl, below_setRow (HWB.out.setCell (p := ⟨w.heap.size, 0, none⟩) (Nat.le_refl _) _) (by omega) _⟩

set_option maxHeartbeats 1600000 in
theorem refEnd_any (x : St) (w : World) (h : x.ok) :
    Calls Tryd.prog 18 #[x.v] w fun e w' => e = .returned (.int .u64 (endN x : Nat)) ∧ Below w.heap.size w w' := by
  obtain ⟨p, q, r, s⟩ := x
  have hok1 : (St.mk p q (r ^^^ 255) s).ok := ⟨h.1, h.2.1, xorN_lt h.2.2.1 (by omega), h.2.2.2⟩
  have R1 := Lib.hid (fun w => refRounds_any ⟨p, q, r ^^^ 255, s⟩ 4 w hok1 (by omega))
  have hoj := itN_ok _ hok1 4
  have hx1 := u64_xor_nat r 255 h.2.2.1 (by omega)
  have HE : Hid (endN ⟨p, q, r, s⟩ = (itN 4 ⟨p, q, r ^^^ 255, s⟩).p ^^^ (itN 4 ⟨p, q, r ^^^ 255, s⟩).q ^^^ (itN 4 ⟨p, q, r ^^^ 255, s⟩).r ^^^ (itN 4 ⟨p, q, r ^^^ 255, s⟩).s) := rfl
  have e255 : ((255 : Nat) : Int) = 255 := rfl
  rw [e255] at hx1
  clear e255
  generalize r ^^^ 255 = r1 at *
  generalize endN ⟨p, q, r, s⟩ = en at *
  generalize itN 4 ⟨p, q, r1, s⟩ = y at *
  obtain ⟨y1, y2, y3, y4⟩ := y
  have h1 := u64_xor_nat y1 y2 hoj.1 hoj.2.1
  have h2 := u64_xor_nat (y1 ^^^ y2) y3 (xorN_lt hoj.1 hoj.2.1) hoj.2.2.1
  have h3 := u64_xor_nat (y1 ^^^ y2 ^^^ y3) y4 (xorN_lt (xorN_lt hoj.1 hoj.2.1) hoj.2.2.1) hoj.2.2.2
  have HE2 := HE.out
  dsimp only at HE2
  rw [← HE2] at h3
  clear HE HE2
  generalize y1 ^^^ y2 = x1 at *
  generalize x1 ^^^ y3 = x2 at *
  have hA := heap_new w (.cells #[.int .u64 (p : Int), .int .u64 (q : Int), .int .u64 (r1 : Int), .int .u64 (s : Int)] 30)
  have hX := (Below.refl _ w).alloc (Nat.le_refl _) (.cells #[.int .u64 (p : Int), .int .u64 (q : Int), .int .u64 (r1 : Int), .int .u64 (s : Int)] 30)
  have HA := Lib.hid hA
  have HX := Lib.hid hX
  clear hA hX h hok1 hoj
  simp only [St.v] at R1 ⊢
  go_enter Tryd.func18, Tryd.ntmps18
  go_wp2_with fail
  refine (R1.out _).mono ?_
  rintro e w2 ⟨rfl, hb⟩
  have hA := HA.out
  have hX := HX.out
  generalize w.alloc (.cells #[.int .u64 (p : Int), .int .u64 (q : Int), .int .u64 (r1 : Int), .int .u64 (s : Int)] 30) = X at *
  have hltA := (Array.getElem?_eq_some_iff.1 hA).1
  have hA2 := (hb.block _ hltA).trans hA
  have hB2 := hX.trans (hb.mono hX.size)
  have HA2 := Lib.hid hA2
  have HB2 := Lib.hid hB2
  clear hA hX hltA hA2 hB2 HA HX hb
  have hW := setRow_heap w2 w.heap.size _ #[.int .u64 (y1 : Int), .int .u64 (y2 : Int), .int .u64 (y3 : Int), .int .u64 (y4 : Int)] 30 _ HA2.out
  have hWB := below_setRow HB2.out (Nat.le_refl _) #[.int .u64 (y1 : Int), .int .u64 (y2 : Int), .int .u64 (y3 : Int), .int .u64 (y4 : Int)]
  have HW := Lib.hid hW
  have HWB := Lib.hid hWB
  clear hW hWB
  go_wp2_with (refine wpList_store_row rfl 30 _ _ rfl w.heap.size #[.int .u64 (y1 : Int), .int .u64 (y2 : Int), .int .u64 (y3 : Int), .int .u64 (y4 : Int)] rfl rfl 30 _ HA2.out info30 rfl (one4 _ _ _ _) ?_
               clear HA2
               generalize w2.setRow w.heap.size #[.int .u64 (y1 : Int), .int .u64 (y2 : Int), .int .u64 (y3 : Int), .int .u64 (y4 : Int)] = W at *
               have c0 := cell_of_row W w.heap.size 0 _ _ _ HW.out
               have c1 := cell_of_row W w.heap.size 1 _ _ _ HW.out
               have c2 := cell_of_row W w.heap.size 2 _ _ _ HW.out
               have c3 := cell_of_row W w.heap.size 3 _ _ _ HW.out
               dsimp at c0 c1 c2 c3)
  go_ret
  exact ⟨rfl, HWB.out⟩

end Go.Proofs.YtocideolihbnaaaDoor
