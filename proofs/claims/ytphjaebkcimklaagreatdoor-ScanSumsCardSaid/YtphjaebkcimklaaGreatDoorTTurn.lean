/- The contracts of the turns: turnLeft, turnRight. -/
import Derived.Test.YtphjaebkcimklaaGreatDoorTSound
set_option linter.unusedVariables false
set_option linter.unusedSimpArgs false
namespace Go.Proofs.YtphjaebkcimklaaGreatDoor
open Go.RowKit

theorem evenB_comm (a b : Nat) : evenB a b = evenB b a := by unfold evenB; rw [Bool.and_comm]

/-- What a turn tells: nothing, or an even tree of the same pairs. -/
def Turned (S : Nat → Prop) (w : World) (w' : World) (e : Ending) (L : Pairs) : Prop :=
  (e = .returned (.pointer none) ∨ ∃ b T, e = .returned (.pointer (some b)) ∧ T.list = L ∧ T.even ∧ TIn (Up S w.heap.size) w' (.pointer (some b)) T) ∧ Below w.heap.size w w'
theorem upup {S : Nat → Prop} {n m : Nat} (h : n ≤ m) : ∀ b : Nat, Up (Up S n) m b → Up S n b := fun b hb => by
  rcases hb with hb | hb
  · exact hb
  · exact .inr (Nat.le_trans h hb)

set_option maxHeartbeats 12800000 in
theorem turnLeft_any {S : Nat → Prop} (lv pv rv : Value) (Z I U : PT) (k x ok ox : Bytes) (w : World) (hz : TIn S w lv Z) (hp : PIn S w pv k x) (ho : TIn S w rv (.node I ok ox U))
    (hn : Z.size + 1 + (I.size + 1 + U.size) ≤ 1000000) (hez : Z.even) (hei : I.even) (heu : U.even) :
    Calls Tryz.prog 115 #[lv, pv, rv] w fun e w' => Turned S w w' e (Z.list ++ (k, x) :: (PT.node I ok ox U).list) := by
  obtain ⟨kv, xv, rfl, hk, hx⟩ := hp
  obtain ⟨zu, rfl⟩ := hz.ptr
  obtain ⟨b, okv, oxv, inv, outv, rfl, hSb, hh, hok, hox, hin, hout⟩ := ho
  obtain ⟨A, n, c, rfl⟩ := hk.slice
  obtain ⟨A', n', c', rfl⟩ := hx.slice
  obtain ⟨Ar, nr, cr, rfl⟩ := hok.slice
  obtain ⟨Ax, nx, cx, rfl⟩ := hox.slice
  obtain ⟨iu, rfl⟩ := hin.ptr
  obtain ⟨ou, rfl⟩ := hout.ptr
  have hblt := (Array.getElem?_eq_some_iff.1 hh).1
  have hbox : Two (w.alloc (.cells #[.slice A n c, .slice A' n' c'] 60)) w.heap.size (.slice A n c) (.slice A' n' c') := heap_new w _
  have hb := (Below.refl _ w).alloc (Nat.le_refl _) (.cells #[.slice A n c, .slice A' n' c'] 60)
  have HBX := Lib.hid hbox
  have HB := Lib.hid hb
  have HZ := Lib.hid (fun W (h : Below w.heap.size w W) => hz.below h)
  have HP : Hid (∀ W, Below w.heap.size w W → PIn S W (.agg #[.slice A n c, .slice A' n' c']) k x) := fun W h => ⟨_, _, rfl, hk.below h, hx.below h⟩
  have HOP : Hid (∀ W, Below w.heap.size w W → PIn S W (.agg #[.slice Ar nr cr, .slice Ax nx cx]) ok ox) := fun W h => ⟨_, _, rfl, hok.below h, hox.below h⟩
  have HI := Lib.hid (fun W (h : Below w.heap.size w W) => hin.below h)
  have HU := Lib.hid (fun W (h : Below w.heap.size w W) => hout.below h)
  have HHC := Lib.hid (fun W (h : Below w.heap.size w W) => node_cells ((h.block b hblt).trans hh))
  have HBC := Lib.hid (fun W (h : Below (w.heap.size + 1) (w.alloc (.cells #[.slice A n c, .slice A' n' c'] 60)) W) => (hbox.below h (by omega)).cells)
  have HS1 := Lib.hid (fun W => single_any Z.size I.size U.size W (by omega) (by omega) (by omega))
  have HEV := Lib.hid (And.intro hez (And.intro hei heu))
  clear hbox hb hz hk hx hok hox hh hez hei heu
  obtain ⟨c0, c1, c2, c3, c4⟩ := HHC.out _ HB.out
  go_enter Tryz.func115, Tryz.ntmps115
  go_wp2_with fail
  have hX1 : Below (w.heap.size + 1) (w.alloc (.cells #[.slice A n c, .slice A' n' c'] 60)) (w.alloc (.cells #[.slice A n c, .slice A' n' c'] 60)) := Below.refl _ _
  have HXS : Hid (w.heap.size + 1 ≤ (w.alloc (.cells #[.slice A n c, .slice A' n' c'] 60)).heap.size) := (by simp : w.heap.size + 1 ≤ (w.alloc (.cells #[.slice A n c, .slice A' n' c'] 60)).heap.size)
  generalize w.alloc (.cells #[.slice A n c, .slice A' n' c'] 60) = X at *
  go_quiet (fail)
  have HY := Lib.hid (below_drewN HB.out nq)
  have HY1 := Lib.hid (below_drewN hX1 nq)
  have HYS : Hid (w.heap.size + 1 ≤ (X.drewN nq).heap.size) := HXS.out
  have HSIN := Lib.hid hin
  clear c0 c1 c2 c3 c4 hX1 hin hout
  generalize X.drewN nq = Y at *
  obtain ⟨c0, c1, c2, c3, c4⟩ := HHC.out _ HY.out
  go_wp2_with fail
  refine (tsize_any Z _ _ (HZ.out _ HY.out)).mono ?_
  rintro e w1 ⟨rfl, rfl⟩
  go_wp2_with fail
  refine (tsize_any I _ _ (HI.out _ HY.out)).mono ?_
  rintro e w1 ⟨rfl, rfl⟩
  go_wp2_with fail
  refine (tsize_any U _ _ (HU.out _ HY.out)).mono ?_
  rintro e w1 ⟨rfl, rfl⟩
  go_wp2_with fail
  refine (HS1.out _).mono ?_
  rintro e w1 ⟨rfl, rfl⟩
  cases hs : (evenB Z.size I.size && evenB (Z.size + I.size + 1) U.size)
  · clear HS1
    go_wp2_with fail
    cases I with
    | nil =>
      obtain rfl : iu = none := by have := HSIN.out; cases this; rfl
      go_quiet (fail)
      go_wp2_with fail
      go_ret
      exact ⟨.inl rfl, below_drewN HY.out _⟩
    | node il ik ix ir =>
      obtain ⟨bi, ikv, ixv, ilv, irv, e, hSbi, hhi, hik, hix, hil, hir⟩ := HSIN.out
      cases e
      obtain ⟨Bk, mk, dk, rfl⟩ := hik.slice
      obtain ⟨Bx, mx, dx, rfl⟩ := hix.slice
      obtain ⟨ilu, rfl⟩ := hil.ptr
      obtain ⟨iru, rfl⟩ := hir.ptr
      have hbil := (Array.getElem?_eq_some_iff.1 hhi).1
      have HIC := Lib.hid (fun W (h : Below w.heap.size w W) => node_cells ((h.block bi hbil).trans hhi))
      have HIP : Hid (∀ W, Below w.heap.size w W → PIn S W (.agg #[.slice Bk mk dk, .slice Bx mx dx]) ik ix) := fun W h => ⟨_, _, rfl, hik.below h, hix.below h⟩
      have HIL := Lib.hid (fun W (h : Below w.heap.size w W) => hil.below h)
      have HIR := Lib.hid (fun W (h : Below w.heap.size w W) => hir.below h)
      simp only [PT.size] at hn
      obtain ⟨i0, i1, i2, i3, i4⟩ := HIC.out _ HY.out
      have E1 := Lib.hid (fun w => even_any Z.size il.size w (by omega) (by omega))
      have E2 := Lib.hid (fun w => even_any ir.size U.size w (by omega) (by omega))
      have e3 := fun w => even_any (Z.size + 1 + il.size) (ir.size + 1 + U.size) w (by omega) (by omega)
      rw [show ((Z.size + 1 + il.size : Nat) : Int) = (Z.size : Int) + 1 + il.size by simp, show ((ir.size + 1 + U.size : Nat) : Int) = (ir.size : Int) + 1 + U.size by simp] at e3
      have E3 := Lib.hid e3
      have w1 : IntKind.i64.wrap ((Z.size : Int) + 1) = (Z.size : Int) + 1 := i64_small (by omega)
      have w2 : IntKind.i64.wrap ((Z.size : Int) + 1 + il.size) = (Z.size : Int) + 1 + il.size := i64_small (by omega)
      have w3 : IntKind.i64.wrap ((ir.size : Int) + 1) = (ir.size : Int) + 1 := i64_small (by omega)
      have w4 : IntKind.i64.wrap ((ir.size : Int) + 1 + U.size) = (ir.size : Int) + 1 + U.size := i64_small (by omega)
      have D1 := Lib.hid (fun n => tsize_any Z (.pointer zu) (Y.drewN n) (HZ.out _ (below_drewN HY.out n)))
      have D2 := Lib.hid (fun n => tsize_any il (.pointer ilu) (Y.drewN n) (HIL.out _ (below_drewN HY.out n)))
      have D3 := Lib.hid (fun n => tsize_any ir (.pointer iru) (Y.drewN n) (HIR.out _ (below_drewN HY.out n)))
      have D4 := Lib.hid (fun n => tsize_any U (.pointer ou) (Y.drewN n) (HU.out _ (below_drewN HY.out n)))
      have HNN := Lib.hid hn
      clear hhi hik hix hil hir HSIN e3 hs
      cases h1 : evenB Z.size il.size
      · rw [h1] at E1
        clear h1
        go_quiet (first
          | (go_at_call_of 49 (Value.pointer zu); exact quiet_same (D1.out _))
          | (go_at_call_of 49 (Value.pointer ilu); exact quiet_same (D2.out _))
          | (go_at_call_of 49 (Value.pointer iru); exact quiet_same (D3.out _))
          | (go_at_call_of 49 (Value.pointer ou); exact quiet_same (D4.out _))
          | (go_at_call_of 114 (Value.int .i64 (Z.size : Int)); exact quiet_same (E1.out _))
          | (go_at_call_of 114 (Value.int .i64 (U.size : Int)); exact quiet_same (E2.out _))
          | (go_at_call 114; exact quiet_same (E3.out _)))
        go_wp2_with fail
        go_ret
        exact ⟨.inl rfl, below_drewN HY.out _⟩
      · cases h2 : evenB ir.size U.size
        · rw [h1] at E1
          rw [h2] at E2
          clear h1 h2
          go_quiet (first
            | (go_at_call_of 49 (Value.pointer zu); exact quiet_same (D1.out _))
            | (go_at_call_of 49 (Value.pointer ilu); exact quiet_same (D2.out _))
            | (go_at_call_of 49 (Value.pointer iru); exact quiet_same (D3.out _))
            | (go_at_call_of 49 (Value.pointer ou); exact quiet_same (D4.out _))
            | (go_at_call_of 114 (Value.int .i64 (Z.size : Int)); exact quiet_same (E1.out _))
            | (go_at_call_of 114 (Value.int .i64 (U.size : Int)); exact quiet_same (E2.out _))
            | (go_at_call 114; exact quiet_same (E3.out _)))
          go_wp2_with fail
          go_ret
          exact ⟨.inl rfl, below_drewN HY.out _⟩
        · cases h3 : evenB (Z.size + 1 + il.size) (ir.size + 1 + U.size)
          · rw [h1] at E1
            rw [h2] at E2
            rw [h3] at E3
            clear h1 h2 h3
            go_quiet (first
              | (go_at_call_of 49 (Value.pointer zu); exact quiet_same (D1.out _))
              | (go_at_call_of 49 (Value.pointer ilu); exact quiet_same (D2.out _))
              | (go_at_call_of 49 (Value.pointer iru); exact quiet_same (D3.out _))
              | (go_at_call_of 49 (Value.pointer ou); exact quiet_same (D4.out _))
              | (go_at_call_of 114 (Value.int .i64 (Z.size : Int)); exact quiet_same (E1.out _))
              | (go_at_call_of 114 (Value.int .i64 (U.size : Int)); exact quiet_same (E2.out _))
              | (go_at_call 114; exact quiet_same (E3.out _)))
            go_wp2_with fail
            go_ret
            exact ⟨.inl rfl, below_drewN HY.out _⟩
          · rw [h1] at E1
            rw [h2] at E2
            rw [h3] at E3
            go_quiet (first
              | (go_at_call_of 49 (Value.pointer zu); exact quiet_same (D1.out _))
              | (go_at_call_of 49 (Value.pointer ilu); exact quiet_same (D2.out _))
              | (go_at_call_of 49 (Value.pointer iru); exact quiet_same (D3.out _))
              | (go_at_call_of 49 (Value.pointer ou); exact quiet_same (D4.out _))
              | (go_at_call_of 114 (Value.int .i64 (Z.size : Int)); exact quiet_same (E1.out _))
              | (go_at_call_of 114 (Value.int .i64 (U.size : Int)); exact quiet_same (E2.out _))
              | (go_at_call 114; exact quiet_same (E3.out _)))
            have HEE := Lib.hid (And.intro h1 (And.intro h2 h3))
            clear h1 h2 h3 D1 D2 D3 D4
            have H00 := Lib.hid (below_drewN HY.out nq)
            have H01 := Lib.hid (below_drewN HY1.out nq)
            have H0S : Hid (w.heap.size + 1 ≤ (Y.drewN nq).heap.size) := HYS.out
            clear c0 c1 c2 c3 c4 i0 i1 i2 i3 i4
            generalize Y.drewN nq = V at *
            have HC8 := Lib.hid (fun W (h : Below w.heap.size w W) (h' : Below (w.heap.size + 1) X W) => (And.intro (HBC.out _ h') (And.intro (And.intro (HHC.out _ h).1 (HHC.out _ h).2.1) (And.intro (HIC.out _ h).1 (And.intro (HIC.out _ h).2.1 (And.intro (HIC.out _ h).2.2.1 (HIC.out _ h).2.2.2.1))))))
            have H0 := Lib.hid (below_drew2 H00.out)
            have hc8 := HC8.out _ H00.out H01.out
            go_wp2_with fail
            go_region_held3 (fun w' => (w'.cell? ⟨w.heap.size, 0, none⟩ = some (.slice A n c) ∧ w'.cell? ⟨w.heap.size, 1, none⟩ = some (.slice A' n' c')) ∧ (w'.cell? ⟨b, 0, none⟩ = some (.slice Ar nr cr) ∧ w'.cell? ⟨b, 1, none⟩ = some (.slice Ax nx cx)) ∧ w'.cell? ⟨bi, 0, none⟩ = some (.slice Bk mk dk) ∧ w'.cell? ⟨bi, 1, none⟩ = some (.slice Bx mx dx) ∧ w'.cell? ⟨bi, 2, none⟩ = some (.pointer ilu) ∧ w'.cell? ⟨bi, 3, none⟩ = some (.pointer iru))
              (first | with_reducible exact HC8.out _ H00.out H01.out | with_reducible exact HC8.out _ H0.out (below_drew2 H01.out) | with_reducible exact HC8.out _ H1.out H11.out | with_reducible exact HC8.out _ H2.out H21.out | with_reducible exact HC8.out _ H3.out H31.out | go_keep)
              (first
                | (go_at_call 77; (with_reducible refine (node_any _ _ _ Z il k x _ (HZ.out _ H0.out) (HP.out _ H0.out) (HIL.out _ H0.out) (by have := HNN.out; omega)).mono ?_); rintro e wa ⟨q1, rfl, ht1, hb1⟩; have H1 : Hid (Below w.heap.size w wa) := H0.out.trans (hb1.mono H0.out.size); have H11 : Hid (Below (w.heap.size + 1) X wa) := (below_drew2 H01.out).trans (hb1.mono H0S.out); have HN1 : Hid (TIn (Up S w.heap.size) wa (.pointer (some q1)) (.node Z k x il)) := ht1.imp (fun b _ hb => by rcases hb with hb | hb; exact .inl hb; exact .inr (Nat.le_trans H0.out.size hb)); have HS2 : Hid (w.heap.size + 1 ≤ wa.heap.size) := Nat.le_trans H0S.out hb1.size; clear ht1 hb1)
                | (go_at_call 77; (with_reducible refine (node_any (S := S) _ _ _ ir U ok ox _ (HIR.out _ H1.out) (HOP.out _ H1.out) (HU.out _ H1.out) (by have := HNN.out; omega)).mono ?_); rintro e wb ⟨q2, rfl, ht2, hb2⟩; have H2 : Hid (Below w.heap.size w wb) := H1.out.trans (hb2.mono H1.out.size); have H21 : Hid (Below (w.heap.size + 1) X wb) := H11.out.trans (hb2.mono HS2.out); have HN12 := Lib.hid (HN1.out.below hb2); have HN2 : Hid (TIn (Up S w.heap.size) wb (.pointer (some q2)) (.node ir ok ox U)) := ht2.imp (fun b _ hb => by rcases hb with hb | hb; exact .inl hb; exact .inr (Nat.le_trans H1.out.size hb)); have HS3 : Hid (w.heap.size + 1 ≤ wb.heap.size) := Nat.le_trans HS2.out hb2.size; clear ht2 hb2)
                | (go_at_call 77; (with_reducible refine (node_any _ _ _ (.node Z k x il) (.node ir ok ox U) ik ix _ HN12.out ((HIP.out _ H2.out).up w.heap.size) HN2.out (by have := HNN.out; simp only [PT.size]; omega)).mono ?_); rintro e wc ⟨q3, rfl, ht3, hb3⟩; have H3 : Hid (Below w.heap.size w wc) := H2.out.trans (hb3.mono H2.out.size); have H31 : Hid (Below (w.heap.size + 1) X wc) := H21.out.trans (hb3.mono HS3.out); have HN3 : Hid (TIn (Up S w.heap.size) wc (.pointer (some q3)) (.node (.node Z k x il) ik ix (.node ir ok ox U))) := ht3.imp fun b _ hb => upup H2.out.size b hb; clear ht3 hb3))
            go_wp2_with fail
            go_ret
            have hee := HEE.out
            refine ⟨.inr ⟨_, _, rfl, ?_, ?_, HN3.out⟩, H3.out⟩
            · simp [PT.list]
            · exact ⟨hee.2.2, ⟨hee.1, HEV.out.1, HEV.out.2.1.2.1⟩, hee.2.1, HEV.out.2.1.2.2, HEV.out.2.2⟩
  · have HEE := Lib.hid (Bool.and_eq_true_iff.1 hs)
    clear hs HS1 HSIN c0 c1 c2 c3 c4
    have HC4 := Lib.hid (fun W (h : Below w.heap.size w W) (h' : Below (w.heap.size + 1) X W) => And.intro (HBC.out _ h') (And.intro (HHC.out _ h).1 (HHC.out _ h).2.1))
    have H0 := Lib.hid (below_drew2 HY.out)
    have hc4 := HC4.out _ HY.out HY1.out
    go_wp2_with fail
    go_region_held3 (fun w' => (w'.cell? ⟨w.heap.size, 0, none⟩ = some (.slice A n c) ∧ w'.cell? ⟨w.heap.size, 1, none⟩ = some (.slice A' n' c')) ∧ w'.cell? ⟨b, 0, none⟩ = some (.slice Ar nr cr) ∧ w'.cell? ⟨b, 1, none⟩ = some (.slice Ax nx cx))
      (first | with_reducible exact HC4.out _ HY.out HY1.out | with_reducible exact HC4.out _ H0.out (below_drew2 HY1.out) | with_reducible exact HC4.out _ H1.out H11.out | with_reducible exact HC4.out _ H2.out H21.out | go_keep)
      (first
        | (go_at_call 77; (with_reducible refine (node_any _ _ _ Z I k x _ (HZ.out _ H0.out) (HP.out _ H0.out) (HI.out _ H0.out) (by omega)).mono ?_); rintro e wa ⟨q1, rfl, ht1, hb1⟩; have H1 : Hid (Below w.heap.size w wa) := H0.out.trans (hb1.mono H0.out.size); have H11 : Hid (Below (w.heap.size + 1) X wa) := (below_drew2 HY1.out).trans (hb1.mono HYS.out); have HN1 : Hid (TIn (Up S w.heap.size) wa (.pointer (some q1)) (.node Z k x I)) := ht1.imp (fun b _ hb => by rcases hb with hb | hb; exact .inl hb; exact .inr (Nat.le_trans H0.out.size hb)); have HS2 : Hid (w.heap.size + 1 ≤ wa.heap.size) := Nat.le_trans HYS.out hb1.size; clear ht1 hb1)
        | (go_at_call 77; (with_reducible refine (node_any _ _ _ (.node Z k x I) U ok ox _ HN1.out ((HOP.out _ H1.out).up w.heap.size) ((HU.out _ H1.out).up w.heap.size) (by simp only [PT.size]; omega)).mono ?_); rintro e wb ⟨q2, rfl, ht2, hb2⟩; have H2 : Hid (Below w.heap.size w wb) := H1.out.trans (hb2.mono H1.out.size); have H21 : Hid (Below (w.heap.size + 1) X wb) := H11.out.trans (hb2.mono HS2.out); have HN2 : Hid (TIn (Up S w.heap.size) wb (.pointer (some q2)) (.node (.node Z k x I) ok ox U)) := ht2.imp fun b _ hb => upup H1.out.size b hb; clear ht2 hb2))
    go_wp2_with fail
    go_ret
    have hee := HEE.out
    refine ⟨.inr ⟨_, _, rfl, ?_, ?_, HN2.out⟩, H2.out⟩
    · simp [PT.list]
    · exact ⟨by have := hee.2; simp only [PT.size]; rw [show Z.size + 1 + I.size = Z.size + I.size + 1 by omega]; exact this, ⟨hee.1, HEV.out.1, HEV.out.2.1⟩, HEV.out.2.2⟩

set_option maxHeartbeats 12800000 in
theorem turnRight_any {S : Nat → Prop} (lv pv rv : Value) (Z I U : PT) (k x ok ox : Bytes) (w : World) (ho : TIn S w lv (.node U ok ox I)) (hp : PIn S w pv k x) (hz : TIn S w rv Z)
    (hn : Z.size + 1 + (I.size + 1 + U.size) ≤ 1000000) (hez : Z.even) (hei : I.even) (heu : U.even) :
    Calls Tryz.prog 116 #[lv, pv, rv] w fun e w' => Turned S w w' e ((PT.node U ok ox I).list ++ (k, x) :: Z.list) := by
  obtain ⟨kv, xv, rfl, hk, hx⟩ := hp
  obtain ⟨zu, rfl⟩ := hz.ptr
  obtain ⟨b, okv, oxv, outv, inv, rfl, hSb, hh, hok, hox, hout, hin⟩ := ho
  obtain ⟨A, n, c, rfl⟩ := hk.slice
  obtain ⟨A', n', c', rfl⟩ := hx.slice
  obtain ⟨Ar, nr, cr, rfl⟩ := hok.slice
  obtain ⟨Ax, nx, cx, rfl⟩ := hox.slice
  obtain ⟨iu, rfl⟩ := hin.ptr
  obtain ⟨ou, rfl⟩ := hout.ptr
  have hblt := (Array.getElem?_eq_some_iff.1 hh).1
  have hbox : Two (w.alloc (.cells #[.slice A n c, .slice A' n' c'] 60)) w.heap.size (.slice A n c) (.slice A' n' c') := heap_new w _
  have hb := (Below.refl _ w).alloc (Nat.le_refl _) (.cells #[.slice A n c, .slice A' n' c'] 60)
  have HBX := Lib.hid hbox
  have HB := Lib.hid hb
  have HZ := Lib.hid (fun W (h : Below w.heap.size w W) => hz.below h)
  have HP : Hid (∀ W, Below w.heap.size w W → PIn S W (.agg #[.slice A n c, .slice A' n' c']) k x) := fun W h => ⟨_, _, rfl, hk.below h, hx.below h⟩
  have HOP : Hid (∀ W, Below w.heap.size w W → PIn S W (.agg #[.slice Ar nr cr, .slice Ax nx cx]) ok ox) := fun W h => ⟨_, _, rfl, hok.below h, hox.below h⟩
  have HI := Lib.hid (fun W (h : Below w.heap.size w W) => hin.below h)
  have HU := Lib.hid (fun W (h : Below w.heap.size w W) => hout.below h)
  have HHC := Lib.hid (fun W (h : Below w.heap.size w W) => node_cells ((h.block b hblt).trans hh))
  have HBC := Lib.hid (fun W (h : Below (w.heap.size + 1) (w.alloc (.cells #[.slice A n c, .slice A' n' c'] 60)) W) => (hbox.below h (by omega)).cells)
  have HS1 := Lib.hid (fun W => single_any Z.size I.size U.size W (by omega) (by omega) (by omega))
  have HEV := Lib.hid (And.intro hez (And.intro hei heu))
  clear hbox hb hz hk hx hok hox hh hez hei heu
  obtain ⟨c0, c1, c2, c3, c4⟩ := HHC.out _ HB.out
  go_enter Tryz.func116, Tryz.ntmps116
  go_wp2_with fail
  have hX1 : Below (w.heap.size + 1) (w.alloc (.cells #[.slice A n c, .slice A' n' c'] 60)) (w.alloc (.cells #[.slice A n c, .slice A' n' c'] 60)) := Below.refl _ _
  have HXS : Hid (w.heap.size + 1 ≤ (w.alloc (.cells #[.slice A n c, .slice A' n' c'] 60)).heap.size) := (by simp : w.heap.size + 1 ≤ (w.alloc (.cells #[.slice A n c, .slice A' n' c'] 60)).heap.size)
  generalize w.alloc (.cells #[.slice A n c, .slice A' n' c'] 60) = X at *
  go_quiet (fail)
  have HY := Lib.hid (below_drewN HB.out nq)
  have HY1 := Lib.hid (below_drewN hX1 nq)
  have HYS : Hid (w.heap.size + 1 ≤ (X.drewN nq).heap.size) := HXS.out
  have HSIN := Lib.hid hin
  clear c0 c1 c2 c3 c4 hX1 hin hout
  generalize X.drewN nq = Y at *
  obtain ⟨c0, c1, c2, c3, c4⟩ := HHC.out _ HY.out
  go_wp2_with fail
  refine (tsize_any Z _ _ (HZ.out _ HY.out)).mono ?_
  rintro e w1 ⟨rfl, rfl⟩
  go_wp2_with fail
  refine (tsize_any I _ _ (HI.out _ HY.out)).mono ?_
  rintro e w1 ⟨rfl, rfl⟩
  go_wp2_with fail
  refine (tsize_any U _ _ (HU.out _ HY.out)).mono ?_
  rintro e w1 ⟨rfl, rfl⟩
  go_wp2_with fail
  refine (HS1.out _).mono ?_
  rintro e w1 ⟨rfl, rfl⟩
  cases hs : (evenB Z.size I.size && evenB (Z.size + I.size + 1) U.size)
  · clear HS1
    go_wp2_with fail
    cases I with
    | nil =>
      obtain rfl : iu = none := by have := HSIN.out; cases this; rfl
      go_quiet (fail)
      go_wp2_with fail
      go_ret
      exact ⟨.inl rfl, below_drewN HY.out _⟩
    | node il ik ix ir =>
      obtain ⟨bi, ikv, ixv, ilv, irv, e, hSbi, hhi, hik, hix, hil, hir⟩ := HSIN.out
      cases e
      obtain ⟨Bk, mk, dk, rfl⟩ := hik.slice
      obtain ⟨Bx, mx, dx, rfl⟩ := hix.slice
      obtain ⟨ilu, rfl⟩ := hil.ptr
      obtain ⟨iru, rfl⟩ := hir.ptr
      have hbil := (Array.getElem?_eq_some_iff.1 hhi).1
      have HIC := Lib.hid (fun W (h : Below w.heap.size w W) => node_cells ((h.block bi hbil).trans hhi))
      have HIP : Hid (∀ W, Below w.heap.size w W → PIn S W (.agg #[.slice Bk mk dk, .slice Bx mx dx]) ik ix) := fun W h => ⟨_, _, rfl, hik.below h, hix.below h⟩
      have HIL := Lib.hid (fun W (h : Below w.heap.size w W) => hil.below h)
      have HIR := Lib.hid (fun W (h : Below w.heap.size w W) => hir.below h)
      simp only [PT.size] at hn
      obtain ⟨i0, i1, i2, i3, i4⟩ := HIC.out _ HY.out
      have E1 := Lib.hid (fun w => even_any Z.size ir.size w (by omega) (by omega))
      have E2 := Lib.hid (fun w => even_any il.size U.size w (by omega) (by omega))
      have e3 := fun w => even_any (Z.size + 1 + ir.size) (il.size + 1 + U.size) w (by omega) (by omega)
      rw [show ((Z.size + 1 + ir.size : Nat) : Int) = (Z.size : Int) + 1 + ir.size by simp, show ((il.size + 1 + U.size : Nat) : Int) = (il.size : Int) + 1 + U.size by simp] at e3
      have E3 := Lib.hid e3
      have w1 : IntKind.i64.wrap ((Z.size : Int) + 1) = (Z.size : Int) + 1 := i64_small (by omega)
      have w2 : IntKind.i64.wrap ((Z.size : Int) + 1 + ir.size) = (Z.size : Int) + 1 + ir.size := i64_small (by omega)
      have w3 : IntKind.i64.wrap ((il.size : Int) + 1) = (il.size : Int) + 1 := i64_small (by omega)
      have w4 : IntKind.i64.wrap ((il.size : Int) + 1 + U.size) = (il.size : Int) + 1 + U.size := i64_small (by omega)
      have D1 := Lib.hid (fun n => tsize_any Z (.pointer zu) (Y.drewN n) (HZ.out _ (below_drewN HY.out n)))
      have D2 := Lib.hid (fun n => tsize_any il (.pointer ilu) (Y.drewN n) (HIL.out _ (below_drewN HY.out n)))
      have D3 := Lib.hid (fun n => tsize_any ir (.pointer iru) (Y.drewN n) (HIR.out _ (below_drewN HY.out n)))
      have D4 := Lib.hid (fun n => tsize_any U (.pointer ou) (Y.drewN n) (HU.out _ (below_drewN HY.out n)))
      have HNN := Lib.hid hn
      clear hhi hik hix hil hir HSIN e3 hs
      cases h1 : evenB Z.size ir.size
      · rw [h1] at E1
        clear h1
        go_quiet (first
          | (go_at_call_of 49 (Value.pointer zu); exact quiet_same (D1.out _))
          | (go_at_call_of 49 (Value.pointer ilu); exact quiet_same (D2.out _))
          | (go_at_call_of 49 (Value.pointer iru); exact quiet_same (D3.out _))
          | (go_at_call_of 49 (Value.pointer ou); exact quiet_same (D4.out _))
          | (go_at_call_of 114 (Value.int .i64 (Z.size : Int)); exact quiet_same (E1.out _))
          | (go_at_call_of 114 (Value.int .i64 (U.size : Int)); exact quiet_same (E2.out _))
          | (go_at_call 114; exact quiet_same (E3.out _)))
        go_wp2_with fail
        go_ret
        exact ⟨.inl rfl, below_drewN HY.out _⟩
      · cases h2 : evenB il.size U.size
        · rw [h1] at E1
          rw [h2] at E2
          clear h1 h2
          go_quiet (first
            | (go_at_call_of 49 (Value.pointer zu); exact quiet_same (D1.out _))
            | (go_at_call_of 49 (Value.pointer ilu); exact quiet_same (D2.out _))
            | (go_at_call_of 49 (Value.pointer iru); exact quiet_same (D3.out _))
            | (go_at_call_of 49 (Value.pointer ou); exact quiet_same (D4.out _))
            | (go_at_call_of 114 (Value.int .i64 (Z.size : Int)); exact quiet_same (E1.out _))
            | (go_at_call_of 114 (Value.int .i64 (U.size : Int)); exact quiet_same (E2.out _))
            | (go_at_call 114; exact quiet_same (E3.out _)))
          go_wp2_with fail
          go_ret
          exact ⟨.inl rfl, below_drewN HY.out _⟩
        · cases h3 : evenB (Z.size + 1 + ir.size) (il.size + 1 + U.size)
          · rw [h1] at E1
            rw [h2] at E2
            rw [h3] at E3
            clear h1 h2 h3
            go_quiet (first
              | (go_at_call_of 49 (Value.pointer zu); exact quiet_same (D1.out _))
              | (go_at_call_of 49 (Value.pointer ilu); exact quiet_same (D2.out _))
              | (go_at_call_of 49 (Value.pointer iru); exact quiet_same (D3.out _))
              | (go_at_call_of 49 (Value.pointer ou); exact quiet_same (D4.out _))
              | (go_at_call_of 114 (Value.int .i64 (Z.size : Int)); exact quiet_same (E1.out _))
              | (go_at_call_of 114 (Value.int .i64 (U.size : Int)); exact quiet_same (E2.out _))
              | (go_at_call 114; exact quiet_same (E3.out _)))
            go_wp2_with fail
            go_ret
            exact ⟨.inl rfl, below_drewN HY.out _⟩
          · rw [h1] at E1
            rw [h2] at E2
            rw [h3] at E3
            go_quiet (first
              | (go_at_call_of 49 (Value.pointer zu); exact quiet_same (D1.out _))
              | (go_at_call_of 49 (Value.pointer ilu); exact quiet_same (D2.out _))
              | (go_at_call_of 49 (Value.pointer iru); exact quiet_same (D3.out _))
              | (go_at_call_of 49 (Value.pointer ou); exact quiet_same (D4.out _))
              | (go_at_call_of 114 (Value.int .i64 (Z.size : Int)); exact quiet_same (E1.out _))
              | (go_at_call_of 114 (Value.int .i64 (U.size : Int)); exact quiet_same (E2.out _))
              | (go_at_call 114; exact quiet_same (E3.out _)))
            have HEE := Lib.hid (And.intro h1 (And.intro h2 h3))
            clear h1 h2 h3 D1 D2 D3 D4
            have H00 := Lib.hid (below_drewN HY.out nq)
            have H01 := Lib.hid (below_drewN HY1.out nq)
            have H0S : Hid (w.heap.size + 1 ≤ (Y.drewN nq).heap.size) := HYS.out
            clear c0 c1 c2 c3 c4 i0 i1 i2 i3 i4
            generalize Y.drewN nq = V at *
            have HC8 := Lib.hid (fun W (h : Below w.heap.size w W) (h' : Below (w.heap.size + 1) X W) => (And.intro (HBC.out _ h') (And.intro (And.intro (HHC.out _ h).1 (HHC.out _ h).2.1) (And.intro (HIC.out _ h).1 (And.intro (HIC.out _ h).2.1 (And.intro (HIC.out _ h).2.2.1 (HIC.out _ h).2.2.2.1))))))
            have H0 := Lib.hid (below_drew2 H00.out)
            have hc8 := HC8.out _ H00.out H01.out
            go_wp2_with fail
            go_region_held3 (fun w' => (w'.cell? ⟨w.heap.size, 0, none⟩ = some (.slice A n c) ∧ w'.cell? ⟨w.heap.size, 1, none⟩ = some (.slice A' n' c')) ∧ (w'.cell? ⟨b, 0, none⟩ = some (.slice Ar nr cr) ∧ w'.cell? ⟨b, 1, none⟩ = some (.slice Ax nx cx)) ∧ w'.cell? ⟨bi, 0, none⟩ = some (.slice Bk mk dk) ∧ w'.cell? ⟨bi, 1, none⟩ = some (.slice Bx mx dx) ∧ w'.cell? ⟨bi, 2, none⟩ = some (.pointer ilu) ∧ w'.cell? ⟨bi, 3, none⟩ = some (.pointer iru))
              (first | with_reducible exact HC8.out _ H00.out H01.out | with_reducible exact HC8.out _ H0.out (below_drew2 H01.out) | with_reducible exact HC8.out _ H1.out H11.out | with_reducible exact HC8.out _ H2.out H21.out | with_reducible exact HC8.out _ H3.out H31.out | go_keep)
              (first
                | (go_at_call 77; (with_reducible refine (node_any _ _ _ U il ok ox _ (HU.out _ H0.out) (HOP.out _ H0.out) (HIL.out _ H0.out) (by have := HNN.out; omega)).mono ?_); rintro e wa ⟨q1, rfl, ht1, hb1⟩; have H1 : Hid (Below w.heap.size w wa) := H0.out.trans (hb1.mono H0.out.size); have H11 : Hid (Below (w.heap.size + 1) X wa) := (below_drew2 H01.out).trans (hb1.mono H0S.out); have HN1 : Hid (TIn (Up S w.heap.size) wa (.pointer (some q1)) (.node U ok ox il)) := ht1.imp (fun b _ hb => by rcases hb with hb | hb; exact .inl hb; exact .inr (Nat.le_trans H0.out.size hb)); have HS2 : Hid (w.heap.size + 1 ≤ wa.heap.size) := Nat.le_trans H0S.out hb1.size; clear ht1 hb1)
                | (go_at_call 77; (with_reducible refine (node_any (S := S) _ _ _ ir Z k x _ (HIR.out _ H1.out) (HP.out _ H1.out) (HZ.out _ H1.out) (by have := HNN.out; omega)).mono ?_); rintro e wb ⟨q2, rfl, ht2, hb2⟩; have H2 : Hid (Below w.heap.size w wb) := H1.out.trans (hb2.mono H1.out.size); have H21 : Hid (Below (w.heap.size + 1) X wb) := H11.out.trans (hb2.mono HS2.out); have HN12 := Lib.hid (HN1.out.below hb2); have HN2 : Hid (TIn (Up S w.heap.size) wb (.pointer (some q2)) (.node ir k x Z)) := ht2.imp (fun b _ hb => by rcases hb with hb | hb; exact .inl hb; exact .inr (Nat.le_trans H1.out.size hb)); have HS3 : Hid (w.heap.size + 1 ≤ wb.heap.size) := Nat.le_trans HS2.out hb2.size; clear ht2 hb2)
                | (go_at_call 77; (with_reducible refine (node_any _ _ _ (.node U ok ox il) (.node ir k x Z) ik ix _ HN12.out ((HIP.out _ H2.out).up w.heap.size) HN2.out (by have := HNN.out; simp only [PT.size]; omega)).mono ?_); rintro e wc ⟨q3, rfl, ht3, hb3⟩; have H3 : Hid (Below w.heap.size w wc) := H2.out.trans (hb3.mono H2.out.size); have H31 : Hid (Below (w.heap.size + 1) X wc) := H21.out.trans (hb3.mono HS3.out); have HN3 : Hid (TIn (Up S w.heap.size) wc (.pointer (some q3)) (.node (.node U ok ox il) ik ix (.node ir k x Z))) := ht3.imp fun b _ hb => upup H2.out.size b hb; clear ht3 hb3))
            go_wp2_with fail
            go_ret
            have hee := HEE.out
            refine ⟨.inr ⟨_, _, rfl, ?_, ?_, HN3.out⟩, H3.out⟩
            · simp [PT.list]
            · exact ⟨(evenB_comm _ _).trans (by have := hee.2.2; simp only [PT.size]; rw [show ir.size + 1 + Z.size = Z.size + 1 + ir.size by omega, show U.size + 1 + il.size = il.size + 1 + U.size by omega]; exact this), ⟨(evenB_comm _ _).trans hee.2.1, HEV.out.2.2, HEV.out.2.1.2.1⟩, (evenB_comm _ _).trans hee.1, HEV.out.2.1.2.2, HEV.out.1⟩
  · have HEE := Lib.hid (Bool.and_eq_true_iff.1 hs)
    clear hs HS1 HSIN c0 c1 c2 c3 c4
    have HC4 := Lib.hid (fun W (h : Below w.heap.size w W) (h' : Below (w.heap.size + 1) X W) => And.intro (HBC.out _ h') (And.intro (HHC.out _ h).1 (HHC.out _ h).2.1))
    have H0 := Lib.hid (below_drew2 HY.out)
    have hc4 := HC4.out _ HY.out HY1.out
    go_wp2_with fail
    go_region_held3 (fun w' => (w'.cell? ⟨w.heap.size, 0, none⟩ = some (.slice A n c) ∧ w'.cell? ⟨w.heap.size, 1, none⟩ = some (.slice A' n' c')) ∧ w'.cell? ⟨b, 0, none⟩ = some (.slice Ar nr cr) ∧ w'.cell? ⟨b, 1, none⟩ = some (.slice Ax nx cx))
      (first | with_reducible exact HC4.out _ HY.out HY1.out | with_reducible exact HC4.out _ H0.out (below_drew2 HY1.out) | with_reducible exact HC4.out _ H1.out H11.out | with_reducible exact HC4.out _ H2.out H21.out | go_keep)
      (first
        | (go_at_call 77; (with_reducible refine (node_any _ _ _ I Z k x _ (HI.out _ H0.out) (HP.out _ H0.out) (HZ.out _ H0.out) (by omega)).mono ?_); rintro e wa ⟨q1, rfl, ht1, hb1⟩; have H1 : Hid (Below w.heap.size w wa) := H0.out.trans (hb1.mono H0.out.size); have H11 : Hid (Below (w.heap.size + 1) X wa) := (below_drew2 HY1.out).trans (hb1.mono HYS.out); have HN1 : Hid (TIn (Up S w.heap.size) wa (.pointer (some q1)) (.node I k x Z)) := ht1.imp (fun b _ hb => by rcases hb with hb | hb; exact .inl hb; exact .inr (Nat.le_trans H0.out.size hb)); have HS2 : Hid (w.heap.size + 1 ≤ wa.heap.size) := Nat.le_trans HYS.out hb1.size; clear ht1 hb1)
        | (go_at_call 77; (with_reducible refine (node_any _ _ _ U (.node I k x Z) ok ox _ ((HU.out _ H1.out).up w.heap.size) ((HOP.out _ H1.out).up w.heap.size) HN1.out (by simp only [PT.size]; omega)).mono ?_); rintro e wb ⟨q2, rfl, ht2, hb2⟩; have H2 : Hid (Below w.heap.size w wb) := H1.out.trans (hb2.mono H1.out.size); have H21 : Hid (Below (w.heap.size + 1) X wb) := H11.out.trans (hb2.mono HS2.out); have HN2 : Hid (TIn (Up S w.heap.size) wb (.pointer (some q2)) (.node U ok ox (.node I k x Z))) := ht2.imp fun b _ hb => upup H1.out.size b hb; clear ht2 hb2))
    go_wp2_with fail
    go_ret
    have hee := HEE.out
    refine ⟨.inr ⟨_, _, rfl, ?_, ?_, HN2.out⟩, H2.out⟩
    · simp [PT.list]
    · exact ⟨(evenB_comm _ _).trans (by have := hee.2; simp only [PT.size]; rw [show I.size + 1 + Z.size = Z.size + I.size + 1 by omega]; exact this), HEV.out.2.2, (evenB_comm _ _).trans hee.1, HEV.out.2.1, HEV.out.1⟩

end Go.Proofs.YtphjaebkcimklaaGreatDoor
