/- law12's awake. -/
import Derived.Test.YtlnlgahokifolaaTMade
set_option linter.unusedVariables false
set_option linter.unusedSimpArgs false
namespace Go.Proofs.Ytlnlgahokifolaa
open Go.RowKit

/-- What At told, at its place. -/
theorem AtR.parts {w w' : World} {e : Ending} {L : Pairs} {i : Int} (h : AtR w w' e L i) (hi : 0 ≤ i ∧ i < (L.length : Int)) :
    ∃ A n c A' n' c', e = .returned (.tuple #[.agg #[.slice A n c, .slice A' n' c'], .bool true]) ∧ BIn (New w.heap.size) w' (.slice A n c) (L.getD i.toNat ([], [])).1 ∧ BIn (New w.heap.size) w' (.slice A' n' c') (L.getD i.toNat ([], [])).2 ∧ Below w.heap.size w w' := by
  obtain ⟨A, n, c, A', n', c', rfl, hp, hb⟩ := h
  rw [if_pos hi] at hp
  obtain ⟨h1, h2⟩ := hp.kx
  exact ⟨A, n, c, A', n', c', by rw [decide_eq_true hi], h1, h2, hb⟩

set_option maxRecDepth 100000 in
set_option maxHeartbeats 12800000 in
theorem awake12_any (w : World) : Calls Try.prog 29 #[] w fun e w' => e = .returned (.bool true) ∧ Below w.heap.size w w' := by
  have hc97 := fun w => conv_one w 97
  have hc99 := fun w => conv_one w 99
  have hc98 := fun w => conv_one w 98
  go_enter Try.func29, Try.ntmps29
  go_wp2_with fail
  have hp97 := one_in w 97
  have hp99 := one_in (oneWorld w 97) 99
  have hb1 := one_below w 97
  have hb2 := one_below (oneWorld w 97) 99
  have hbw2 : Below w.heap.size w (oneWorld (oneWorld w 97) 99) := hb1.trans (hb2.mono hb1.size)
  have hnew := heap_new (oneWorld (oneWorld w 97) 99) (.cells #[.slice (some ⟨w.heap.size, 0, none⟩) 1 1, .slice none 0 0, .slice (some ⟨(oneWorld w 97).heap.size, 0, none⟩) 1 1, .slice none 0 0] 39)
  have hb3 := (Below.refl _ (oneWorld (oneWorld w 97) 99)).alloc (Nat.le_refl _) (.cells #[.slice (some ⟨w.heap.size, 0, none⟩) 1 1, .slice none 0 0, .slice (some ⟨(oneWorld w 97).heap.size, 0, none⟩) 1 1, .slice none 0 0] 39)
  have hbw3 := hbw2.trans (hb3.mono hbw2.size)
  have hL : LIn (fun _ => True) ((oneWorld (oneWorld w 97) 99).alloc (.cells #[.slice (some ⟨w.heap.size, 0, none⟩) 1 1, .slice none 0 0, .slice (some ⟨(oneWorld w 97).heap.size, 0, none⟩) 1 1, .slice none 0 0] 39)) (some ⟨(oneWorld (oneWorld w 97) 99).heap.size, 0, none⟩) 2 [([97], []), ([99], [])] :=
    ⟨rfl, fun _ => ⟨_, 0, rfl, (Array.getElem?_eq_some_iff.1 hnew).1, trivial, fun j hj => by
      rcases (by omega : j = 0 ∨ j = 1) with rfl | rfl
      · exact ⟨_, _, cell_of_row _ _ 0 _ _ _ hnew, cell_of_row _ _ 1 _ _ _ hnew, ((hp97.below hb2).below hb3).imp (fun _ _ _ => trivial), BIn.nil _ _⟩
      · exact ⟨_, _, cell_of_row _ _ 2 _ _ _ hnew, cell_of_row _ _ 3 _ _ _ hnew, (hp99.below hb3).imp (fun _ _ _ => trivial), BIn.nil _ _⟩⟩⟩
  have HFR := Lib.hid (from_any 2 _ _ 2 _ hL (by omega) (by omega))
  have HB3 := Lib.hid hbw3
  clear hp97 hp99 hb1 hb2 hbw2 hnew hb3 hbw3 hL
  refine HFR.out.mono ?_
  rintro e w4 ⟨u, T, rfl, t1, t2, t3, t4⟩
  obtain ⟨u, rfl⟩ := t3.ptr
  have hasc : Asc T.list := by rw [t1]; simp [Asc, Lib.compareBytes]
  have hsz : T.size = 2 := PT.size_of t1
  have hlt : T.belowT (fun k => decide (cmp k [98] = -1)) = 1 := by
    rw [below_plain T _ hasc (fun a b h1 h2 => decide_eq_true (cmp_lt_trans _ _ _ h1 (of_decide_eq_true h2))), t1]; decide
  have hle : T.belowT (fun k => decide (cmp k [98] ≠ 1)) = 1 := by
    rw [below_plain T _ hasc (fun a b h1 h2 => ?_), t1]
    · decide
    · have h3 := of_decide_eq_true h2
      refine decide_eq_true fun h4 => ?_
      have h5 := cmp_gt h4
      exact h3 (by rw [cmp_neg, cmp_lt_trans _ _ _ h5 h1]; rfl)
  have HT : Hid (T.list = [([97], []), ([99], [])] ∧ T.even ∧ TIn (fun _ => True) w4 (.pointer u) T ∧ Below w.heap.size w w4 ∧ T.size = 2 ∧ T.belowT (fun k => decide (cmp k [98] = -1)) = 1 ∧ T.belowT (fun k => decide (cmp k [98] ≠ 1)) = 1) :=
    ⟨t1, t2, t3.imp (fun _ _ _ => trivial), HB3.out.trans (t4.mono HB3.out.size), hsz, hlt, hle⟩
  clear t1 t2 t3 t4 hasc hsz hlt hle HFR
  have HB5 : Hid (Below w.heap.size w (oneWorld w4 98)) := HT.out.2.2.2.1.trans ((one_below w4 98).mono HT.out.2.2.2.1.size)
  have hfl := floor_any (S := fun _ => True) (S' := New w4.heap.size) T (.pointer u) (.slice (some ⟨w4.heap.size, 0, none⟩) 1 1) [98] (oneWorld w4 98) (HT.out.2.2.1.below (one_below w4 98)) (one_in w4 98) (by have := HT.out.2.2.2.2.1; omega)
  rw [HT.out.2.2.2.2.2.2] at hfl
  have HFL := Lib.hid hfl
  clear hfl
  go_wp2_with fail
  refine HFL.out.mono ?_
  rintro e w5 hr
  obtain ⟨A1, n1, c1, A2, n2, c2, rfl, k1, x1, b1⟩ := hr.parts (by rw [HT.out.1]; decide)
  rw [HT.out.1] at k1 x1
  have HB6 : Hid (Below w.heap.size w w5) := HB5.out.trans (b1.mono HB5.out.size)
  have HT5 : Hid (TIn (fun _ => True) w5 (.pointer u) T) := (HT.out.2.2.1.below (one_below w4 98)).below b1
  have HK1 : Hid (BIn (fun _ => True) w5 (.slice A1 n1 c1) [97]) := k1.imp (fun _ _ _ => trivial)
  clear hr k1 x1 b1 HFL
  have hbx : Below w5.heap.size w5 (w5.alloc (.cells #[.slice A1 n1 c1, .slice A2 n2 c2] 39)) := (Below.refl _ _).alloc (Nat.le_refl _) _
  have hb6 : Two (w5.alloc (.cells #[.slice A1 n1 c1, .slice A2 n2 c2] 39)) w5.heap.size (.slice A1 n1 c1) (.slice A2 n2 c2) := heap_new w5 _
  go_upto_region 3 with fail
  have hlt5 : w5.heap.size < (w5.alloc (.cells #[.slice A1 n1 c1, .slice A2 n2 c2] 39)).heap.size := by simp
  generalize w5.alloc (.cells #[.slice A1 n1 c1, .slice A2 n2 c2] 39) = X at *
  have HX : Hid (Below w.heap.size w X ∧ TIn (fun _ => True) X (.pointer u) T ∧ BIn (fun _ => True) X (.slice A1 n1 c1) [97] ∧ Two X w5.heap.size (.slice A1 n1 c1) (.slice A2 n2 c2) ∧ w5.heap.size < X.heap.size) := ⟨HB6.out.trans (hbx.mono HB6.out.size), HT5.out.below hbx, HK1.out.below hbx, hb6, hlt5⟩
  have hce := ceil_any (S := fun _ => True) (S' := New X.heap.size) T (.pointer u) (.slice (some ⟨X.heap.size, 0, none⟩) 1 1) [98] (oneWorld X 98) (HX.out.2.1.below (one_below X 98)) (one_in X 98) (by have := HT.out.2.2.2.2.1; omega)
  rw [HT.out.2.2.2.2.2.1] at hce
  have HCE := Lib.hid hce
  clear hce hbx hb6 hlt5
  go_wp2_with fail
  refine HCE.out.mono ?_
  rintro e w7 hr
  obtain ⟨A3, n3, c3, A4, n4, c4, rfl, k1, x1, b1⟩ := hr.parts (by rw [HT.out.1]; decide)
  rw [HT.out.1] at k1
  have hb7 : Below X.heap.size X w7 := (one_below X 98).trans (b1.mono (one_below X 98).size)
  have hbx : Below w7.heap.size w7 (w7.alloc (.cells #[.slice A3 n3 c3, .slice A4 n4 c4] 39)) := (Below.refl _ _).alloc (Nat.le_refl _) _
  have hb8 : Two (w7.alloc (.cells #[.slice A3 n3 c3, .slice A4 n4 c4] 39)) w7.heap.size (.slice A3 n3 c3) (.slice A4 n4 c4) := heap_new w7 _
  have hlt7 : w7.heap.size < (w7.alloc (.cells #[.slice A3 n3 c3, .slice A4 n4 c4] 39)).heap.size := by simp
  go_upto_region 4 with fail
  generalize w7.alloc (.cells #[.slice A3 n3 c3, .slice A4 n4 c4] 39) = Y at *
  have hXY := hb7.trans (hbx.mono hb7.size)
  have HY : Hid (Below w.heap.size w Y ∧ TIn (fun _ => True) Y (.pointer u) T ∧ BIn (fun _ => True) Y (.slice A1 n1 c1) [97] ∧ BIn (fun _ => True) Y (.slice A3 n3 c3) [99] ∧ Two Y w5.heap.size (.slice A1 n1 c1) (.slice A2 n2 c2) ∧ Two Y w7.heap.size (.slice A3 n3 c3) (.slice A4 n4 c4) ∧ w5.heap.size < Y.heap.size ∧ w7.heap.size < Y.heap.size) :=
    ⟨HX.out.1.trans (hXY.mono HX.out.1.size), HX.out.2.1.below hXY, HX.out.2.2.1.below hXY, (k1.below hbx).imp (fun _ _ _ => trivial), HX.out.2.2.2.1.below hXY HX.out.2.2.2.2, hb8, Nat.lt_of_lt_of_le HX.out.2.2.2.2 hXY.size, hlt7⟩
  have hrk := rank_any (S := fun _ => True) (S' := New Y.heap.size) T (.pointer u) (.slice (some ⟨Y.heap.size, 0, none⟩) 1 1) [98] (oneWorld Y 98) (HY.out.2.1.below (one_below Y 98)) (one_in Y 98) (by have := HT.out.2.2.2.2.1; omega)
  rw [HT.out.2.2.2.2.2.1] at hrk
  have HRK := Lib.hid hrk
  clear hr k1 x1 b1 hb7 hbx hb8 hlt7 hXY hrk HCE
  go_wp2_with fail
  refine HRK.out.mono ?_
  rintro e w9 ⟨rfl, hb9⟩
  have hY9 := (one_below Y 98).trans (hb9.mono (one_below Y 98).size)
  obtain ⟨p0, p1⟩ := (HY.out.2.2.2.2.1.below hY9 HY.out.2.2.2.2.2.2.1).cells
  obtain ⟨q0, q1⟩ := (HY.out.2.2.2.2.2.1.below hY9 HY.out.2.2.2.2.2.2.2).cells
  have hv0a := conv_bytes (HY.out.2.2.1.below hY9)
  have hv1a := conv_bytes (HY.out.2.2.2.1.below hY9)
  have hv0 : Sem.run Try.prog (convert 27 9 (Value.slice A1 n1 c1)) w9 = Result.ok (Value.string ⟨#[97]⟩) w9 := hv0a
  have hv1 : Sem.run Try.prog (convert 27 9 (Value.slice A3 n3 c3)) w9 = Result.ok (Value.string ⟨#[99]⟩) w9 := hv1a
  have ht0 : (ByteArray.mk #[97]).toList = [97] := by rw [ByteArray.toList_eq]
  have ht1 : (ByteArray.mk #[99]).toList = [99] := by rw [ByteArray.toList_eq]
  have HB9 : Hid (Below w.heap.size w w9) := HY.out.1.trans (hY9.mono HY.out.1.size)
  clear hv0a hv1a hb9 hY9
  go_wp2_with fail
  go_ret
  exact ⟨rfl, HB9.out⟩

end Go.Proofs.Ytlnlgahokifolaa
