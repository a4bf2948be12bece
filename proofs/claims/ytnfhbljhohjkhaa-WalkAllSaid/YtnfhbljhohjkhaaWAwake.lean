/- law15: awake. -/
import Derived.Test.YtnfhbljhohjkhaaWMove
set_option linter.unusedVariables false
set_option linter.unusedSimpArgs false
namespace Go.Proofs.Ytnfhbljhohjkhaa
open Go.RowKit

/-- A move that tells a pair, and one that tells none. -/
def MoveY (X w w' : World) (e : Ending) (g : Nat) (tu : Option Addr) (T : PT) (k' : Nat) (k x : Bytes) : Prop :=
  ∃ A n c A' n' c', e = .returned (.tuple #[.agg #[.slice A n c, .slice A' n' c'], .bool true]) ∧ Hid (PIn (New w.heap.size) w' (.agg #[.slice A n c, .slice A' n' c']) k x ∧ Kept (some g) w w' ∧ CI X w' g tu T k')
def MoveN (X w w' : World) (e : Ending) (g : Nat) (tu : Option Addr) (T : PT) (k' : Nat) : Prop :=
  ∃ A n c A' n' c', e = .returned (.tuple #[.agg #[.slice A n c, .slice A' n' c'], .bool false]) ∧ Hid (PIn (New w.heap.size) w' (.agg #[.slice A n c, .slice A' n' c']) [] [] ∧ Kept (some g) w w' ∧ CI X w' g tu T k')
theorem next_yes {X w : World} {g k : Nat} {tu : Option Addr} {T : PT} (h : CI X w g tu T k) (hk : k < T.list.length) : Calls Try.prog 44 #[.pointer (some ⟨g, 0, none⟩)] w fun e w' => MoveY X w w' e g tu T (k + 1) (T.list.getD k ([], [])).1 (T.list.getD k ([], [])).2 :=
  (next_ci h).mono fun e w' ⟨A, n, c, A', n', c', he, hp⟩ => by
    have hd : (0 : Int) ≤ (k : Int) ∧ (k : Int) < (T.list.length : Int) := by omega
    have hp := hp.out
    rw [if_pos hd, if_pos hk, Int.toNat_natCast] at hp
    exact ⟨A, n, c, A', n', c', by rw [he, decide_eq_true hd], hp⟩
theorem next_no {X w : World} {g k : Nat} {tu : Option Addr} {T : PT} (h : CI X w g tu T k) (hk : ¬ k < T.list.length) : Calls Try.prog 44 #[.pointer (some ⟨g, 0, none⟩)] w fun e w' => MoveN X w w' e g tu T k :=
  (next_ci h).mono fun e w' ⟨A, n, c, A', n', c', he, hp⟩ => by
    have hd : ¬ ((0 : Int) ≤ (k : Int) ∧ (k : Int) < (T.list.length : Int)) := by omega
    have hp := hp.out
    rw [if_neg hd, if_neg hk] at hp
    exact ⟨A, n, c, A', n', c', by rw [he, decide_eq_false hd], hp⟩
theorem back_yes {X w : World} {g k : Nat} {tu : Option Addr} {T : PT} (h : CI X w g tu T k) (hk : 0 < k) : Calls Try.prog 46 #[.pointer (some ⟨g, 0, none⟩)] w fun e w' => MoveY X w w' e g tu T (k - 1) (T.list.getD (k - 1) ([], [])).1 (T.list.getD (k - 1) ([], [])).2 :=
  (back_ci h).mono fun e w' ⟨A, n, c, A', n', c', he, hp⟩ => by
    have hle := h.le
    have hd : (0 : Int) ≤ (k : Int) - 1 ∧ (k : Int) - 1 < (T.list.length : Int) := by omega
    have hp := hp.out
    rw [if_pos hd, show ((k : Int) - 1).toNat = k - 1 by omega] at hp
    exact ⟨A, n, c, A', n', c', by rw [he, decide_eq_true hd], hp⟩
theorem back_no {X w : World} {g k : Nat} {tu : Option Addr} {T : PT} (h : CI X w g tu T k) (hk : ¬ 0 < k) : Calls Try.prog 46 #[.pointer (some ⟨g, 0, none⟩)] w fun e w' => MoveN X w w' e g tu T k :=
  (back_ci h).mono fun e w' ⟨A, n, c, A', n', c', he, hp⟩ => by
    have hd : ¬ ((0 : Int) ≤ (k : Int) - 1 ∧ (k : Int) - 1 < (T.list.length : Int)) := by omega
    have hp := hp.out
    rw [if_neg hd] at hp
    rw [show k - 1 = k by omega] at hp
    exact ⟨A, n, c, A', n', c', by rw [he, decide_eq_false hd], hp⟩

/-- A pair in a box, whatever a cursor does since. -/
theorem boxed_pair {g n : Nat} {w : World} {A A' : Option Addr} {m c m' c' : Nat} {k x : Bytes} (hp : PIn (New n) w (.agg #[.slice A m c, .slice A' m' c']) k x) (hg : g < n) (hn : n ≤ w.heap.size) :
    ∀ W, Kept (some g) (w.alloc (.cells #[.slice A m c, .slice A' m' c'] 40)) W → Two W w.heap.size (.slice A m c) (.slice A' m' c') ∧ PIn (New n) W (.agg #[.slice A m c, .slice A' m' c']) k x := fun W hW => by
  have hb : Below w.heap.size w (w.alloc (.cells #[.slice A m c, .slice A' m' c'] 40)) := (Below.refl _ _).alloc (Nat.le_refl _) _
  have hnew : Two (w.alloc (.cells #[.slice A m c, .slice A' m' c'] 40)) w.heap.size (.slice A m c) (.slice A' m' c') := heap_new w _
  refine ⟨(hW.block w.heap.size (by simp) (by intro e; injection e with e; omega)).trans hnew, (PIn.below hp hb).kept hW fun b hb e => ?_⟩
  injection e with e; subst e
  exact absurd (show n ≤ g from hb) (by omega)

theorem at_cur {X W : World} {g : Nat} {u : Option Addr} {T : PT} (h : Cur W g (.pointer u) (0 : Nat)) (hX : Below X.heap.size X W) (hg : g = X.heap.size) (hT : TIn (fun _ => True) X (.pointer u) T) (hsz : T.size ≤ 100000) : CI W W g u T 0 :=
  ⟨(hT.imp (fun b hb _ => by rw [hg]; exact hb)).below hX, h, Kept.refl _ _, Nat.zero_le _, hsz⟩

set_option maxRecDepth 100000 in
set_option maxHeartbeats 6400000 in
theorem awake15_any (w : World) : Calls Try.prog 41 #[] w fun e w' => e = .returned (.bool true) ∧ Below w.heap.size w w' := by
  have hc97 := fun w => conv_one w 97
  have hc98 := fun w => conv_one w 98
  have hp1 := one_in w 97
  have hp2 := one_in (oneWorld w 97) 98
  have hb1 := one_below w 97
  have hb2 := one_below (oneWorld w 97) 98
  have hbw : Below w.heap.size w (oneWorld (oneWorld w 97) 98) := hb1.trans (hb2.mono hb1.size)
  have HW : Hid (Below w.heap.size w (oneWorld (oneWorld w 97) 98) ∧
      BIn (fun _ => True) (oneWorld (oneWorld w 97) 98) (.slice (some ⟨w.heap.size, 0, none⟩) 1 1) [97] ∧ BIn (fun _ => True) (oneWorld (oneWorld w 97) 98) (.slice (some ⟨(oneWorld w 97).heap.size, 0, none⟩) 1 1) [98]) :=
    ⟨hbw, (hp1.below hb2).imp (fun _ _ _ => trivial), hp2.imp (fun _ _ _ => trivial)⟩
  clear hp1 hp2 hb1 hb2 hbw
  go_enter Try.func41, Try.ntmps41
  go_wp2_with fail
  generalize (oneWorld w 97).heap.size = b2 at *
  generalize oneWorld (oneWorld w 97) 98 = V at *
  have hnew := heap_new V (.cells #[.slice (some ⟨w.heap.size, 0, none⟩) 1 1, .slice none 0 0, .slice (some ⟨b2, 0, none⟩) 1 1, .slice none 0 0] 40)
  have hb5 := (Below.refl _ V).alloc (Nat.le_refl _) (.cells #[.slice (some ⟨w.heap.size, 0, none⟩) 1 1, .slice none 0 0, .slice (some ⟨b2, 0, none⟩) 1 1, .slice none 0 0] 40)
  have hL : LIn (fun _ => True) (V.alloc (.cells #[.slice (some ⟨w.heap.size, 0, none⟩) 1 1, .slice none 0 0, .slice (some ⟨b2, 0, none⟩) 1 1, .slice none 0 0] 40)) (some ⟨V.heap.size, 0, none⟩) 2 [([97], []), ([98], [])] :=
    ⟨rfl, fun _ => ⟨_, 0, rfl, (Array.getElem?_eq_some_iff.1 hnew).1, trivial, fun j hj => by
      rcases (by omega : j = 0 ∨ j = 1) with rfl | rfl
      · exact ⟨_, _, cell_of_row _ _ 0 _ _ _ hnew, cell_of_row _ _ 1 _ _ _ hnew, HW.out.2.1.below hb5, BIn.nil _ _⟩
      · exact ⟨_, _, cell_of_row _ _ 2 _ _ _ hnew, cell_of_row _ _ 3 _ _ _ hnew, HW.out.2.2.below hb5, BIn.nil _ _⟩⟩⟩
  have HFR := Lib.hid (from_any 2 _ _ 2 _ hL (by omega) (by omega))
  have HB5 := Lib.hid (HW.out.1.alloc HW.out.1.size (.cells #[.slice (some ⟨w.heap.size, 0, none⟩) 1 1, .slice none 0 0, .slice (some ⟨b2, 0, none⟩) 1 1, .slice none 0 0] 40))
  clear hnew hb5 hL
  refine HFR.out.mono ?_
  rintro e w4 ⟨u, T, rfl, t1, t2, t3, t4⟩
  obtain ⟨u, rfl⟩ := t3.ptr
  have hsz : T.size = 2 := PT.size_of t1
  have HL : Hid (T.list = [([97], []), ([98], [])]) := t1
  have HB4 : Hid (Below w.heap.size w w4) := HB5.out.trans (t4.mono HB5.out.size)
  have HT4 : Hid (TIn (fun _ => True) w4 (.pointer u) T) := t3.imp (fun _ _ _ => trivial)
  have HWA := Lib.hid (wat_any T (.pointer u) 0 w4 t3 (by omega))
  have hle : T.size ≤ 2 := by omega
  clear t1 t2 t3 t4 HFR hsz
  go_wp2_with fail
  refine HWA.out.mono ?_
  rintro e w5 ⟨rfl, h5⟩
  have hh : heldN 0 T.size = 0 := by unfold heldN; split; rfl; split; omega; rfl
  have HC5 : Hid (CI w5 w5 w4.heap.size u T 0) := at_cur (by have := h5.out.1; rw [hh] at this; exact this) h5.out.2.1 rfl HT4.out (by omega)
  have HG5 : Hid (w4.heap.size < w5.heap.size ∧ Below w.heap.size w w5 ∧ w.heap.size ≤ w4.heap.size) := ⟨h5.out.2.2, HB4.out.trans (h5.out.2.1.mono HB4.out.size), HB4.out.size⟩
  clear hh h5 HWA HT4 HB4
  generalize w4.heap.size = g at *
  have HN1 := Lib.hid (next_yes HC5.out (by rw [HL.out]; decide))
  go_wp2_with fail
  refine HN1.out.mono ?_
  rintro e w6 ⟨A1, n1, c1, A2, n2, c2, rfl, h6⟩
  have hp6 := h6.out.1
  rw [HL.out] at hp6
  have HQ := Lib.hid (boxed_pair hp6 HG5.out.1 h6.out.2.1.size)
  have hbn : Below w6.heap.size w6 (w6.alloc (.cells #[.slice A1 n1 c1, .slice A2 n2 c2] 40)) := (Below.refl _ _).alloc (Nat.le_refl _) _
  have HC6 := Lib.hid (h6.out.2.2.below hbn)
  have HK6 : Hid (Kept (some g) w5 (w6.alloc (.cells #[.slice A1 n1 c1, .slice A2 n2 c2] 40)) ∧ w5.heap.size ≤ w6.heap.size) := ⟨h6.out.2.1.trans (Kept.of hbn), h6.out.2.1.size⟩
  have HN2 := Lib.hid (next_yes HC6.out (by rw [HL.out]; decide))
  clear hp6 hbn h6 HN1
  go_wp2_with fail
  refine HN2.out.mono ?_
  rintro e w7 ⟨A3, n3, c3, A4, n4, c4, rfl, h7⟩
  have HC7 := Lib.hid h7.out.2.2
  have HK7 : Hid (Kept (some g) (w6.alloc (.cells #[.slice A1 n1 c1, .slice A2 n2 c2] 40)) w7) := h7.out.2.1
  have HN3 := Lib.hid (next_no HC7.out (by rw [HL.out]; decide))
  clear h7 HN2
  go_wp2_with fail
  refine HN3.out.mono ?_
  rintro e w8 ⟨A5, n5, c5, A6, n6, c6, rfl, h8⟩
  have hbn : Below w8.heap.size w8 (w8.alloc (.cells #[.slice A5 n5 c5, .slice A6 n6 c6] 40)) := (Below.refl _ _).alloc (Nat.le_refl _) _
  have HC8 := Lib.hid (h8.out.2.2.below hbn)
  have HK8 : Hid (Kept (some g) (w6.alloc (.cells #[.slice A1 n1 c1, .slice A2 n2 c2] 40)) (w8.alloc (.cells #[.slice A5 n5 c5, .slice A6 n6 c6] 40))) := (HK7.out.trans h8.out.2.1).trans (Kept.of hbn)
  have HN4 := Lib.hid (back_yes HC8.out (by decide))
  clear hbn h8 HN3
  go_wp2_with fail
  refine HN4.out.mono ?_
  rintro e w9 ⟨A7, n7, c7, A8, n8, c8, rfl, h9⟩
  have hp9 := h9.out.1
  rw [HL.out] at hp9
  have hg8 : g < (w8.alloc (.cells #[.slice A5 n5 c5, .slice A6 n6 c6] 40)).heap.size := by have h1 := HG5.out.1; have h2 := HK6.out.1.size; have h3 := HK8.out.size; omega
  have hq9 := boxed_pair hp9 hg8 h9.out.2.1.size
  have hbn : Below w9.heap.size w9 (w9.alloc (.cells #[.slice A7 n7 c7, .slice A8 n8 c8] 40)) := (Below.refl _ _).alloc (Nat.le_refl _) _
  have HC9 := Lib.hid (h9.out.2.2.below hbn)
  have HK9 : Hid (Kept (some g) (w6.alloc (.cells #[.slice A1 n1 c1, .slice A2 n2 c2] 40)) (w9.alloc (.cells #[.slice A7 n7 c7, .slice A8 n8 c8] 40))) := (HK8.out.trans h9.out.2.1).trans (Kept.of hbn)
  have HQ9 := Lib.hid (hq9 _ (Kept.refl _ _))
  have HQ1 := Lib.hid (HQ.out _ HK9.out)
  have HFIN : Hid (Below w.heap.size w (w9.alloc (.cells #[.slice A7 n7 c7, .slice A8 n8 c8] 40))) := Kept.over HG5.out.2.1 HG5.out.2.2 (HK6.out.1.trans HK9.out)
  clear hp9 hg8 hq9 hbn h9 HN4 HQ HK8
  obtain ⟨d0, d1⟩ := HQ1.out.1.cells
  obtain ⟨e0, e1⟩ := HQ9.out.1.cells
  have hv0 := conv_bytes HQ1.out.2.kx.1
  have hv1 := conv_bytes HQ9.out.2.kx.1
  have hv2 : Sem.run Try.prog (convert 23 9 (Value.slice A1 n1 c1)) (w9.alloc (.cells #[.slice A7 n7 c7, .slice A8 n8 c8] 40)) = Result.ok (Value.string ⟨#[97]⟩) (w9.alloc (.cells #[.slice A7 n7 c7, .slice A8 n8 c8] 40)) := hv0
  have hv3 : Sem.run Try.prog (convert 23 9 (Value.slice A7 n7 c7)) (w9.alloc (.cells #[.slice A7 n7 c7, .slice A8 n8 c8] 40)) = Result.ok (Value.string ⟨#[98]⟩) (w9.alloc (.cells #[.slice A7 n7 c7, .slice A8 n8 c8] 40)) := hv1
  have ht0 : (ByteArray.mk #[97]).toList = [97] := by rw [ByteArray.toList_eq]
  have ht1 : (ByteArray.mk #[98]).toList = [98] := by rw [ByteArray.toList_eq]
  have HPL := Lib.hid (place_any _ g (.pointer u) _ HC9.out.cur)
  clear hv0 hv1
  go_upto_region 8 with fail
  generalize w9.alloc (.cells #[.slice A7 n7 c7, .slice A8 n8 c8] 40) = Z at *
  go_wp2_with fail
  refine HPL.out.mono ?_
  rintro e wz ⟨rfl, rfl⟩
  go_wp2_with fail
  go_ret
  exact ⟨rfl, HFIN.out⟩

end Go.Proofs.Ytnfhbljhohjkhaa
