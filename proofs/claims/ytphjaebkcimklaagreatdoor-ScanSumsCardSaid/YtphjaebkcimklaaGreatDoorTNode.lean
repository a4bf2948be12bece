/- Contracts: own, node, Root, the meter's Visit and Compare. -/
import Derived.Test.YtphjaebkcimklaaGreatDoorTMem
set_option linter.unusedVariables false
set_option linter.unusedSimpArgs false
namespace Go.Proofs.YtphjaebkcimklaaGreatDoor
open Go.RowKit

/-- A pair lies in a block. -/
def Two (W : World) (b : Nat) (u v : Value) : Prop := W.heap[b]? = some (.cells #[u, v] 60 (0, 0))
theorem Two.cells {W : World} {b : Nat} {u v : Value} (h : Two W b u v) : W.cell? ⟨b, 0, none⟩ = some u ∧ W.cell? ⟨b, 1, none⟩ = some v := ⟨cell_of_row W b 0 _ _ _ h, cell_of_row W b 1 _ _ _ h⟩
theorem Two.lt {W : World} {b : Nat} {u v : Value} (h : Two W b u v) : b < W.heap.size := (Array.getElem?_eq_some_iff.1 h).1
theorem Two.below {W W' : World} {b n : Nat} {u v : Value} (h : Two W b u v) (hb : Below n W W') (hn : b < n) : Two W' b u v := (hb.block b hn).trans h
theorem Two.set {W : World} {b : Nat} {u v : Value} (h : Two W b u v) (x y : Value) : Two ((W.setCell ⟨b, 0, none⟩ x).setCell ⟨b, 1, none⟩ y) b x y := by
  simp [Two, World.setCell, Array.getElem?_modify, show W.heap[b]? = _ from h]

theorem BIn.set2 {W : World} {v : Value} {l : Bytes} {n b : Nat} (h : BIn (New n) W v l) (hb : b < n) (x y : Value) : BIn (New n) ((W.setCell ⟨b, 0, none⟩ x).setCell ⟨b, 1, none⟩ y) v l :=
  h.carry (by simp) fun b' hb' _ => by
    have hne : b' ≠ b := by intro e; subst e; exact absurd (show n ≤ b' from hb') (by omega)
    rw [heap_setCell_other _ _ _ _ (by simpa using hne), heap_setCell_other _ _ _ _ (by simpa using hne)]

set_option maxHeartbeats 3200000 in
theorem own_any {S : Nat → Prop} (v : Value) (k x : Bytes) (w : World) (h : PIn S w v k x) :
    Calls Tryz.prog 78 #[v] w fun e w' => ∃ u, e = .returned u ∧ PIn (New w.heap.size) w' u k x ∧ Below w.heap.size w w' := by
  obtain ⟨kv, xv, rfl, hk, hx⟩ := h
  obtain ⟨A, n, c, rfl, hk0⟩ := id hk
  obtain ⟨A', n', c', rfl, hx0⟩ := id hx
  clear hk0 hx0
  have h0 : Two ((w.alloc (.cells #[.slice A n c, .slice A' n' c'] 60)).alloc (.cells #[.slice none 0 0, .slice none 0 0] 60)) w.heap.size (.slice A n c) (.slice A' n' c') := heap_old _ (heap_new w _)
  have h1 : Two ((w.alloc (.cells #[.slice A n c, .slice A' n' c'] 60)).alloc (.cells #[.slice none 0 0, .slice none 0 0] 60)) (w.heap.size + 1) (.slice none 0 0) (.slice none 0 0) := by
    have := heap_new (w.alloc (.cells #[.slice A n c, .slice A' n' c'] 60)) (.cells #[.slice none 0 0, .slice none 0 0] 60)
    rw [World.size_alloc] at this
    exact this
  have hb := ((Below.refl _ w).alloc (Nat.le_refl _) (.cells #[.slice A n c, .slice A' n' c'] 60)).alloc (by simp) (.cells #[.slice none 0 0, .slice none 0 0] 60)
  have hk1 := hk.below hb
  have hx1 := hx.below hb
  have H0 := Lib.hid h0
  have H1 := Lib.hid h1
  have HB := Lib.hid hb
  have HK := Lib.hid hk1
  have HX := Lib.hid hx1
  clear h0 h1 hb hk1 hx1 hk hx
  go_enter Tryz.func78, Tryz.ntmps78
  go_wp2_with fail
  obtain ⟨c0, c1⟩ := H0.out.cells
  generalize (w.alloc (.cells #[.slice A n c, .slice A' n' c'] 60)).alloc (.cells #[.slice none 0 0, .slice none 0 0] 60) = X at *
  go_region_held3 (fun w' => w'.cell? ⟨w.heap.size, 0, none⟩ = some (.slice A n c) ∧ w'.cell? ⟨w.heap.size, 1, none⟩ = some (.slice A' n' c'))
    (first | with_reducible exact ⟨c0, c1⟩ | with_reducible exact K0.out.cells | with_reducible exact L0.out.cells | go_keep)
    (first
      | (go_at_call 41; (with_reducible refine (clone_any (.slice A n c) k _ (HK.out.below (below_drew2 (Below.refl _ _)))).mono ?_); rintro e wa ⟨A1, n1, c1, rfl, hB1, hb1⟩; have K0 : Hid (Two wa w.heap.size (.slice A n c) (.slice A' n' c')) := H0.out.below (below_drew1 hb1) H0.out.lt; have K1 : Hid (Two wa (w.heap.size + 1) (.slice none 0 0) (.slice none 0 0)) := H1.out.below (below_drew1 hb1) H1.out.lt; have KB : Hid (Below w.heap.size w wa) := HB.out.trans ((below_drew1 hb1).mono HB.out.size); have KX : Hid (BIn S wa (.slice A' n' c') x) := HX.out.below (below_drew1 hb1); have KK : Hid (BIn (New X.heap.size) wa (.slice A1 n1 c1) k) := hB1; have KS : Hid (X.heap.size ≤ wa.heap.size) := hb1.size; clear hB1 hb1)
      | (go_at_call 41; (with_reducible refine (clone_any (.slice A' n' c') x _ KX.out).mono ?_); rintro e wb ⟨A2, n2, c2, rfl, hB2, hb2⟩; have L0 : Hid (Two wb w.heap.size (.slice A n c) (.slice A' n' c')) := K0.out.below hb2 K0.out.lt; have L1 : Hid (Two wb (w.heap.size + 1) (.slice none 0 0) (.slice none 0 0)) := K1.out.below hb2 K1.out.lt; have LB : Hid (Below w.heap.size w wb) := KB.out.trans (hb2.mono KB.out.size); have LK : Hid (BIn (New X.heap.size) wb (.slice A1 n1 c1) k) := KK.out.below hb2; have LX : Hid (BIn (New X.heap.size) wb (.slice A2 n2 c2) x) := hB2.imp (fun b _ hb => Nat.le_trans KS.out hb); clear hB2 hb2; obtain ⟨z0, z1⟩ := L1.out.cells; have f0 := frozen_of_row _ _ 0 _ _ L1.out; have f1 := frozen_of_row _ _ 1 _ _ L1.out))
  have hfin := L1.out.set (.slice A1 n1 c1) (.slice A2 n2 c2)
  have h1lt := H1.out.lt
  have hres : PIn (New w.heap.size) ((wb.setCell ⟨w.heap.size + 1, 0, none⟩ (.slice A1 n1 c1)).setCell ⟨w.heap.size + 1, 1, none⟩ (.slice A2 n2 c2)) (.agg #[.slice A1 n1 c1, .slice A2 n2 c2]) k x :=
    ⟨_, _, rfl, (LK.out.set2 h1lt _ _).imp fun b _ hb => Nat.le_trans HB.out.size hb, (LX.out.set2 h1lt _ _).imp fun b _ hb => Nat.le_trans HB.out.size hb⟩
  have hbel := (LB.out.setCell (p := ⟨w.heap.size + 1, 0, none⟩) (by simp) (.slice A1 n1 c1)).setCell (p := ⟨w.heap.size + 1, 1, none⟩) (by simp) (.slice A2 n2 c2)
  have HF := Lib.hid hfin
  have HR := Lib.hid hres
  have HL := Lib.hid hbel
  clear hfin hres hbel
  go_wp2_with fail
  exact bodyPost_ret (results_cell_row rfl _ _ (w.heap.size + 1) 60 _ (0, 0) _ (by rfl) HF.out Tryz.underlying60 rfl info39) rfl ⟨_, rfl, HR.out, HL.out⟩

theorem TIn.ptr {S : Nat → Prop} {w : World} {v : Value} {T : PT} (h : TIn S w v T) : ∃ u, v = .pointer u := by
  cases T with
  | nil => exact ⟨none, h⟩
  | node l k x r => obtain ⟨b, kv, xv, lv, rv, e, _⟩ := h; exact ⟨_, e⟩
theorem BIn.slice {S : Nat → Prop} {w : World} {v : Value} {l : Bytes} (h : BIn S w v l) : ∃ A n c, v = .slice A n c := by
  obtain ⟨A, n, c, e, _⟩ := h; exact ⟨A, n, c, e⟩
theorem i64_small {x : Int} (h : -9223372036854775808 ≤ x ∧ x < 9223372036854775808) : IntKind.i64.wrap x = x := by
  rw [IntKind.wrap_i64]; omega

set_option maxHeartbeats 3200000 in
theorem node_any {S : Nat → Prop} (lv pv rv : Value) (l r : PT) (k x : Bytes) (w : World) (hl : TIn S w lv l) (hp : PIn S w pv k x) (hr : TIn S w rv r) (hn : l.size + 1 + r.size ≤ 1000000) :
    Calls Tryz.prog 77 #[lv, pv, rv] w fun e w' => ∃ b, e = .returned (.pointer (some b)) ∧ TIn (Up S w.heap.size) w' (.pointer (some b)) (.node l k x r) ∧ Below w.heap.size w w' := by
  obtain ⟨kv, xv, rfl, hk, hx⟩ := hp
  obtain ⟨lu, rfl⟩ := hl.ptr
  obtain ⟨ru, rfl⟩ := hr.ptr
  obtain ⟨A, n, c, rfl⟩ := hk.slice
  obtain ⟨A', n', c', rfl⟩ := hx.slice
  have h0 : Two (w.alloc (.cells #[.slice A n c, .slice A' n' c'] 60)) w.heap.size (.slice A n c) (.slice A' n' c') := heap_new w _
  have hb := (Below.refl _ w).alloc (Nat.le_refl _) (.cells #[.slice A n c, .slice A' n' c'] 60)
  have HL := Lib.hid (hl.below hb)
  have HR := Lib.hid (hr.below hb)
  have HK := Lib.hid (hk.below hb)
  have HX := Lib.hid (hx.below hb)
  have H0 := Lib.hid h0
  have HB := Lib.hid hb
  have w1 : IntKind.i64.wrap ((l.size : Int) + 1) = (l.size : Int) + 1 := i64_small (by omega)
  have w2 : IntKind.i64.wrap ((l.size : Int) + 1 + r.size) = ((l.size + 1 + r.size : Nat) : Int) := by rw [i64_small (by omega)]; simp
  clear h0 hb hl hr hk hx
  go_enter Tryz.func77, Tryz.ntmps77
  go_wp2_with fail
  obtain ⟨c0, c1⟩ := H0.out.cells
  have HS1 := Lib.hid (fun W (h : Below (w.alloc (.cells #[.slice A n c, .slice A' n' c'] 60)).heap.size (w.alloc (.cells #[.slice A n c, .slice A' n' c'] 60)) W) => tsize_any l (.pointer lu) W (HL.out.below h))
  have HS2 := Lib.hid (fun W (h : Below (w.alloc (.cells #[.slice A n c, .slice A' n' c'] 60)).heap.size (w.alloc (.cells #[.slice A n c, .slice A' n' c'] 60)) W) => tsize_any r (.pointer ru) W (HR.out.below h))
  generalize w.alloc (.cells #[.slice A n c, .slice A' n' c'] 60) = X at *
  go_region_held3 (fun w' => w'.cell? ⟨w.heap.size, 0, none⟩ = some (.slice A n c) ∧ w'.cell? ⟨w.heap.size, 1, none⟩ = some (.slice A' n' c'))
    (first | with_reducible exact ⟨c0, c1⟩ | go_keep)
    (first
      | (go_at_call 49; (with_reducible refine (HS1.out _ (below_drew2 (Below.refl _ _))).mono ?_); rintro e wa ⟨rfl, rfl⟩)
      | (go_at_call 49; (with_reducible refine (HS2.out _ (below_drew2 (Below.refl _ _))).mono ?_); rintro e wa ⟨rfl, rfl⟩))
  have hY := heap_new X (.cells #[.slice A n c, .slice A' n' c', .pointer lu, .pointer ru, .int .i64 ((l.size : Int) + 1 + r.size)] 129)
  have hbY : Below X.heap.size X (X.alloc (.cells #[.slice A n c, .slice A' n' c', .pointer lu, .pointer ru, .int .i64 ((l.size : Int) + 1 + r.size)] 129)).drew := below_drew2 ((Below.refl _ X).alloc (Nat.le_refl _) _)
  have hres : TIn (Up S w.heap.size) (X.alloc (.cells #[.slice A n c, .slice A' n' c', .pointer lu, .pointer ru, .int .i64 ((l.size : Int) + 1 + r.size)] 129)).drew (.pointer (some ⟨X.heap.size, 0, none⟩)) (.node l k x r) :=
    ⟨X.heap.size, .slice A n c, .slice A' n' c', .pointer lu, .pointer ru, rfl, .inr HB.out.size, by rw [show ((l.size + 1 + r.size : Nat) : Int) = (l.size : Int) + 1 + r.size by simp]; exact hY,
      (HK.out.below hbY).up _, (HX.out.below hbY).up _, (HL.out.below hbY).up _, (HR.out.below hbY).up _⟩
  have hbel := HB.out.trans (hbY.mono HB.out.size)
  have HRES := Lib.hid hres
  have HBEL := Lib.hid hbel
  clear hY hbY hres hbel
  go_wp2_with fail
  go_ret
  exact ⟨_, rfl, HRES.out, HBEL.out⟩

/-- The pair at a tree's root; no pair, if there is none. -/
def PT.root : PT → Bytes × Bytes
  | .nil => ([], [])
  | .node _ k x _ => (k, x)
theorem BIn.nil (S : Nat → Prop) (w : World) : BIn S w (.slice none 0 0) [] := ⟨none, 0, 0, rfl, ⟨Nat.le_refl _, by omega⟩, ⟨rfl, by omega, fun h => by omega⟩, fun b o h => by omega⟩

set_option maxHeartbeats 3200000 in
theorem root_any {S : Nat → Prop} (v : Value) (T : PT) (w : World) (h : TIn S w v T) :
    Calls Tryz.prog 86 #[v] w fun e w' => ∃ u, e = .returned u ∧ PIn (New w.heap.size) w' u T.root.1 T.root.2 ∧ Below w.heap.size w w' := by
  have h1 : Two (w.alloc (.cells #[.slice none 0 0, .slice none 0 0] 60)) w.heap.size (.slice none 0 0) (.slice none 0 0) := heap_new w _
  have hb := (Below.refl _ w).alloc (Nat.le_refl _) (.cells #[.slice none 0 0, .slice none 0 0] 60)
  cases T with
  | nil =>
    obtain rfl : v = .pointer none := h
    have H1 := Lib.hid h1
    have HB := Lib.hid hb
    have HF := Lib.hid (h1.set (.slice none 0 0) (.slice none 0 0))
    have HB2 := Lib.hid ((hb.setCell (p := ⟨w.heap.size, 0, none⟩) (Nat.le_refl _) (.slice none 0 0)).setCell (p := ⟨w.heap.size, 1, none⟩) (Nat.le_refl _) (.slice none 0 0))
    clear h1 hb
    go_enter Tryz.func86, Tryz.ntmps86
    go_wp2_with fail
    first
      | exact bodyPost_ret (results_cell_row rfl _ _ w.heap.size 60 _ (0, 0) _ (by rfl) HF.out Tryz.underlying60 rfl info39) rfl ⟨_, rfl, ⟨_, _, rfl, BIn.nil _ _, BIn.nil _ _⟩, HB2.out⟩
      | exact bodyPost_ret (results_cell_row rfl _ _ w.heap.size 60 _ (0, 0) _ (by rfl) H1.out Tryz.underlying60 rfl info39) rfl ⟨_, rfl, ⟨_, _, rfl, BIn.nil _ _, BIn.nil _ _⟩, HB.out⟩
  | node l k x r =>
    obtain ⟨b, kv, xv, lv, rv, rfl, hSb, hh, hk, hx, _, _⟩ := h
    have hlt := (Array.getElem?_eq_some_iff.1 hh).1
    have HO := Lib.hid (own_any (.agg #[kv, xv]) k x _ ⟨kv, xv, rfl, hk.below hb, hx.below hb⟩)
    obtain ⟨A, n, c, rfl⟩ := hk.slice
    obtain ⟨A', n', c', rfl⟩ := hx.slice
    obtain ⟨c0, c1, _, _, _⟩ := node_cells ((hb.block b hlt).trans hh)
    have H1 := Lib.hid h1
    have HB := Lib.hid hb
    clear h1 hb hh hk hx
    go_enter Tryz.func86, Tryz.ntmps86
    go_wp2_with fail
    refine HO.out.mono ?_
    rintro e w2 ⟨u, rfl, hu, hb2⟩
    have H2 := Lib.hid (H1.out.below hb2 H1.out.lt)
    have h1lt := H1.out.lt
    obtain ⟨kv', xv', rfl, hk', hx'⟩ := hu
    obtain ⟨A1, n1, c1, rfl⟩ := hk'.slice
    obtain ⟨A2, n2, c2, rfl⟩ := hx'.slice
    have hsz := HB.out.size
    have hres : PIn (New w.heap.size) ((w2.setCell ⟨w.heap.size, 0, none⟩ (.slice A1 n1 c1)).setCell ⟨w.heap.size, 1, none⟩ (.slice A2 n2 c2)) (.agg #[.slice A1 n1 c1, .slice A2 n2 c2]) k x :=
      ⟨_, _, rfl, (hk'.set2 h1lt _ _).imp fun b _ hb => Nat.le_trans hsz hb, (hx'.set2 h1lt _ _).imp fun b _ hb => Nat.le_trans hsz hb⟩
    have HRES := Lib.hid hres
    have HF := Lib.hid (H2.out.set (.slice A1 n1 c1) (.slice A2 n2 c2))
    have HB2 := Lib.hid (((HB.out.trans (hb2.mono hsz)).setCell (p := ⟨w.heap.size, 0, none⟩) (Nat.le_refl _) (.slice A1 n1 c1)).setCell (p := ⟨w.heap.size, 1, none⟩) (Nat.le_refl _) (.slice A2 n2 c2))
    clear hres hk' hx' hb2
    obtain ⟨z0, z1⟩ := H2.out.cells
    have f0 := frozen_of_row _ _ 0 _ _ H2.out
    have f1 := frozen_of_row _ _ 1 _ _ H2.out
    go_wp2_with fail
    exact bodyPost_ret (results_cell_row rfl _ _ w.heap.size 60 _ (0, 0) _ (by rfl) HF.out Tryz.underlying60 rfl info39) rfl ⟨_, rfl, HRES.out, HB2.out⟩

end Go.Proofs.YtphjaebkcimklaaGreatDoor
