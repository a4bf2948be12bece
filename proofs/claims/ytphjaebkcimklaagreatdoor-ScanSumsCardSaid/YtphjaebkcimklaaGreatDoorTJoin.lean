/- The contracts of Height, join and Join. -/
import Derived.Test.YtphjaebkcimklaaGreatDoorTEven
set_option linter.unusedVariables false
set_option linter.unusedSimpArgs false
namespace Go.Proofs.YtphjaebkcimklaaGreatDoor
open Go.RowKit

theorem PT.size_of {T : PT} {L : Pairs} (h : T.list = L) : T.size = L.length := by rw [← h, PT.size_list]
theorem up_imp {S : Nat → Prop} {n m : Nat} (h : n ≤ m) : ∀ b : Nat, Up S m b → Up S n b := fun b hb => by
  rcases hb with hb | hb
  · exact .inl hb
  · exact .inr (Nat.le_trans h hb)

set_option maxRecDepth 100000 in
set_option maxHeartbeats 12800000 in
theorem join_any {S : Nat → Prop} : ∀ (N : Nat) (l r : PT) (lv pv rv : Value) (k x : Bytes) (w : World), l.size + r.size < N → TIn S w lv l → PIn S w pv k x → TIn S w rv r → l.size + 1 + r.size ≤ 500000 → l.even → r.even →
    Calls Tryz.prog 113 #[lv, pv, rv] w fun e w' => Made S w w' e (l.list ++ (k, x) :: r.list) := by
  intro N
  induction N with
  | zero =>
    intro l r lv pv rv k x w hN
    omega
  | succ N ih =>
    intro l r lv pv rv k x w hN hl hp hr hn hel her
    obtain ⟨kv, xv, rfl, hk, hx⟩ := hp
    obtain ⟨lu, rfl⟩ := hl.ptr
    obtain ⟨ru, rfl⟩ := hr.ptr
    obtain ⟨A, n, c, rfl⟩ := hk.slice
    obtain ⟨A', n', c', rfl⟩ := hx.slice
    have hbox : Two (w.alloc (.cells #[.slice A n c, .slice A' n' c'] 60)) w.heap.size (.slice A n c) (.slice A' n' c') := heap_new w _
    have HB := Lib.hid ((Below.refl _ w).alloc (Nat.le_refl _) (.cells #[.slice A n c, .slice A' n' c'] 60))
    have HL := Lib.hid (fun W (h : Below w.heap.size w W) => hl.below h)
    have HR := Lib.hid (fun W (h : Below w.heap.size w W) => hr.below h)
    have HP : Hid (∀ W, Below w.heap.size w W → PIn S W (.agg #[.slice A n c, .slice A' n' c']) k x) := fun W h => ⟨_, _, rfl, hk.below h, hx.below h⟩
    have HBC := Lib.hid (fun W (h : Below (w.heap.size + 1) (w.alloc (.cells #[.slice A n c, .slice A' n' c'] 60)) W) => (hbox.below h (by omega)).cells)
    have hX1 : Hid (Below (w.heap.size + 1) (w.alloc (.cells #[.slice A n c, .slice A' n' c'] 60)) (w.alloc (.cells #[.slice A n c, .slice A' n' c'] 60))) := Below.refl _ _
    have HXS : Hid (w.heap.size + 1 ≤ (w.alloc (.cells #[.slice A n c, .slice A' n' c'] 60)).heap.size) := (by simp : w.heap.size + 1 ≤ (w.alloc (.cells #[.slice A n c, .slice A' n' c'] 60)).heap.size)
    have HSX := Lib.hid (Nat.le_refl (w.alloc (.cells #[.slice A n c, .slice A' n' c'] 60)).heap.size)
    have HES := Lib.hid (fun W => even_any l.size r.size W (by omega) (by omega))
    have IHH := Lib.hid ih
    have HQ := Lib.hid (And.intro hl hr)
    have HNN := Lib.hid (And.intro hN (And.intro hn (And.intro hel her)))
    clear hbox hk hx ih hl hr hN hn hel her
    go_enter Tryz.func113, Tryz.ntmps113
    go_upto_block 0 with fail
    generalize w.alloc (.cells #[.slice A n c, .slice A' n' c'] 60) = X at *
    have HT1 := Lib.hid (tsize_any l (.pointer lu) X (HL.out X HB.out))
    have HT2 := Lib.hid (tsize_any r (.pointer ru) X (HR.out X HB.out))
    have hgg : Hid (((l.size : Int) > r.size) ↔ l.size > r.size) := (by constructor <;> (intro h; omega) : ((l.size : Int) > r.size) ↔ l.size > r.size)
    obtain ⟨b0, b1⟩ := HBC.out _ hX1.out
    go_wp2_with fail
    refine HT1.out.mono ?_
    rintro e w1 ⟨rfl, rfl⟩
    go_wp2_with fail
    refine HT2.out.mono ?_
    rintro e w1 ⟨rfl, rfl⟩
    go_wp2_with fail
    refine (HES.out _).mono ?_
    rintro e w1 ⟨rfl, rfl⟩
    cases hev : evenB l.size r.size
    · have HEV0 := Lib.hid hev
      clear hev
      go_wp2_with fail
      refine HT1.out.mono ?_
      rintro e w1 ⟨rfl, rfl⟩
      go_wp2_with fail
      refine HT2.out.mono ?_
      rintro e w1 ⟨rfl, rfl⟩
      by_cases hgt : (l.size : Int) > r.size
      · obtain ⟨hl, hr⟩ := HQ.out
        obtain ⟨hN, hn, hel, her⟩ := HNN.out
        have ih := IHH.out
        clear HT1 HT2 HES HQ HNN IHH b0 b1 HEV0 hgg
        cases l with
        | nil => simp only [PT.size] at hgt; omega
        | node il ik ix ir =>
          obtain ⟨b, ikv, ixv, ilv, irv, e, hSb, hh, hik, hix, hil, hir⟩ := hl
          cases e
          obtain ⟨Bk, mk, dk, rfl⟩ := hik.slice
          obtain ⟨Bx, mx, dx, rfl⟩ := hix.slice
          obtain ⟨ilu, rfl⟩ := hil.ptr
          obtain ⟨iru, rfl⟩ := hir.ptr
          have hbl := (Array.getElem?_eq_some_iff.1 hh).1
          have HIC := Lib.hid (fun W (h : Below w.heap.size w W) => node_cells ((h.block b hbl).trans hh))
          have HIP : Hid (∀ W, Below w.heap.size w W → PIn S W (.agg #[.slice Bk mk dk, .slice Bx mx dx]) ik ix) := fun W h => ⟨_, _, rfl, hik.below h, hix.below h⟩
          have HIL := Lib.hid (fun W (h : Below w.heap.size w W) => hil.below h)
          have HIR := Lib.hid (fun W (h : Below w.heap.size w W) => hir.below h)
          have hN : il.size + 1 + ir.size + r.size < N + 1 := hN
          have HEL : Hid (evenB il.size ir.size = true ∧ il.even ∧ ir.even) := hel
          have HEO := Lib.hid her
          have hn : (il.size + 1 + ir.size) + 1 + r.size ≤ 500000 := hn
          have HN5 := Lib.hid hn
          have IH := Lib.hid (fun (W : World) (h : Below w.heap.size w W) => ih ir r (.pointer iru) (.agg #[.slice A n c, .slice A' n' c']) (.pointer ru) k x W (by omega) (hir.below h) (HP.out W h) (HR.out W h) (by omega) hel.2.2 her)
          clear hh hik hix hil hir hN hn hel her ih
          obtain ⟨i0, i1, i2, i3, i4⟩ := HIC.out _ HB.out
          obtain ⟨b0, b1⟩ := HBC.out _ hX1.out
          have HCC := Lib.hid (fun W (h : Below w.heap.size w W) (h' : Below (w.heap.size + 1) X W) => (And.intro (HBC.out _ h') (And.intro (HIC.out _ h).1 (And.intro (HIC.out _ h).2.1 (And.intro (HIC.out _ h).2.2.1 (HIC.out _ h).2.2.2.1)))))
          have H0 := Lib.hid (below_drew2 HB.out)
          have hcc := HCC.out _ HB.out hX1.out
          clear i0 i1 i2 i3 i4 b0 b1
          go_wp2_with fail
          go_region_held3 (fun w' => (w'.cell? ⟨w.heap.size, 0, none⟩ = some (.slice A n c) ∧ w'.cell? ⟨w.heap.size, 1, none⟩ = some (.slice A' n' c')) ∧ w'.cell? ⟨b, 0, none⟩ = some (.slice Bk mk dk) ∧ w'.cell? ⟨b, 1, none⟩ = some (.slice Bx mx dx) ∧ w'.cell? ⟨b, 2, none⟩ = some (.pointer ilu) ∧ w'.cell? ⟨b, 3, none⟩ = some (.pointer iru))
            (first | with_reducible exact HCC.out _ HB.out hX1.out | with_reducible exact HCC.out _ H0.out (below_drew2 hX1.out) | with_reducible exact HCC.out _ H1.out H11.out | with_reducible exact HCC.out _ H2.out H21.out | go_keep)
            (first
              | (go_at_call 113; (with_reducible refine (IH.out _ H0.out).mono ?_); rintro e wa ⟨u, T, rfl, t1, t2, t3, t4⟩; have H1 : Hid (Below w.heap.size w wa) := H0.out.trans (t4.mono H0.out.size); have H11 : Hid (Below (w.heap.size + 1) X wa) := (below_drew2 hX1.out).trans (t4.mono HXS.out); have HT : Hid (T.list = ir.list ++ (k, x) :: r.list ∧ T.even ∧ TIn (Up S w.heap.size) wa (.pointer u) T) := ⟨t1, t2, t3.imp (fun b _ hb => up_imp H0.out.size b hb)⟩; clear t1 t2 t3 t4)
              | (go_at_call 99; (with_reducible refine (mk_any (.pointer ilu) (.agg #[.slice Bk mk dk, .slice Bx mx dx]) (.pointer u) il T ik ix wa ((HIL.out _ H1.out).up w.heap.size) ((HIP.out _ H1.out).up w.heap.size) HT.out.2.2 (by have h1 := PT.size_of HT.out.1; have h2 := HN5.out; simp [PT.size_list] at h1; omega) HEL.out.2.1 HT.out.2.1).mono ?_); rintro e wb ⟨u', T', rfl, t1, t2, t3, t4⟩; have H2 : Hid (Below w.heap.size w wb) := H1.out.trans (t4.mono H1.out.size); have H21 : Hid (Below (w.heap.size + 1) X wb) := H11.out.trans (t4.mono (Nat.le_trans HXS.out (Nat.le_trans HSX.out H11.out.size))); have HF : Hid (T'.list = il.list ++ (ik, ix) :: T.list ∧ T'.even ∧ TIn (Up S w.heap.size) wb (.pointer u') T') := ⟨t1, t2, t3.imp (fun b hlt hb => upup H1.out.size b hb)⟩; clear t1 t2 t3 t4))
          all_goals
            go_wp2_with fail
            go_ret
            refine ⟨u', T', rfl, ?_, HF.out.2.1, HF.out.2.2, H2.out⟩
            rw [HF.out.1, HT.out.1]
            simp [PT.list]
      · obtain ⟨hl, hr⟩ := HQ.out
        obtain ⟨hN, hn, hel, her⟩ := HNN.out
        have ih := IHH.out
        have hev := HEV0.out
        clear HT1 HT2 HES HQ HNN IHH b0 b1 HEV0 hgg
        cases r with
        | nil =>
          exfalso
          simp only [PT.size] at hgt hev
          have h1 : l.size = 0 := by omega
          rw [h1] at hev
          exact absurd hev (by decide)
        | node il ik ix ir =>
          obtain ⟨b, ikv, ixv, ilv, irv, e, hSb, hh, hik, hix, hil, hir⟩ := hr
          cases e
          obtain ⟨Bk, mk, dk, rfl⟩ := hik.slice
          obtain ⟨Bx, mx, dx, rfl⟩ := hix.slice
          obtain ⟨ilu, rfl⟩ := hil.ptr
          obtain ⟨iru, rfl⟩ := hir.ptr
          have hbl := (Array.getElem?_eq_some_iff.1 hh).1
          have HIC := Lib.hid (fun W (h : Below w.heap.size w W) => node_cells ((h.block b hbl).trans hh))
          have HIP : Hid (∀ W, Below w.heap.size w W → PIn S W (.agg #[.slice Bk mk dk, .slice Bx mx dx]) ik ix) := fun W h => ⟨_, _, rfl, hik.below h, hix.below h⟩
          have HIL := Lib.hid (fun W (h : Below w.heap.size w W) => hil.below h)
          have HIR := Lib.hid (fun W (h : Below w.heap.size w W) => hir.below h)
          have hN : l.size + (il.size + 1 + ir.size) < N + 1 := hN
          have HEL : Hid (evenB il.size ir.size = true ∧ il.even ∧ ir.even) := her
          have HEO := Lib.hid hel
          have hn : l.size + 1 + (il.size + 1 + ir.size) ≤ 500000 := hn
          have HN5 := Lib.hid hn
          have IH := Lib.hid (fun (W : World) (h : Below w.heap.size w W) => ih l il (.pointer lu) (.agg #[.slice A n c, .slice A' n' c']) (.pointer ilu) k x W (by omega) (HL.out W h) (HP.out W h) (hil.below h) (by omega) hel her.2.1)
          clear hh hik hix hil hir hN hn hel her ih
          obtain ⟨i0, i1, i2, i3, i4⟩ := HIC.out _ HB.out
          obtain ⟨b0, b1⟩ := HBC.out _ hX1.out
          have HCC := Lib.hid (fun W (h : Below w.heap.size w W) (h' : Below (w.heap.size + 1) X W) => (And.intro (HBC.out _ h') (And.intro (HIC.out _ h).1 (And.intro (HIC.out _ h).2.1 (And.intro (HIC.out _ h).2.2.1 (HIC.out _ h).2.2.2.1)))))
          have H0 := Lib.hid (below_drew2 HB.out)
          have hcc := HCC.out _ HB.out hX1.out
          clear i0 i1 i2 i3 i4 b0 b1
          go_wp2_with fail
          go_region_held3 (fun w' => (w'.cell? ⟨w.heap.size, 0, none⟩ = some (.slice A n c) ∧ w'.cell? ⟨w.heap.size, 1, none⟩ = some (.slice A' n' c')) ∧ w'.cell? ⟨b, 0, none⟩ = some (.slice Bk mk dk) ∧ w'.cell? ⟨b, 1, none⟩ = some (.slice Bx mx dx) ∧ w'.cell? ⟨b, 2, none⟩ = some (.pointer ilu) ∧ w'.cell? ⟨b, 3, none⟩ = some (.pointer iru))
            (first | with_reducible exact HCC.out _ HB.out hX1.out | with_reducible exact HCC.out _ H0.out (below_drew2 hX1.out) | with_reducible exact HCC.out _ H1.out H11.out | with_reducible exact HCC.out _ H2.out H21.out | go_keep)
            (first
              | (go_at_call 113; (with_reducible refine (IH.out _ H0.out).mono ?_); rintro e wa ⟨u, T, rfl, t1, t2, t3, t4⟩; have H1 : Hid (Below w.heap.size w wa) := H0.out.trans (t4.mono H0.out.size); have H11 : Hid (Below (w.heap.size + 1) X wa) := (below_drew2 hX1.out).trans (t4.mono HXS.out); have HT : Hid (T.list = l.list ++ (k, x) :: il.list ∧ T.even ∧ TIn (Up S w.heap.size) wa (.pointer u) T) := ⟨t1, t2, t3.imp (fun b _ hb => up_imp H0.out.size b hb)⟩; clear t1 t2 t3 t4)
              | (go_at_call 99; (with_reducible refine (mk_any (.pointer u) (.agg #[.slice Bk mk dk, .slice Bx mx dx]) (.pointer iru) T ir ik ix wa HT.out.2.2 ((HIP.out _ H1.out).up w.heap.size) ((HIR.out _ H1.out).up w.heap.size) (by have h1 := PT.size_of HT.out.1; have h2 := HN5.out; simp [PT.size_list] at h1; omega) HT.out.2.1 HEL.out.2.2).mono ?_); rintro e wb ⟨u', T', rfl, t1, t2, t3, t4⟩; have H2 : Hid (Below w.heap.size w wb) := H1.out.trans (t4.mono H1.out.size); have H21 : Hid (Below (w.heap.size + 1) X wb) := H11.out.trans (t4.mono (Nat.le_trans HXS.out (Nat.le_trans HSX.out H11.out.size))); have HF : Hid (T'.list = T.list ++ (ik, ix) :: ir.list ∧ T'.even ∧ TIn (Up S w.heap.size) wb (.pointer u') T') := ⟨t1, t2, t3.imp (fun b hlt hb => upup H1.out.size b hb)⟩; clear t1 t2 t3 t4))
          all_goals
            go_wp2_with fail
            go_ret
            refine ⟨u', T', rfl, ?_, HF.out.2.1, HF.out.2.2, H2.out⟩
            rw [HF.out.1, HT.out.1]
            simp [PT.list]
    · have HE1 := Lib.hid hev
      clear hev
      go_wp2_with fail
      refine (node_any (.pointer lu) (.agg #[.slice A n c, .slice A' n' c']) (.pointer ru) l r k x _ (HL.out X HB.out) (HP.out X HB.out) (HR.out X HB.out) (by have := HNN.out.2.1; omega)).mono ?_
      rintro e w2 ⟨q, rfl, t1, t2⟩
      have HF : Hid (TIn (Up S w.heap.size) w2 (.pointer (some q)) (.node l k x r) ∧ Below w.heap.size w w2) := ⟨t1.imp (fun b _ hb => by rcases hb with hb | hb; exact .inl hb; exact .inr (Nat.le_trans HB.out.size hb)), HB.out.trans (t2.mono HB.out.size)⟩
      clear t1 t2
      go_wp2_with fail
      go_ret
      exact ⟨some q, .node l k x r, rfl, rfl, ⟨HE1.out, HNN.out.2.2.1, HNN.out.2.2.2⟩, HF.out⟩


/-- How high a tree is. -/
def PT.height : PT → Nat
  | .nil => 0
  | .node l _ _ r => 1 + max l.height r.height
theorem PT.height_le : ∀ T : PT, T.height ≤ T.size
  | .nil => Nat.le_refl _
  | .node l _ _ r => by simp only [PT.height, PT.size]; have := l.height_le; have := r.height_le; omega

end Go.Proofs.YtphjaebkcimklaaGreatDoor
