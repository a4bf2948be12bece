/- The law WalkAll. -/
import Derived.Test.YtnfhbljhohjkhaaRUse
set_option linter.unusedVariables false
set_option linter.unusedSimpArgs false
namespace Go.Proofs.Ytnfhbljhohjkhaa
open Go.RowKit Go.Shelf
attribute [local go_sem] Oper.semAt_some

/-- A block of one cell. -/
def One (T : TypeId) (W : World) (g : Nat) (v : Value) : Prop := W.heap[g]? = some (.cells #[v] T (0, 0))
theorem One.cell {T : TypeId} {W : World} {g : Nat} {v : Value} (h : One T W g v) : W.cell? ⟨g, 0, none⟩ = some v := by
  have := cell_of_row W g 0 _ _ _ h
  simpa using this
theorem One.frozen {T : TypeId} {W : World} {g : Nat} {v : Value} (h : One T W g v) : W.frozen? ⟨g, 0, none⟩ = false := frozen_of_row _ _ 0 _ _ h
theorem One.lt {T : TypeId} {W : World} {g : Nat} {v : Value} (h : One T W g v) : g < W.heap.size := (Array.getElem?_eq_some_iff.1 h).1
theorem One.block {T : TypeId} {W W' : World} {g : Nat} {v : Value} (h : One T W g v) (hb : W'.heap[g]? = W.heap[g]?) : One T W' g v := hb.trans h
theorem One.below {T : TypeId} {W W' : World} {g n : Nat} {v : Value} (h : One T W g v) (hb : Below n W W') (hn : g < n) : One T W' g v := (hb.block g hn).trans h
theorem One.set {T : TypeId} {W : World} {g : Nat} {v : Value} (h : One T W g v) (x : Value) : One T (W.setCell ⟨g, 0, none⟩ x) g x := by
  simp [One, World.setCell, Array.getElem?_modify, show W.heap[g]? = _ from h]
theorem One.other {T : TypeId} {W : World} {g b i : Nat} {v x : Value} (h : One T W g v) (hb : b ≠ g) : One T (W.setCell ⟨b, i, none⟩ x) g v := by
  unfold One
  rw [heap_setCell_other _ _ _ _ (by simpa using hb.symm)]
  exact h
theorem results_one {fn : Func} {p : Tmp} (h : fn.results = #[.cell p 4]) (tmps : Array Value) (w : World) (g : Nat) (v : Value) (hp : tmps.getD p undef = .pointer (some ⟨g, 0, none⟩)) (hc : One 4 w g v) :
    (results fn tmps).run Try.prog w = .ok v w := by
  have hc2 := hc.cell
  have hp2 : tmps[p]?.getD undef = .pointer (some ⟨g, 0, none⟩) := by simpa using hp
  simp [results, h, hp2, asAddr, go_sem, hc2]

theorem func_nil (W : World) (k : Nat) (lb : Array Value) : (binOp .eql 79 (.func (.func k) #[] lb) Value.nilFunc).run Try.prog W = .ok (.bool false) W := by
  kernel_rfl
theorem leave_one {F : Fence} {n : Nat} {fn : Func} {R : Ending → World → Prop} {tmps : Array Value} {w : World} {g : Nat} {p : Tmp} (h : fn.results = #[.cell p 4]) (hp : tmps.getD p undef = .pointer (some ⟨g, 0, none⟩)) (hc : One 4 w g (.bool true)) (hR : R (.returned (.bool true)) w) :
    bodyPostM F n Try.prog fn R .ret { tmps := tmps, defers := [] } w := ⟨_, results_one h _ _ g _ hp hc, hR⟩
theorem leave_mark {F : Fence} {n : Nat} {fn : Func} {R : Ending → World → Prop} {tmps : Array Value} {w : World} {g D : Nat} {p : Tmp} (h : fn.results = #[.cell p 4]) (hp : tmps.getD p undef = .pointer (some ⟨g, 0, none⟩)) (hc : One 4 w g (.bool true)) (hD : w.heap[D]? = some (.deferred (some []))) (hR : R (.returned (.bool true)) (w.putObj D (.deferred none))) :
    bodyPostM F n Try.prog fn R .ret { tmps := tmps, defers := [{ target := .collected D, args := #[] }] } w := by
  have hne : g ≠ D := by intro e; subst e; rw [show w.heap[g]? = _ from hc] at hD; cases hD
  exact ⟨by simp, .inl ⟨_, _, rfl, run_takeDeferred hD, _, results_one h _ _ g _ hp (hc.block (World.putObj_heap_other hne)), hR⟩⟩

set_option maxRecDepth 100000 in
set_option maxHeartbeats 1600000 in
theorem walkAll_any (A : Option Addr) (n c : Nat) (L : List (Int × Bytes × Bytes)) (sv : Value) (f t : Bytes) (cl : Bool) (stop : Int) (w : World) (h : Ops w A n L) (hs : SRaw w sv f t cl) :
    Calls Try.prog 14 #[.slice A n c, sv, .int .i64 stop] w fun e w' => e = .returned (.bool true) ∧ Below w.heap.size w w' := by
  obtain ⟨fv, tv, rfl, hf, ht⟩ := hs
  obtain ⟨Af, nf, cf, rfl, _, _, h3f⟩ := id hf
  obtain ⟨At, nt, ct, rfl, _, _, h3t⟩ := id ht
  have HLN : Hid (f.length = nf ∧ t.length = nt) := ⟨h3f.len, h3t.len⟩
  have hX : ((w.alloc (.cells #[.slice Af nf cf, .slice At nt ct, .bool cl] 42)).alloc (.cells #[.int .i64 stop] 3)).heap.size = w.heap.size + 1 + 1 := by simp
  have hb : Below w.heap.size w (((w.alloc (.cells #[.slice Af nf cf, .slice At nt ct, .bool cl] 42)).alloc (.cells #[.int .i64 stop] 3)).alloc (.cells #[.bool false] 4)) := (((Below.refl _ w).alloc (Nat.le_refl _) _).alloc (by simp) _).alloc (by simp; omega) _
  have e0 : Tri 42 (((w.alloc (.cells #[.slice Af nf cf, .slice At nt ct, .bool cl] 42)).alloc (.cells #[.int .i64 stop] 3)).alloc (.cells #[.bool false] 4)) w.heap.size (.slice Af nf cf) (.slice At nt ct) (.bool cl) := heap_old _ (heap_old _ (heap_new w _))
  have e1 : One 3 (((w.alloc (.cells #[.slice Af nf cf, .slice At nt ct, .bool cl] 42)).alloc (.cells #[.int .i64 stop] 3)).alloc (.cells #[.bool false] 4)) (w.heap.size + 1) (.int .i64 stop) := by
    have := heap_new (w.alloc (.cells #[.slice Af nf cf, .slice At nt ct, .bool cl] 42)) (.cells #[.int .i64 stop] 3)
    rw [World.size_alloc] at this
    exact heap_old _ this
  have e2 : One 4 (((w.alloc (.cells #[.slice Af nf cf, .slice At nt ct, .bool cl] 42)).alloc (.cells #[.int .i64 stop] 3)).alloc (.cells #[.bool false] 4)) (w.heap.size + 1 + 1) (.bool false) := by
    have := heap_new ((w.alloc (.cells #[.slice Af nf cf, .slice At nt ct, .bool cl] 42)).alloc (.cells #[.int .i64 stop] 3)) (.cells #[.bool false] 4)
    rw [hX] at this
    exact this
  have HO : Hid (∀ W, Below (((w.alloc (.cells #[.slice Af nf cf, .slice At nt ct, .bool cl] 42)).alloc (.cells #[.int .i64 stop] 3)).alloc (.cells #[.bool false] 4)).heap.size (((w.alloc (.cells #[.slice Af nf cf, .slice At nt ct, .bool cl] 42)).alloc (.cells #[.int .i64 stop] 3)).alloc (.cells #[.bool false] 4)) W →
      Below w.heap.size w W ∧ Ops W A n L ∧ BRaw W (.slice Af nf cf) f ∧ BRaw W (.slice At nt ct) t ∧ Tri 42 W w.heap.size (.slice Af nf cf) (.slice At nt ct) (.bool cl) ∧ One 3 W (w.heap.size + 1) (.int .i64 stop) ∧ One 4 W (w.heap.size + 1 + 1) (.bool false)) := fun W hW => by
    have h2 := hb.trans (hW.mono hb.size)
    exact ⟨h2, h.below h2, hf.below h2, ht.below h2, e0.below hW e0.lt, e1.below hW e1.lt, e2.below hW e2.lt⟩
  clear h hf ht h3f h3t hb hX e0 e1 e2
  refine (callsIn_wide (n := 1)).1 (callsIn_of_wp_marks Try.func14 rfl trivial ((wpIn_wide (n := 1)).2 ?_) rfl)
  simp only [Try.ntmps14, List.size_toArray, List.length_cons, List.length_nil, Nat.reduceAdd, Nat.reduceSub, Array.replicate_succ, Array.replicate_zero, List.push_toArray, List.append_toArray, List.nil_append, List.cons_append]
  go_upto_region 1 with fail
  generalize ((w.alloc (.cells #[.slice Af nf cf, .slice At nt ct, .bool cl] 42)).alloc (.cells #[.int .i64 stop] 3)).alloc (.cells #[.bool false] 4) = X at *
  have HF := Lib.hid (fine_any A n c L 80 X (HO.out X (Below.refl _ _)).2.1 (by omega))
  obtain ⟨b0, b1, b2⟩ := (HO.out X (Below.refl _ _)).2.2.2.2.1.cells
  go_wp2_with fail
  refine HF.out.mono ?_
  rintro e w1 ⟨r, rfl, hr, hb1⟩
  have HB1 := Lib.hid hb1
  clear hb1 b0 b1 b2
  obtain ⟨b0, b1, b2⟩ := (HO.out w1 HB1.out).2.2.2.2.1.cells
  have HAW : Hid (∀ W, Below X.heap.size X W → Calls Try.prog 41 #[] W fun e w' => e = .returned (.bool true) ∧ Hid (One 4 w' (w.heap.size + 1 + 1) (.bool false) ∧ Below w.heap.size w (w'.setCell ⟨w.heap.size + 1 + 1, 0, none⟩ (.bool true)))) := fun W hW =>
    (awake15_any W).mono fun e w' ⟨he, hb⟩ => by
      have h2 := HO.out w' (hW.trans (hb.mono hW.size))
      exact ⟨he, Lib.hid ⟨h2.2.2.2.2.2.2, h2.1.setCell (p := ⟨w.heap.size + 1 + 1, 0, none⟩) (by show w.heap.size ≤ w.heap.size + 1 + 1; omega) _⟩⟩
  cases r with
  | false =>
    clear hr
    go_wp2_with fail
    refine (HAW.out w1 HB1.out).mono ?_
    rintro e w2 ⟨rfl, h2⟩
    clear b0 b1 b2
    have z0 := h2.out.1.cell
    have zf := h2.out.1.frozen
    go_wp2_with fail
    exact leave_one rfl (by rfl) (h2.out.1.set _) ⟨rfl, h2.out.2⟩
  | true =>
    have HFI := Lib.hid (hr rfl)
    have hn80 : n ≤ 80 := by have h1 := (hr rfl).1; have h2 := (HO.out X (Below.refl _ _)).2.1.len; rw [h2] at h1; omega
    clear hr
    by_cases hbf : 100 < nf
    · have hbz : (100 : Int) < (nf : Int) := by omega
      go_wp2_with fail
      refine (HAW.out w1 HB1.out).mono ?_
      rintro e w2 ⟨rfl, h2⟩
      clear b0 b1 b2
      have z0 := h2.out.1.cell
      have zf := h2.out.1.frozen
      go_wp2_with fail
      exact leave_one rfl (by rfl) (h2.out.1.set _) ⟨rfl, h2.out.2⟩
    have hsf : ¬ (100 : Int) < (nf : Int) := by omega
    by_cases hbt : 100 < nt
    · have hbz : (100 : Int) < (nt : Int) := by omega
      go_wp2_with fail
      refine (HAW.out w1 HB1.out).mono ?_
      rintro e w2 ⟨rfl, h2⟩
      clear b0 b1 b2
      have z0 := h2.out.1.cell
      have zf := h2.out.1.frozen
      go_wp2_with fail
      exact leave_one rfl (by rfl) (h2.out.1.set _) ⟨rfl, h2.out.2⟩
    have hst : ¬ (100 : Int) < (nt : Int) := by omega
    have HSP : Hid (∀ W, Below X.heap.size X W → SIn (fun _ => True) W (.agg #[.slice Af nf cf, .slice At nt ct, .bool cl]) f t cl) := fun W hW =>
      ⟨_, _, rfl, (HO.out W hW).2.2.1.fine (by have := HLN.out; omega), (HO.out W hW).2.2.2.1.fine (by have := HLN.out; omega)⟩
    have HMD := Lib.hid (made15_any A n c L w1 (HO.out w1 HB1.out).2.1 ⟨by have := HFI.out.1; omega, HFI.out.2⟩)
    clear hbf hbt
    go_wp2_with fail
    refine HMD.out.mono ?_
    rintro e w2 ⟨u, A', c', T, rfl, hI⟩
    have HB2 : Hid (Below X.heap.size X w2) := HB1.out.trans (hI.out.below.mono HB1.out.size)
    have hsz : T.size ≤ 80 := by have := hI.out.size; omega
    have HLL := Lib.hid T.size_list
    have hll : T.list.length ≤ 80 := by have := HLL.out; omega
    have HKY : Hid (T.even ∧ Asc T.list ∧ (∀ p ∈ T.list, p.1.length ≤ 100000)) := ⟨hI.out.even, hI.out.asc, hI.out.keys⟩
    have hg6 := (HO.out w2 HB2.out).2.2.2.2.2.2
    have hbn : Below w2.heap.size w2 (w2.alloc (.cells #[.slice A' T.list.length c'] 27)) := (Below.refl _ _).alloc (Nat.le_refl _) _
    have hx8 : One 27 (w2.alloc (.cells #[.slice A' T.list.length c'] 27)) w2.heap.size (.slice A' T.list.length c') := heap_new w2 _
    have hti := ((hI.out.tin.imp (S' := fun b => b < w2.heap.size) (fun b hb _ => hb)).notBool hg6)
    have hmi := ((hI.out.min.imp (S' := fun b => b < w2.heap.size) (fun b hb _ => hb)).notBool hg6)
    -- what was there behind made, but the result's box
    have HT2 : Hid (∀ W, KD (fun b => b ≠ w.heap.size + 1 + 1) (w2.alloc (.cells #[.slice A' T.list.length c'] 27)) W → TIn (fun x => x < w2.heap.size ∧ x ≠ w.heap.size + 1 + 1) W (.pointer u) T ∧ MIn (fun x => x < w2.heap.size ∧ x ≠ w.heap.size + 1 + 1) W A' T.list.length T.list ∧ One 27 W w2.heap.size (.slice A' T.list.length c') ∧ One 3 W (w.heap.size + 1) (.int .i64 stop)) := fun W hW => by
      have hl := hg6.lt
      have h3 := ((HO.out w2 HB2.out).2.2.2.2.2.1).below hbn ((HO.out w2 HB2.out).2.2.2.2.2.1).lt
      exact ⟨(hti.below hbn).carry hW.size (fun b hb hlt => hW.block b hb.2 hlt), (hmi.below hbn).carry hW.size (fun b hb hlt => hW.block b hb.2 hlt),
        hx8.block (hW.block _ (by show w2.heap.size ≠ _; omega) hx8.lt), h3.block (hW.block _ (by show w.heap.size + 1 ≠ _; omega) h3.lt)⟩
    have HB3 : Hid (Below X.heap.size X (w2.alloc (.cells #[.slice A' T.list.length c'] 27))) := HB2.out.trans (hbn.mono HB2.out.size)
    have HG6 : Hid (w.heap.size + 1 + 1 < w2.heap.size) := hg6.lt
    have HX8 := Lib.hid hx8
    clear HMD hI b0 b1 b2 hti hmi hbn hx8 hg6
    go_upto_region 4 with fail
    generalize w2.alloc (.cells #[.slice A' T.list.length c'] 27) = Y at *
    have HCB : Hid (∀ W, Below Y.heap.size Y W → (W.cell? ⟨w2.heap.size, 0, none⟩ = some (.slice A' T.list.length c') ∧ W.cell? ⟨w.heap.size, 0, none⟩ = some (.slice Af nf cf) ∧ W.cell? ⟨w.heap.size, 1, none⟩ = some (.slice At nt ct) ∧ W.cell? ⟨w.heap.size, 2, none⟩ = some (.bool cl)) ∧ SIn (fun _ => True) W (.agg #[.slice Af nf cf, .slice At nt ct, .bool cl]) f t cl) := fun W hW => by
      have h2 := HB3.out.trans (hW.mono HB3.out.size)
      exact ⟨⟨(HX8.out.below hW HX8.out.lt).cell, (HO.out W h2).2.2.2.2.1.cells⟩, HSP.out W h2⟩
    have HMC : Hid (∀ W, Below Y.heap.size Y W → Calls Try.prog 24 #[.slice A' T.list.length c', .agg #[.string (strO f), .string (strO t), .bool cl], .bool true] W fun e w' => GotMap W w' e (cutM T.list f t cl true)) := fun W hW => by
      have := mcut_any T.list A' T.list.length c' (strO f) (strO t) cl true W (HT2.out W (KD.of hW)).2.1 (by omega) HKY.out.2.2
      rw [strL_strO, strL_strO] at this
      exact this
    have BZ : Hid (Below Y.heap.size Y (Y.alloc (.cells #[.slice none 0 0] 27))) := (Below.refl _ _).alloc (Nat.le_refl _) _
    have HZ0 : Hid (One 27 (Y.alloc (.cells #[.slice none 0 0] 27)) Y.heap.size (.slice none 0 0)) := heap_new Y _
    go_cut [9] from 35 to 39 (fun p V => ∃ q A4 c4, p = .pointer (some ⟨q, 0, none⟩) ∧ Hid (Y.heap.size ≤ q ∧ One 27 V q (.slice A4 (cutM T.list f t cl true).length c4) ∧ MIn (New Y.heap.size) V A4 (cutM T.list f t cl true).length (cutM T.list f t cl true) ∧ Below Y.heap.size Y V))
    case first =>
      go_region_held3 (fun W => W.cell? ⟨w2.heap.size, 0, none⟩ = some (.slice A' T.list.length c') ∧ W.cell? ⟨w.heap.size, 0, none⟩ = some (.slice Af nf cf) ∧ W.cell? ⟨w.heap.size, 1, none⟩ = some (.slice At nt ct) ∧ W.cell? ⟨w.heap.size, 2, none⟩ = some (.bool cl))
        (first | with_reducible exact (HCB.out _ (below_drew2 (Below.refl _ _))).1 | with_reducible exact (HCB.out _ (below_drew2 BZ.out)).1 | with_reducible exact (HCB.out _ BZ.out).1 | with_reducible exact (HCB.out _ D3.out).1 | with_reducible exact (HCB.out _ (BA3.out _)).1 | with_reducible exact (HCB.out _ D4.out).1 | with_reducible exact (HCB.out _ (BA4.out _)).1 | with_reducible exact (HCB.out _ BS4.out).1)
        (first
          | (go_at_call 25; (with_reducible refine (ref_any (S := fun _ => True) (.agg #[.slice Af nf cf, .slice At nt ct, .bool cl]) f t cl _ (HCB.out _ (below_drew2 (Below.refl _ _))).2).mono ?_); rintro e w3 ⟨rfl, hb3⟩
             have D3 : Hid (Below Y.heap.size Y w3) := below_drew1 hb3
             have BA3 : Hid (∀ o, Below Y.heap.size Y (w3.alloc o)) := fun o => D3.out.alloc D3.out.size o
             have HZ3 : Hid (One 27 (w3.alloc (.cells #[.slice none 0 0] 27)) w3.heap.size (.slice none 0 0)) := heap_new w3 _
             clear hb3)
          | (go_at_call 25; (with_reducible refine (ref_any (S := fun _ => True) (.agg #[.slice Af nf cf, .slice At nt ct, .bool cl]) f t cl _ (HCB.out _ (below_drew2 BZ.out)).2).mono ?_); rintro e w3 ⟨rfl, hb3⟩
             have D3 : Hid (Below Y.heap.size Y w3) := BZ.out.trans ((below_drew1 hb3).mono BZ.out.size)
             have ZT3 : Hid (One 27 w3 Y.heap.size (.slice none 0 0)) := HZ0.out.below (below_drew1 hb3) HZ0.out.lt
             clear hb3)
          | (go_at_call 24; have hzz := ZT3; (with_reducible refine (HMC.out _ D3.out).mono ?_); rintro e w4 ⟨A4, c4, rfl, h41, h42, h43⟩
             have D4 : Hid (Below Y.heap.size Y w4) := D3.out.trans (h43.mono D3.out.size)
             have ZT4 : Hid (One 27 w4 Y.heap.size (.slice none 0 0)) := ZT3.out.below h43 ZT3.out.lt
             have M4 : Hid (MIn (New w3.heap.size) w4 A4 (cutM T.list f t cl true).length (cutM T.list f t cl true) ∧ Y.heap.size < w3.heap.size) := ⟨h42, ZT3.out.lt⟩
             have BS4 : Hid (Below Y.heap.size Y (w4.setCell ⟨Y.heap.size, 0, none⟩ (.slice A4 (cutM T.list f t cl true).length c4))) := D4.out.setCell (p := ⟨Y.heap.size, 0, none⟩) (Nat.le_refl _) _
             have z0 := ZT4.out.cell
             have zf := ZT4.out.frozen
             clear hzz h41 h42 h43)
          | (go_at_call 24; (with_reducible refine (HMC.out _ D3.out).mono ?_); rintro e w4 ⟨A4, c4, rfl, h41, h42, h43⟩
             have D4 : Hid (Below Y.heap.size Y w4) := D3.out.trans (h43.mono D3.out.size)
             have M4 : Hid (MIn (New w3.heap.size) w4 A4 (cutM T.list f t cl true).length (cutM T.list f t cl true)) := h42
             have BA4 : Hid (∀ o, Below Y.heap.size Y (w4.alloc o)) := fun o => D4.out.alloc D4.out.size o
             clear h41 h42 h43)
          | (go_at_call 24; (with_reducible refine (HMC.out _ (BA3.out _)).mono ?_); rintro e w4 ⟨A4, c4, rfl, h41, h42, h43⟩
             have D4 : Hid (Below Y.heap.size Y w4) := (BA3.out _).trans (h43.mono (BA3.out _).size)
             have ZT4 : Hid (One 27 w4 w3.heap.size (.slice none 0 0)) := HZ3.out.below h43 HZ3.out.lt
             have M4 : Hid (MIn (New (w3.alloc (.cells #[.slice none 0 0] 27)).heap.size) w4 A4 (cutM T.list f t cl true).length (cutM T.list f t cl true) ∧ w3.heap.size < (w3.alloc (.cells #[.slice none 0 0] 27)).heap.size) := ⟨h42, HZ3.out.lt⟩
             have BS4 : Hid (Below Y.heap.size Y (w4.setCell ⟨w3.heap.size, 0, none⟩ (.slice A4 (cutM T.list f t cl true).length c4))) := D4.out.setCell (p := ⟨w3.heap.size, 0, none⟩) D3.out.size _
             have z0 := ZT4.out.cell
             have zf := ZT4.out.frozen
             clear h41 h42 h43))
      · have HM : Hid (Y.heap.size ≤ w4.heap.size ∧ One 27 (w4.alloc (.cells #[.slice A4 (cutM T.list f t cl true).length c4] 27)) w4.heap.size (.slice A4 (cutM T.list f t cl true).length c4) ∧ MIn (New Y.heap.size) (w4.alloc (.cells #[.slice A4 (cutM T.list f t cl true).length c4] 27)) A4 (cutM T.list f t cl true).length (cutM T.list f t cl true) ∧ Below Y.heap.size Y (w4.alloc (.cells #[.slice A4 (cutM T.list f t cl true).length c4] 27))) :=
          ⟨D4.out.size, heap_new w4 _, (M4.out.below ((Below.refl _ _).alloc (Nat.le_refl _) _)).imp (fun b _ hb => Nat.le_trans D3.out.size hb), BA4.out _⟩
        go_wp2_with fail
        go_meet
        exact ⟨_, A4, c4, rfl, HM⟩
      · have HM : Hid (Y.heap.size ≤ w3.heap.size ∧ One 27 (w4.setCell ⟨w3.heap.size, 0, none⟩ (.slice A4 (cutM T.list f t cl true).length c4)) w3.heap.size (.slice A4 (cutM T.list f t cl true).length c4) ∧ MIn (New Y.heap.size) (w4.setCell ⟨w3.heap.size, 0, none⟩ (.slice A4 (cutM T.list f t cl true).length c4)) A4 (cutM T.list f t cl true).length (cutM T.list f t cl true) ∧ Below Y.heap.size Y (w4.setCell ⟨w3.heap.size, 0, none⟩ (.slice A4 (cutM T.list f t cl true).length c4))) :=
          ⟨D3.out.size, ZT4.out.set _, (M4.out.1.carry (by simp) (fun b hb _ => heap_setCell_other _ _ _ _ (by have h1 := M4.out.2; have h2 : (w3.alloc (.cells #[.slice none 0 0] 27)).heap.size ≤ b := hb; simp at h2 ⊢; omega))).imp (fun b _ hb => Nat.le_trans (BA3.out _).size hb), BS4.out⟩
        clear z0 zf
        go_wp2_with fail
        go_meet
        exact ⟨_, A4, c4, rfl, HM⟩
      · have HM : Hid (Y.heap.size ≤ Y.heap.size ∧ One 27 (w4.setCell ⟨Y.heap.size, 0, none⟩ (.slice A4 (cutM T.list f t cl true).length c4)) Y.heap.size (.slice A4 (cutM T.list f t cl true).length c4) ∧ MIn (New Y.heap.size) (w4.setCell ⟨Y.heap.size, 0, none⟩ (.slice A4 (cutM T.list f t cl true).length c4)) A4 (cutM T.list f t cl true).length (cutM T.list f t cl true) ∧ Below Y.heap.size Y (w4.setCell ⟨Y.heap.size, 0, none⟩ (.slice A4 (cutM T.list f t cl true).length c4))) :=
          ⟨Nat.le_refl _, ZT4.out.set _, (M4.out.1.carry (by simp) (fun b hb _ => heap_setCell_other _ _ _ _ (by have h1 := M4.out.2; have h2 : w3.heap.size ≤ b := hb; simp; omega))).imp (fun b _ hb => Nat.le_trans D3.out.size hb), BS4.out⟩
        clear z0 zf
        go_wp2_with fail
        go_meet
        exact ⟨_, A4, c4, rfl, HM⟩
    case rest =>
      obtain ⟨q9, A4, c4, rfl, HM⟩ := hcut
      have hbn : Below wc.heap.size wc (wc.alloc (.cells #[.int .i64 0] 3)) := (Below.refl _ _).alloc (Nat.le_refl _) _
      have hx10 : One 3 (wc.alloc (.cells #[.int .i64 0] 3)) wc.heap.size (.int .i64 0) := heap_new wc _
      have HY5 : Hid (Below Y.heap.size Y (wc.alloc (.cells #[.int .i64 0] 3))) := HM.out.2.2.2.trans (hbn.mono HM.out.2.2.2.size)
      have HQ9 : Hid (∀ W, Below (wc.alloc (.cells #[.int .i64 0] 3)).heap.size (wc.alloc (.cells #[.int .i64 0] 3)) W → One 27 W q9 (.slice A4 (cutM T.list f t cl true).length c4) ∧ MIn (fun b => Y.heap.size ≤ b ∧ b < wc.heap.size) W A4 (cutM T.list f t cl true).length (cutM T.list f t cl true) ∧ One 3 W wc.heap.size (.int .i64 0)) := fun W hW =>
        ⟨((HM.out.2.1.below hbn HM.out.2.1.lt).below hW (HM.out.2.1.below hbn HM.out.2.1.lt).lt), ((HM.out.2.2.1.imp (S' := fun b => Y.heap.size ≤ b ∧ b < wc.heap.size) (fun b hb h => ⟨h, hb⟩)).below hbn).below hW, hx10.below hW hx10.lt⟩
      have HG10 : Hid (Y.heap.size ≤ wc.heap.size ∧ wc.heap.size < (wc.alloc (.cells #[.int .i64 0] 3)).heap.size ∧ Y.heap.size ≤ q9 ∧ q9 < wc.heap.size) := ⟨HM.out.2.2.2.size, hx10.lt, HM.out.1, HM.out.2.1.lt⟩
      have HGY : Hid (w2.heap.size < Y.heap.size) := HX8.out.lt
      have HAL := Lib.hid (All_any (D := fun x => x < w2.heap.size ∧ x ≠ w.heap.size + 1 + 1) (S' := fun _ => True) T u Af At nf nt cf ct f t cl (wc.alloc (.cells #[.int .i64 0] 3)) (HT2.out _ (KD.of HY5.out)).1 (HCB.out _ HY5.out).2 (by omega) (fun b hb => by have h1 := HY5.out.size; have h2 := HGY.out; have h3 := hb.1; omega))
      clear hbn hx10 HM HMC BZ HZ0
      obtain ⟨b0, b1, b2⟩ := (HCB.out _ HY5.out).1.2
      go_upto_region 6 with fail
      generalize wc.heap.size = g10 at *
      generalize wc.alloc (.cells #[.int .i64 0] 3) = V at *
      go_wp2_with fail
      refine HAL.out.mono ?_
      rintro e w6 ⟨rfl, h6⟩
      clear b0 b1 b2
      have hfn := fun W => func_nil W 84 #[.pointer (some ⟨V.heap.size, 0, none⟩), .pointer (some ⟨V.heap.size + 1, 0, none⟩)]
      go_wp2_with fail
      clear hfn
      have HV6 : Hid (Below V.heap.size V w6) := h6.out.2
      have HCL := Lib.hid (h6.out.1)
      have HSZ : Hid (w.heap.size + 1 + 1 < w6.heap.size ∧ g10 < w6.heap.size ∧ q9 < g10 ∧ w2.heap.size < Y.heap.size ∧ Y.heap.size ≤ q9 ∧ w.heap.size + 1 + 1 < w2.heap.size ∧ Y.heap.size ≤ V.heap.size) := by
        have h1 := HG6.out; have h2 := HGY.out; have h3 := HG10.out; have h4 := HV6.out.size; have h5 := HY5.out.size
        have h6 : w.heap.size + 1 + 1 < w6.heap.size := by omega
        have h7 : g10 < w6.heap.size := by omega
        exact ⟨h6, h7, h3.2.2.2, h2, h3.2.2.1, h1, h5⟩
      have HKY6 : Hid (∀ W, KD (fun b => b ≠ w.heap.size + 1 + 1 ∧ b ≠ g10 ∧ b < w6.heap.size) w6 W → One 27 W q9 (.slice A4 (cutM T.list f t cl true).length c4) ∧ MIn (fun b => Y.heap.size ≤ b ∧ b < g10) W A4 (cutM T.list f t cl true).length (cutM T.list f t cl true) ∧ MIn (fun x => x < w2.heap.size ∧ x ≠ w.heap.size + 1 + 1) W A' T.list.length T.list ∧ One 27 W w2.heap.size (.slice A' T.list.length c') ∧ One 3 W (w.heap.size + 1) (.int .i64 stop)) := fun W hW => by
        have hz := HSZ.out
        have hq := HQ9.out w6 HV6.out
        have hk : KD (fun b => b ≠ w.heap.size + 1 + 1) Y W := by
          have hb := HY5.out.trans (HV6.out.mono HY5.out.size)
          exact ⟨hW.os.trans hb.os, hW.tape.trans hb.tape, hW.output.trans hb.output, Nat.le_trans hb.size hW.size, fun b h1 h2 => (hW.block b ⟨h1, by omega, by have := hb.size; omega⟩ (by have := hb.size; omega)).trans (hb.block b h2)⟩
        have ht := HT2.out W hk
        exact ⟨hq.1.block (hW.block q9 ⟨by omega, by omega, by omega⟩ (by omega)), hq.2.1.carry hW.size (fun b hb hl => hW.block b ⟨by omega, by omega, hl⟩ hl), ht.2.1, ht.2.2.1, ht.2.2.2⟩
      have HAS := Lib.hid HKY.out.2.1
      have H0 : Hid (One 3 w6 g10 (.int .i64 0) ∧ One 4 w6 (w.heap.size + 1 + 1) (.bool false)) :=
        ⟨(HQ9.out w6 HV6.out).2.2, ((HO.out Y HB3.out).2.2.2.2.2.2).below (HY5.out.trans (HV6.out.mono HY5.out.size)) ((HO.out Y HB3.out).2.2.2.2.2.2).lt⟩
      have HWW : Hid (Below w.heap.size w w6) := by
        have h1 := (HO.out Y HB3.out).1
        exact h1.trans ((HY5.out.trans (HV6.out.mono HY5.out.size)).mono h1.size)
      have hin : (cutM T.list f t cl true).length ≤ 80 := Nat.le_trans (cutM_len _ _ _ _ _) hll
      have hcs := cut_size T f t cl HAS.out
      have HCS := Lib.hid hcs
      have HCA := Lib.hid (cut_at T f t cl HAS.out)
      clear h6 hcs
      refine wp_rangeFunc_priv (gf := 84) (lb := #[.pointer (some ⟨V.heap.size, 0, none⟩), .pointer (some ⟨V.heap.size + 1, 0, none⟩)]) (by rfl) (enters_of Try.func84 (by kernel_rfl) rfl) (all_seq HCL.out) (Below.refl _ _) (fun b hb => by have h1 := HSZ.out; have h2 := hb.1; omega) (fun _ => rfl)
        (fun k pre W => KD (fun b => b ≠ w.heap.size + 1 + 1 ∧ b ≠ g10 ∧ b < w6.heap.size) w6 W ∧ One 3 W g10 (.int .i64 (pre.length : Int)) ∧ One 4 W (w.heap.size + 1 + 1) (.bool false) ∧ w6.heap.size ≤ k ∧ pre.length ≤ (cutM T.list f t cl true).length)
        (fun k c pre W => c = .exit 0 ∧ (pre.length : Int) = stop ∧ KD (fun b => b ≠ w.heap.size + 1 + 1 ∧ b ≠ g10 ∧ b < w6.heap.size) w6 W ∧ One 3 W g10 (.int .i64 (pre.length : Int)) ∧ One 4 W (w.heap.size + 1 + 1) (.bool false) ∧ w6.heap.size ≤ k)
        ?hI ?hIx ?h0 ?round ?done ?stop
      case hI =>
        rintro k s A0 B0 row ⟨h1, h2, h3, h4, h5⟩ hg hr
        have hz := HSZ.out
        have hs := h1.size
        have hne : ∀ b, b < w6.heap.size → some b ≠ row := fun b hb e => by rcases hr b e.symm with e | e | e <;> omega
        exact ⟨h1.trans (KD.grown hg (fun r e hE => hne r hE.2.2 e.symm)), h2.block (hg.block g10 (by omega) (hne _ (by omega))), h3.block (hg.block _ (by omega) (hne _ (by omega))), h4, h5⟩
      case hIx =>
        rintro cd k s A0 B0 row ⟨h0, hst, h1, h2, h3, h4⟩ hg hr
        have hz := HSZ.out
        have hs := h1.size
        have hne : ∀ b, b < w6.heap.size → some b ≠ row := fun b hb e => by rcases hr b e.symm with e | e | e <;> omega
        exact ⟨h0, hst, h1.trans (KD.grown hg (fun r e hE => hne r hE.2.2 e.symm)), h2.block (hg.block g10 (by omega) (hne _ (by omega))), h3.block (hg.block _ (by omega) (hne _ (by omega))), h4⟩
      case h0 =>
        intro k W' hW' hk _
        exact ⟨KD.of hW', H0.out.1.below hW' H0.out.1.lt, H0.out.2.below hW' H0.out.2.lt, by omega, Nat.zero_le _⟩
      case round =>
        rintro m l k pre ⟨i, v⟩ W hk ⟨hkd, h10, h6, hkk, hpl⟩ ⟨hpl2, hxi, hpv⟩ hlt hkl
        obtain ⟨kv, xv, rfl, hk1, hx1⟩ := hpv
        obtain ⟨A1, n1, c1, rfl⟩ := hk1.slice
        obtain ⟨A2, n2, c2, rfl⟩ := hx1.slice
        simp only [] at hxi hk1 hx1
        have hbw : Below W.heap.size W (W.alloc (.cells #[.slice A1 n1 c1, .slice A2 n2 c2] 40)) := (Below.refl _ _).alloc (Nat.le_refl _) _
        have htw : Two (W.alloc (.cells #[.slice A1 n1 c1, .slice A2 n2 c2] 40)) W.heap.size (.slice A1 n1 c1) (.slice A2 n2 c2) := heap_new W _
        have hws := hkd.size
        have HZ := HSZ.out
        have HXJ := Lib.hid hxi
        clear hxi
        gi_wp2
        have hxi := HXJ.out
        refine ⟨RK.of hbw hkl hlt, fun W2 hg2 => ?_⟩
        have hne : ∀ b, b < w6.heap.size → b < W.heap.size → W2.heap[b]? = W.heap[b]? := fun b h1 h2 => (hg2.block b (by simp; omega) (by intro e; injection e with e; omega)).trans (hbw.block b h2)
        have hkd2 : KD (fun b => b ≠ w.heap.size + 1 + 1 ∧ b ≠ g10 ∧ b < w6.heap.size) w6 W2 := (hkd.trans (KD.of hbw)).trans (KD.grown hg2 (fun r e hE => by injection e with e; have := hE.2.2; omega))
        have hbox2 : Two W2 W.heap.size (.slice A1 n1 c1) (.slice A2 n2 c2) := (hg2.block W.heap.size (by simp) (by intro e; injection e with e; omega)).trans htw
        have h10b : One 3 W2 g10 (.int .i64 (pre.length : Int)) := h10.block (hne _ (by omega) h10.lt)
        have h6b : One 4 W2 (w.heap.size + 1 + 1) (.bool false) := h6.block (hne _ (by omega) h6.lt)
        have hpair : BIn (fun b => k < b) W2 (.slice A1 n1 c1) (T.list.getD i ([], [])).1 ∧ BIn (fun b => k < b) W2 (.slice A2 n2 c2) (T.list.getD i ([], [])).2 := by
          have hcar : ∀ b, k < b → b < W.heap.size → W2.heap[b]? = W.heap[b]? := fun b h1 h2 => (hg2.block b (by simp; omega) (by intro e; injection e with e; omega)).trans (hbw.block b h2)
          have hsz : W.heap.size ≤ W2.heap.size := Nat.le_trans hbw.size hg2.size
          exact ⟨hk1.carry hsz hcar, hx1.carry hsz hcar⟩
        have hW2s : W.heap.size < W2.heap.size := hbox2.lt
        have HK2 := Lib.hid hkd2
        have HB2x := Lib.hid hbox2
        have H10 := Lib.hid h10b
        have H6 := Lib.hid h6b
        have HF2 := HKY6.out W2 hkd2
        have hj : pre.length < (cutM T.list f t cl true).length := by have := HCS.out; omega
        have HJ := Lib.hid hj
        have hgd := HCA.out pre.length hj
        rw [← hxi] at hgd
        have HAT1 := Lib.hid (at45_yes (S' := fun b => k < b) (cutM T.list f t cl true) A4 c4 A1 A2 n1 c1 n2 c2 (pre.length : Int) pre.length rfl W2 HF2.2.1 (by omega) hj ⟨_, _, rfl, by rw [hgd]; exact hpair.1, by rw [hgd]; exact hpair.2⟩)
        have HP := Lib.hid hpair
        have HIL : Hid (i < T.list.length) := by
          have h1 := HCS.out
          have h2 : endT T t cl ≤ T.size := by unfold endT; split; exact T.belowT_le _; exact Nat.le_refl _
          have h3 := HLL.out
          exact (by omega : i < T.list.length)
        have HF2h := Lib.hid HF2
        have HRK2 : Hid (k < W2.heap.size ∧ w6.heap.size + 1 < W2.heap.size) := ⟨by omega, by omega⟩
        obtain ⟨d0, d1⟩ := hbox2.cells
        have d9 := HF2.1.cell
        have d10 := h10b.cell
        have hwk : IntKind.i64.wrap ((pre.length : Int) + 1) = (pre.length : Int) + 1 := wsm _ (by omega)
        have HXI := Lib.hid hxi
        clear hne hkd2 hbox2 h10b h6b hpair HF2 hgd hbw htw hkd h10 h6 hk1 hx1 hg2 hj hxi HZ
        gi_wp2
        refine ⟨trivial, fun h => absurd h (by decide), ?_⟩
        with_reducible refine (CallsIn.inRound l (callsIn_wide.2 HAT1.out)).mono ?_
        rintro e W3 ⟨rfl, hb3⟩
        have B3 := Lib.hid hb3
        clear d0 d1 d9 d10 hb3
        obtain ⟨d0, d1⟩ := (HB2x.out.below B3.out HB2x.out.lt).cells
        have d8 := (HF2h.out.2.2.2.1.below B3.out HF2h.out.2.2.2.1.lt).cell
        have HAT2 := Lib.hid (at45_yes (S' := fun b => k < b) T.list A' c' A1 A2 n1 c1 n2 c2 (i : Int) i rfl W3 (HF2h.out.2.2.1.below B3.out) (by omega) HIL.out ⟨_, _, rfl, HP.out.1.below B3.out, HP.out.2.below B3.out⟩)
        gi_wp2
        refine ⟨trivial, fun h => absurd h (by decide), ?_⟩
        with_reducible refine (CallsIn.inRound l (callsIn_wide.2 HAT2.out)).mono ?_
        rintro e W4 ⟨rfl, hb4⟩
        have B4 : Hid (Below W2.heap.size W2 W4) := B3.out.trans (hb4.mono B3.out.size)
        clear d0 d1 d8 hb4 HAT1 HAT2
        have q10 := H10.out.below B4.out H10.out.lt
        have q6 := H6.out.below B4.out H6.out.lt
        have q5 := HF2h.out.2.2.2.2.below B4.out HF2h.out.2.2.2.2.lt
        have HFX : Hid (RK w6.heap.size (fun x => x < w2.heap.size ∧ x ≠ w.heap.size + 1 + 1) k W2 (W4.setCell ⟨g10, 0, none⟩ (.int .i64 ((pre.length : Int) + 1))) ∧ KD (fun b => b ≠ w.heap.size + 1 + 1 ∧ b ≠ g10 ∧ b < w6.heap.size) w6 (W4.setCell ⟨g10, 0, none⟩ (.int .i64 ((pre.length : Int) + 1))) ∧
            One 3 (W4.setCell ⟨g10, 0, none⟩ (.int .i64 ((pre.length : Int) + 1))) g10 (.int .i64 ((pre.length : Int) + 1)) ∧ One 4 (W4.setCell ⟨g10, 0, none⟩ (.int .i64 ((pre.length : Int) + 1))) (w.heap.size + 1 + 1) (.bool false)) := by
          have hrk := HRK2.out
          have HZ := HSZ.out
          have hset : ∀ b, b ≠ g10 → (W4.setCell ⟨g10, 0, none⟩ (.int .i64 ((pre.length : Int) + 1))).heap[b]? = W4.heap[b]? := fun b hb => heap_setCell_other _ _ _ _ (by simpa using hb)
          have hkd4 : ∀ D : Nat → Prop, ¬ D g10 → KD D W4 (W4.setCell ⟨g10, 0, none⟩ (.int .i64 ((pre.length : Int) + 1))) := fun D hD => ⟨rfl, rfl, rfl, by simp, fun b hb _ => hset b (fun e => hD (by rw [← e]; exact hb))⟩
          exact ⟨(RK.of B4.out hrk.1 hrk.2).trans ⟨hkd4 _ (by omega), hset _ (by omega), hset _ (by omega), hset _ (by omega)⟩, (HK2.out.trans (KD.of B4.out)).trans (hkd4 _ (fun h => h.2.1 rfl)), q10.set _, q6.other (by omega)⟩
        have d10 := q10.cell
        have f10 := q10.frozen
        have HZ := HSZ.out
        have d5 := (q5.other (b := g10) (i := 0) (x := .int .i64 ((pre.length : Int) + 1)) (by omega)).cell
        have e10 := HFX.out.2.2.1.cell
        clear q10 q6 q5 HZ
        by_cases hst : (pre.length : Int) + 1 = stop
        · have hsb : ((pre.length : Int) + 1 == stop) = true := by simpa using hst
          have HST := Lib.hid hst
          clear hst
          gi_wp2
          have hq : (((pre ++ [(i, (Value.agg #[.slice A1 n1 c1, .slice A2 n2 c2]))]).length : Nat) : Int) = (pre.length : Int) + 1 := by simp
          refine ⟨HFX.out.1, rfl, ?_, HFX.out.2.1, ?_, HFX.out.2.2.2, hkk⟩
          · rw [hq]; exact HST.out
          · rw [hq]; exact HFX.out.2.2.1
        · have hsb : ((pre.length : Int) + 1 == stop) = false := by simpa using hst
          clear hst
          gi_wp2
          have hq : (((pre ++ [(i, (Value.agg #[.slice A1 n1 c1, .slice A2 n2 c2]))]).length : Nat) : Int) = (pre.length : Int) + 1 := by simp
          refine ⟨HFX.out.1, HFX.out.2.1, ?_, HFX.out.2.2.2, hkk, ?_⟩
          · rw [hq]; exact HFX.out.2.2.1
          · have := HJ.out; simp; omega
      case done =>
        rintro k xs W hk hS ⟨hkd, h10, h6, _, _⟩ hK
        have hxl : xs.length = (cutM T.list f t cl true).length := by rw [hS, ← HCS.out]
        rw [hxl] at h10
        have HF2 := HKY6.out W hkd
        have d9 := HF2.1.cell
        have d5 := HF2.2.2.2.2.cell
        have d10 := h10.cell
        have HBW : Hid (Below w.heap.size w W) := by
          have hz := HSZ.out
          have hs := HWW.out.size
          exact ⟨hkd.os.trans HWW.out.os, hkd.tape.trans HWW.out.tape, hkd.output.trans HWW.out.output, Nat.le_trans hs hkd.size, fun b hb => (hkd.block b ⟨by omega, by have := HG10.out.1; have := HB3.out.size; have := HG6.out; have := HGY.out; omega, by omega⟩ (by omega)).trans (HWW.out.block b hb)⟩
        have HAW2 : Hid (Calls Try.prog 41 #[] W fun e w' => e = .returned (.bool true) ∧ Hid (One 4 w' (w.heap.size + 1 + 1) (.bool false) ∧ w'.heap[w6.heap.size]? = some (.deferred (some [])) ∧ Below w.heap.size w w')) := (awake15_any W).mono fun e w' ⟨he, hb⟩ =>
          ⟨he, Lib.hid ⟨h6.below hb h6.lt, (hb.block _ (Array.getElem?_eq_some_iff.1 hK).1).trans hK, HBW.out.trans (hb.mono HBW.out.size)⟩⟩
        clear hkd h10 h6 hK
        clear HF2 hxl hS
        by_cases hst : ((cutM T.list f t cl true).length : Int) = stop
        · have hsb : (((cutM T.list f t cl true).length : Int) == stop) = true := by simpa using hst
          clear hst
          go_wp2_with fail
          refine HAW2.out.mono ?_
          rintro e w9 ⟨rfl, h9⟩
          clear d5 d9 d10
          have z0 := h9.out.1.cell
          have zf := h9.out.1.frozen
          have hz := HSZ.out
          have HE : Hid ((w9.setCell ⟨w.heap.size + 1 + 1, 0, none⟩ (.bool true)).heap[w6.heap.size]? = some (.deferred (some [])) ∧ Below w.heap.size w ((w9.setCell ⟨w.heap.size + 1 + 1, 0, none⟩ (.bool true)).putObj w6.heap.size (.deferred none))) := by
            have h1 : (w9.setCell ⟨w.heap.size + 1 + 1, 0, none⟩ (.bool true)).heap[w6.heap.size]? = some (.deferred (some [])) := (heap_setCell_other _ _ _ _ (by simp; omega)).trans h9.out.2.1
            have h2 : Below w.heap.size w (w9.setCell ⟨w.heap.size + 1 + 1, 0, none⟩ (.bool true)) := h9.out.2.2.setCell (p := ⟨w.heap.size + 1 + 1, 0, none⟩) (by show w.heap.size ≤ w.heap.size + 1 + 1; omega) _
            exact And.intro h1 (h2.grown (grownBy_putObj' _ _ _) h2.size (fun k e => by injection e with e; omega))
          go_wp2_with fail
          exact leave_mark rfl (by rfl) (h9.out.1.set _) HE.out.1 ⟨rfl, HE.out.2⟩
        · have hsb : (((cutM T.list f t cl true).length : Int) == stop) = false := by simpa using hst
          clear hst
          go_wp2_with fail
          refine HAW2.out.mono ?_
          rintro e w9 ⟨rfl, h9⟩
          clear d5 d9 d10
          have z0 := h9.out.1.cell
          have zf := h9.out.1.frozen
          have hz := HSZ.out
          have HE : Hid ((w9.setCell ⟨w.heap.size + 1 + 1, 0, none⟩ (.bool true)).heap[w6.heap.size]? = some (.deferred (some [])) ∧ Below w.heap.size w ((w9.setCell ⟨w.heap.size + 1 + 1, 0, none⟩ (.bool true)).putObj w6.heap.size (.deferred none))) := by
            have h1 : (w9.setCell ⟨w.heap.size + 1 + 1, 0, none⟩ (.bool true)).heap[w6.heap.size]? = some (.deferred (some [])) := (heap_setCell_other _ _ _ _ (by simp; omega)).trans h9.out.2.1
            have h2 : Below w.heap.size w (w9.setCell ⟨w.heap.size + 1 + 1, 0, none⟩ (.bool true)) := h9.out.2.2.setCell (p := ⟨w.heap.size + 1 + 1, 0, none⟩) (by show w.heap.size ≤ w.heap.size + 1 + 1; omega) _
            exact And.intro h1 (h2.grown (grownBy_putObj' _ _ _) h2.size (fun k e => by injection e with e; omega))
          go_wp2_with fail
          exact leave_mark rfl (by rfl) (h9.out.1.set _) HE.out.1 ⟨rfl, HE.out.2⟩
      case stop =>
        rintro k c pre W hk hS ⟨rfl, hst, hkd, h10, h6, _⟩ hK
        rw [hst] at h10
        have HF2 := HKY6.out W hkd
        have d9 := HF2.1.cell
        have d5 := HF2.2.2.2.2.cell
        have d10 := h10.cell
        have HBW : Hid (Below w.heap.size w W) := by
          have hz := HSZ.out
          have hs := HWW.out.size
          exact ⟨hkd.os.trans HWW.out.os, hkd.tape.trans HWW.out.tape, hkd.output.trans HWW.out.output, Nat.le_trans hs hkd.size, fun b hb => (hkd.block b ⟨by omega, by have := HG10.out.1; have := HB3.out.size; have := HG6.out; have := HGY.out; omega, by omega⟩ (by omega)).trans (HWW.out.block b hb)⟩
        have HAW2 : Hid (Calls Try.prog 41 #[] W fun e w' => e = .returned (.bool true) ∧ Hid (One 4 w' (w.heap.size + 1 + 1) (.bool false) ∧ w'.heap[w6.heap.size]? = some (.deferred (some [])) ∧ Below w.heap.size w w')) := (awake15_any W).mono fun e w' ⟨he, hb⟩ =>
          ⟨he, Lib.hid ⟨h6.below hb h6.lt, (hb.block _ (Array.getElem?_eq_some_iff.1 hK).1).trans hK, HBW.out.trans (hb.mono HBW.out.size)⟩⟩
        clear hkd h10 h6 hK
        clear HF2 hst hS
        go_wp2_with fail
        refine HAW2.out.mono ?_
        rintro e w9 ⟨rfl, h9⟩
        clear d5 d9 d10
        have z0 := h9.out.1.cell
        have zf := h9.out.1.frozen
        have hz := HSZ.out
        have HE : Hid ((w9.setCell ⟨w.heap.size + 1 + 1, 0, none⟩ (.bool true)).heap[w6.heap.size]? = some (.deferred (some [])) ∧ Below w.heap.size w ((w9.setCell ⟨w.heap.size + 1 + 1, 0, none⟩ (.bool true)).putObj w6.heap.size (.deferred none))) := by
          have h1 : (w9.setCell ⟨w.heap.size + 1 + 1, 0, none⟩ (.bool true)).heap[w6.heap.size]? = some (.deferred (some [])) := (heap_setCell_other _ _ _ _ (by simp; omega)).trans h9.out.2.1
          have h2 : Below w.heap.size w (w9.setCell ⟨w.heap.size + 1 + 1, 0, none⟩ (.bool true)) := h9.out.2.2.setCell (p := ⟨w.heap.size + 1 + 1, 0, none⟩) (by show w.heap.size ≤ w.heap.size + 1 + 1; omega) _
          exact And.intro h1 (h2.grown (grownBy_putObj' _ _ _) h2.size (fun k e => by injection e with e; omega))
        go_wp2_with fail
        exact leave_mark rfl (by rfl) (h9.out.1.set _) HE.out.1 ⟨rfl, HE.out.2⟩

end Go.Proofs.Ytnfhbljhohjkhaa
