/- The set's Nth: the number of which so many are less. -/
import Derived.Test.YtbmiaagkognlpaaDoorBIter
set_option linter.unusedVariables false
set_option linter.unusedSimpArgs false
namespace Go.Proofs.YtbmiaagkognlpaaDoor
open Go.RowKit Go.Shelf
attribute [local go_sem] Oper.semAt_some

theorem cell_of_box_l {W : World} {B : Nat} {v : Value} {t : TypeId} (h : W.heap[B]? = some (.cells #[v] t (0, 0))) : W.cell? ⟨B, 0, none⟩ = some v ∧ W.frozen? ⟨B, 0, none⟩ = false := by
  constructor <;> simp [World.cell?, World.frozen?, h]
theorem set_far (W : World) (p q : Nat) (v : Value) (h : p ≠ q) : (W.setCell ⟨p, 0, none⟩ v).cell? ⟨q, 0, none⟩ = W.cell? ⟨q, 0, none⟩ := World.cell?_setCell_other _ _ _ _ (fun e => h (congrArg Addr.block e))
theorem cell_new_l (W : World) (v : Value) (t : TypeId) : (W.alloc (.cells #[v] t)).cell? ⟨W.heap.size, 0, none⟩ = some v ∧ (W.alloc (.cells #[v] t)).frozen? ⟨W.heap.size, 0, none⟩ = false :=
  cell_of_box_l (World.alloc_heap_new W _)
theorem cell_alloc_l {W : World} {a : Addr} {v : Value} (o : Obj) (h : W.cell? a = some v) : (W.alloc o).cell? a = some v := cell_kept h (World.grownBy_alloc W o none) (fun r e => by cases e)
theorem frozen_alloc_l {W : World} {a : Addr} {v : Value} (o : Obj) (h : W.cell? a = some v) (hf : W.frozen? a = false) : (W.alloc o).frozen? a = false := (frozen_kept h (World.grownBy_alloc W o none) (fun r e => by cases e)).trans hf

set_option maxRecDepth 100000 in
set_option maxHeartbeats 2000000 in
theorem nth_any (m : Nat) (k : Int) (w : World) (hm : m < 4294967296) (hk : -9223372036854775808 ≤ k ∧ k < 9223372036854775808) (hT : TabOK w) :
    Calls Tryd.prog 19 #[.int .u32 (m : Int), .int .i64 k] w fun e w' =>
      ((∃ j : Nat, k = j ∧ j < (listN m 32).length ∧ e = .returned (.tuple #[.int .i64 ((listN m 32).getD j 0), .bool true])) ∨
        ((k < 0 ∨ (listN m 32).length ≤ k) ∧ e = .returned (.tuple #[.int .i64 0, .bool false]))) ∧ Below w.heap.size w w' := by
  refine (callsIn_wide (n := 6)).1 ?_
  have h1 : 1 ≤ 6 := by omega
  refine callsIn_of_wp_marks Tryd.func19 rfl trivial ?_ rfl
  simp only [Tryd.ntmps19, List.size_toArray, List.length_cons, List.length_nil, Nat.reduceAdd, Nat.reduceSub, Array.replicate_succ, Array.replicate_zero, List.push_toArray, List.append_toArray, List.nil_append, List.cons_append]
  have c0 := cell_new_l w (.int .i64 k) 3
  have c1 := cell_new_l (w.alloc (.cells #[.int .i64 k] 3)) (.int .i64 0) 3
  have c2 := cell_new_l ((w.alloc (.cells #[.int .i64 k] 3)).alloc (.cells #[.int .i64 0] 3)) (.bool false) 4
  have c3 := cell_new_l (((w.alloc (.cells #[.int .i64 k] 3)).alloc (.cells #[.int .i64 0] 3)).alloc (.cells #[.bool false] 4)) (.int .u32 (m : Int)) 39
  simp only [World.size_alloc] at c1 c2 c3
  have hB0 : Below w.heap.size w ((((w.alloc (.cells #[.int .i64 k] 3)).alloc (.cells #[.int .i64 0] 3)).alloc (.cells #[.bool false] 4)).alloc (.cells #[.int .u32 (m : Int)] 39)) := ((((Below.refl _ w).alloc (Nat.le_refl _) _).alloc (by simp) _).alloc (by simp; omega) _).alloc (by simp; omega) _
  gi_wp2_with (refine ⟨trivial, ?_⟩; gi_at_call 17; refine (callsIn_wide.2 (allf_any m _)).mono ?_; rintro e w' ⟨rfl, rfl⟩)
  refine wpIn_rangeFunc_ownF rfl h1 (gf := 23) (lb := #[.pointer (some ⟨w.heap.size + 1 + 1 + 1, 0, none⟩)]) rfl trivial (enters_of Tryd.func23 (by kernel_rfl) rfl)
    (all_stops (w.heap.size + 1 + 1 + 1) w.heap.size m hm hT.1 _ (by omega) (by simp) c3.1 (hT.below hT.1 (Nat.le_refl _) hB0)) belowK_t (belowK_b (by simp; omega)) (Below.refl _ _) (fun _ => rfl)
    (fun pre W => ((∀ j : Nat, j < pre.length → k ≠ j) ∧ W.cell? ⟨w.heap.size, 0, none⟩ = some (.int .i64 (wrap64 (k - pre.length))) ∧ W.frozen? ⟨w.heap.size, 0, none⟩ = false ∧
        (W.cell? ⟨w.heap.size + 1, 0, none⟩ = some (.int .i64 0) ∧ W.frozen? ⟨w.heap.size + 1, 0, none⟩ = false) ∧
        (W.cell? ⟨w.heap.size + 1 + 1, 0, none⟩ = some (.bool false) ∧ W.frozen? ⟨w.heap.size + 1 + 1, 0, none⟩ = false)) ∧ Below w.heap.size w W)
    (fun c pre W => (c = .ret ∧ ∃ j : Nat, k = j ∧ pre.length = j + 1 ∧ W.cell? ⟨w.heap.size + 1, 0, none⟩ = some (.int .i64 (pre.getD j 0)) ∧ W.cell? ⟨w.heap.size + 1 + 1, 0, none⟩ = some (.bool true)) ∧ Below w.heap.size w W)
    (OwnFrom.and (Own.from (fun s A B row hs hg hr => ⟨hs.1, cell_kept hs.2.1 hg hr, (frozen_kept hs.2.1 hg hr).trans hs.2.2.1, ⟨cell_kept hs.2.2.2.1.1 hg hr, (frozen_kept hs.2.2.2.1.1 hg hr).trans hs.2.2.2.1.2⟩, ⟨cell_kept hs.2.2.2.2.1 hg hr, (frozen_kept hs.2.2.2.2.1 hg hr).trans hs.2.2.2.2.2⟩⟩) _) (ownFrom_below (Nat.le_refl _) (by simp; omega)))
    (fun c => OwnFrom.and (Own.from (fun s A B row hs hg hr => by
      obtain ⟨h1, j, h2, h3, h4, h5⟩ := hs
      exact ⟨h1, j, h2, h3, cell_kept h4 hg hr, cell_kept h5 hg hr⟩) _) (ownFrom_below (Nat.le_refl _) (by simp; omega)))
    ⟨⟨by simp, by
      have e : wrap64 (k - (([] : List Int).length : Nat)) = k := by simp [wrap64]; omega
      rw [e]; exact cell_alloc_l _ (cell_alloc_l _ (cell_alloc_l _ c0.1)), frozen_alloc_l _ (cell_alloc_l _ (cell_alloc_l _ c0.1)) (frozen_alloc_l _ (cell_alloc_l _ c0.1) (frozen_alloc_l _ c0.1 c0.2)),
      ⟨cell_alloc_l _ (cell_alloc_l _ c1.1), frozen_alloc_l _ (cell_alloc_l _ c1.1) (frozen_alloc_l _ c1.1 c1.2)⟩, ⟨cell_alloc_l _ c2.1, frozen_alloc_l _ c2.1 c2.2⟩⟩, hB0⟩
    (fun x => { tmps := #[.int .u32 (m : Int), .int .i64 k, undef, .pointer (some ⟨w.heap.size, 0, none⟩), .pointer (some ⟨w.heap.size + 1, 0, none⟩), .pointer (some ⟨w.heap.size + 1 + 1, 0, none⟩), .int .i64 x, .int .u32 (m : Int), .func (.func 23) #[] #[.pointer (some ⟨w.heap.size + 1 + 1 + 1, 0, none⟩)], .int .i64 x, undef, undef, undef, undef, undef], defers := [] }) ?assign ?body ?done ?stop
  case assign =>
    intro l x W K hK
    gi_wp2
    exact hK
  case body =>
    rintro l pre x W ⟨⟨hp, hc, hf, ⟨hc1, hf1⟩, ⟨hc2, hf2⟩⟩, hB⟩ hlen
    by_cases hx : k = (pre.length : Nat)
    · have e : wrap64 (k - (pre.length : Nat)) = 0 := by rw [hx]; simp [wrap64]
      rw [e] at hc
      gi_wp2
      refine ⟨(KeepsOthers.setCell _ _ _).trans (KeepsOthers.setCell _ _ _), ⟨rfl, pre.length, hx, by simp, ?_, ?_⟩, (hB.setCell (p := ⟨w.heap.size + 1, 0, none⟩) (by simp) _).setCell (p := ⟨w.heap.size + 1 + 1, 0, none⟩) (by simp; omega) _⟩
      · rw [set_far _ _ _ _ (by omega)]
        rw [World.cell?_setCell_same' _ _ _ (by rw [hc1]; rfl)]
        simp [List.getD_eq_getElem?_getD]
      · exact World.cell?_setCell_same' _ _ _ (by rw [set_far _ _ _ _ (by omega), hc2]; rfl)
    · obtain ⟨q, hq⟩ : ∃ q, wrap64 (k - (pre.length : Nat)) = q := ⟨_, rfl⟩
      have hq0 : (q == 0) = false := by
        rw [beq_eq_false_iff_ne, ← hq]; unfold wrap64; omega
      have hq1 : wrap64 (q - 1) = wrap64 (k - ((pre ++ [x]).length : Nat)) := by
        rw [← hq]; unfold wrap64; simp; omega
      rw [hq] at hc
      have HQ := Lib.hid hq1
      clear hq1 hq
      gi_wp2
      refine ⟨KeepsOthers.setCell _ _ _, (Below.refl w.heap.size W).setCell (p := ⟨w.heap.size, 0, none⟩) (Nat.le_refl _) _, ⟨fun j hj => ?_, ?_, by rw [World.frozen?_setCell]; exact hf, ⟨by rw [set_far _ _ _ _ (by omega)]; exact hc1, by rw [World.frozen?_setCell]; exact hf1⟩, ⟨by rw [set_far _ _ _ _ (by omega)]; exact hc2, by rw [World.frozen?_setCell]; exact hf2⟩⟩, hB.setCell (p := ⟨w.heap.size, 0, none⟩) (Nat.le_refl _) _⟩
      · simp at hj
        by_cases e : j = pre.length
        · subst e; exact hx
        · exact hp j (by omega)
      · rw [← HQ.out]; exact World.cell?_setCell_same' _ _ _ (by rw [hc]; rfl)
  case done =>
    rintro D ys W hD rfl ⟨⟨hne, _, _, ⟨hc1, hf1⟩, ⟨hc2, hf2⟩⟩, hB⟩ hK
    gi_wp2
    have hK1 := (KeepsOthers.setCell W ⟨w.heap.size + 1, 0, none⟩ (.int .i64 0)).same D _ hK rfl
    have hK2 := (KeepsOthers.setCell (W.setCell ⟨w.heap.size + 1, 0, none⟩ (.int .i64 0)) ⟨w.heap.size + 1 + 1, 0, none⟩ (.bool false)).same D _ hK1 rfl
    refine ⟨by simp, .inl ⟨_, _, rfl, run_takeDeferred hK2, ?_⟩⟩
    have a1 : ((W.setCell ⟨w.heap.size + 1, 0, none⟩ (.int .i64 0)).setCell ⟨w.heap.size + 1 + 1, 0, none⟩ (.bool false)).cell? ⟨w.heap.size + 1, 0, none⟩ = some (.int .i64 0) := by
      rw [set_far _ _ _ _ (by omega)]; exact World.cell?_setCell_same' _ _ _ (by rw [hc1]; rfl)
    have a2 : ((W.setCell ⟨w.heap.size + 1, 0, none⟩ (.int .i64 0)).setCell ⟨w.heap.size + 1 + 1, 0, none⟩ (.bool false)).cell? ⟨w.heap.size + 1 + 1, 0, none⟩ = some (.bool false) :=
      World.cell?_setCell_same' _ _ _ (by rw [set_far _ _ _ _ (by omega), hc2]; rfl)
    have hc5 := cell_kept a1 (grownBy_putObj' _ D (.deferred none)) (fun r e => by cases e; exact ⟨_, hK2, rfl⟩)
    have hc6 := cell_kept a2 (grownBy_putObj' _ D (.deferred none)) (fun r e => by cases e; exact ⟨_, hK2, rfl⟩)
    refine ⟨.tuple #[.int .i64 0, .bool false], ?_, .inr ⟨?_, rfl⟩, ((hB.setCell (p := ⟨w.heap.size + 1, 0, none⟩) (by simp) _).setCell (p := ⟨w.heap.size + 1 + 1, 0, none⟩) (by simp; omega) _).trans (belowK_b (w := w) (Nat.le_refl _) _ D _ _ (by simp at hD; omega) hK2 rfl rfl)⟩
    · simp [results, Tryd.f19, go_sem, hc5, hc6]
    · rcases Int.lt_or_le k 0 with h | h
      · exact .inl h
      · refine .inr ?_
        rcases Int.lt_or_le k (listN m 32).length with h2 | h2
        · exact absurd (by omega) (hne k.toNat (by omega))
        · exact h2
  case stop =>
    rintro D c pre W hD hpre ⟨⟨rfl, j, hkj, hl, hc1, hc2⟩, hB⟩ hK
    gi_wp2
    refine ⟨by simp, .inl ⟨_, _, rfl, run_takeDeferred hK, ?_⟩⟩
    have hc5 := cell_kept hc1 (grownBy_putObj' _ D (.deferred none)) (fun r e => by cases e; exact ⟨_, hK, rfl⟩)
    have hc6 := cell_kept hc2 (grownBy_putObj' _ D (.deferred none)) (fun r e => by cases e; exact ⟨_, hK, rfl⟩)
    obtain ⟨suf, hsuf⟩ := hpre
    have e : (listN m 32).getD j 0 = pre.getD j 0 := by
      rw [← hsuf, List.getD_eq_getElem?_getD, List.getElem?_append_left (by omega), ← List.getD_eq_getElem?_getD]
    refine ⟨.tuple #[.int .i64 (pre.getD j 0), .bool true], ?_, .inl ⟨j, hkj, by rw [← hsuf, List.length_append]; omega, by rw [e]⟩, hB.trans (belowK_b (w := w) (Nat.le_refl _) W D _ _ (by simp at hD; omega) hK rfl rfl)⟩
    simp [results, Tryd.f19, go_sem, hc5, hc6]

end Go.Proofs.YtbmiaagkognlpaaDoor
