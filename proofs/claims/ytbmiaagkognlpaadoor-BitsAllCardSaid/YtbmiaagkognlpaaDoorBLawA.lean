/- Walk of the law BitsAll: it returns true, where the library's table lies as the program lays it. -/
import Derived.Test.YtbmiaagkognlpaaDoorBNth
set_option linter.unusedVariables false
set_option linter.unusedSimpArgs false
namespace Go.Proofs.YtbmiaagkognlpaaDoor
open Go.RowKit Go.Shelf
attribute [local go_sem] Oper.semAt_some

theorem eqNilF (d : Nat) (f : Fn) (c : Array Value) (W : World) : (Op.equalIn (d + 1) 42 (.func f #[] c) .nilFunc).run Tryd.prog W = .ok false W := by
  simp [Op.equalIn, run_underlying Tryd.underlying42]
theorem nilF (f : Fn) (c : Array Value) (W : World) : (binOp .eql 42 (.func f #[] c) .nilFunc).run Tryd.prog W = .ok (.bool false) W := by
  have h : (Op.equal 42 (.func f #[] c) .nilFunc).run Tryd.prog W = .ok false W := eqNilF 9999 f c W
  simp only [binOp]
  simp [h]
attribute [local go_sem] nilF

theorem pre_snoc (pre l : List Int) (x : Int) (hp : pre <+: l) (hlt : pre.length < l.length) : (pre ++ [x] <+: l) ↔ l.getD pre.length 0 = x := by
  obtain ⟨suf, rfl⟩ := hp
  cases suf with
  | nil => simp at hlt
  | cons d suf =>
    simp only [List.getD_eq_getElem?_getD, List.getElem?_append_right (Nat.le_refl _), Nat.sub_self, List.getElem?_cons_zero, Option.getD_some]
    rw [List.prefix_append_right_inj]
    simp [List.cons_prefix_cons, eq_comm]
theorem pre_long (pre l : List Int) (x : Int) (hge : ¬ pre.length < l.length) : ¬ (pre ++ [x] <+: l) := fun h => by
  have := h.length_le
  simp at this
  omega

/-- The list's cells, as they read. -/
def Reads (N : Nat) (W : World) (A : Option Addr) (l : List Int) : Prop := ∀ j, j < l.length → ∃ b o, A = some ⟨b, o, none⟩ ∧ b < N ∧ W.cell? ⟨b, o + j, none⟩ = some (.int .i64 (l.getD j 0))

set_option maxRecDepth 100000 in
set_option maxHeartbeats 3200000 in
theorem bitsAll_any (m : Nat) (stop : Int) (w : World) (hm : m < 4294967296) (hT : TabOK w) :
    Calls Tryd.prog 7 #[.int .u32 (m : Int), .int .i64 stop] w fun e w' => e = .returned (.bool true) ∧ Below w.heap.size w w' := by
  refine (callsIn_wide (n := 6)).1 ?_
  have h1 : 1 ≤ 6 := by omega
  refine callsIn_of_wp_marks Tryd.func7 rfl trivial ?_ rfl
  simp only [Tryd.ntmps7, List.size_toArray, List.length_cons, List.length_nil, Nat.reduceAdd, Nat.reduceSub, Array.replicate_succ, Array.replicate_zero, List.push_toArray, List.append_toArray, List.nil_append, List.cons_append]
  have c0 := cell_new_l w (.int .i64 stop) 3
  have c1 := cell_new_l (w.alloc (.cells #[.int .i64 stop] 3)) (.bool false) 4
  have c0' := cell_alloc_l (.cells #[.bool false] 4) c0.1
  simp only [World.size_alloc] at c1
  have hB0 : Below w.heap.size w ((w.alloc (.cells #[.int .i64 stop] 3)).alloc (.cells #[.bool false] 4)) := ((Below.refl _ w).alloc (Nat.le_refl _) _).alloc (by simp) _
  have HC0 := Lib.hid c0'
  have HC1 := Lib.hid c1
  have HB0 := Lib.hid hB0
  clear c0 c0' c1 hB0
  gi_wp2_with fail
  refine ⟨trivial, ?_⟩
  refine (callsIn_wide.2 (list_any m _ hm)).mono ?_
  rintro e w1 ⟨v, rfl, hown, hb1⟩
  obtain ⟨A, c, rfl, hR, _, _⟩ := RdI.owned hown
  have hs1 : w.heap.size + 1 + 1 ≤ w1.heap.size := by have := hb1.size; simp at this; omega
  have hb1' : Below (w.heap.size + 1 + 1) ((w.alloc (.cells #[.int .i64 stop] 3)).alloc (.cells #[.bool false] 4)) w1 := by
    have := hb1; simp only [World.size_alloc] at this; exact this
  have hB1 : Below w.heap.size w w1 := HB0.out.trans (hb1'.mono (by omega))
  have d0 : w1.cell? ⟨w.heap.size, 0, none⟩ = some (.int .i64 stop) := (hb1'.cell (p := ⟨w.heap.size, 0, none⟩) (by simp; omega)).trans HC0.out
  have d1 : w1.cell? ⟨w.heap.size + 1, 0, none⟩ = some (.bool false) := (hb1'.cell (p := ⟨w.heap.size + 1, 0, none⟩) (by simp)).trans HC1.out.1
  have f1 : w1.frozen? ⟨w.heap.size + 1, 0, none⟩ = false := (hb1'.frozen (p := ⟨w.heap.size + 1, 0, none⟩) (by simp)).trans HC1.out.2
  have hrd : Reads w1.heap.size w1 A (listN m 32) := by
    intro j hj
    obtain ⟨b, o, hA, hbn, hc⟩ := hR.cell (by omega)
    exact ⟨b, o, hA, hbn, hc j hj⟩
  have hll : (listN m 32).length ≤ 32 := by rw [listN_len]; exact cnt_le _ _
  have HRD := Lib.hid hrd
  have HS1 := Lib.hid hs1
  have HB1 := Lib.hid hB1
  have D0 := Lib.hid d0
  have D1 := Lib.hid d1
  have F1 := Lib.hid f1
  clear hown hR hb1 hb1' hB1 d0 d1 f1 hrd HC0 HC1 HB0
  generalize hl : listN m 32 = l at *
  have HL := Lib.hid hl
  clear hl
  gi_wp2_with fail
  refine ⟨trivial, ?_⟩
  refine (callsIn_wide.2 (allf_any m _)).mono ?_
  rintro e w2 ⟨rfl, rfl⟩
  gi_wp2_with fail
  have k0 := cell_alloc_l (.cells #[.int .u32 (m : Int)] 39) (cell_alloc_l (.cells #[.int .i64 0] 3) (cell_alloc_l (.cells #[.slice A l.length c] 29) D0.out))
  have k1 := cell_alloc_l (.cells #[.int .u32 (m : Int)] 39) (cell_alloc_l (.cells #[.int .i64 0] 3) (cell_alloc_l (.cells #[.slice A l.length c] 29) D1.out))
  have g1 := frozen_alloc_l (.cells #[.int .u32 (m : Int)] 39) (cell_alloc_l (.cells #[.int .i64 0] 3) (cell_alloc_l (.cells #[.slice A l.length c] 29) D1.out)) (frozen_alloc_l (.cells #[.int .i64 0] 3) (cell_alloc_l (.cells #[.slice A l.length c] 29) D1.out) (frozen_alloc_l (.cells #[.slice A l.length c] 29) D1.out F1.out))
  have k2 := cell_alloc_l (.cells #[.int .u32 (m : Int)] 39) (cell_alloc_l (.cells #[.int .i64 0] 3) (cell_new_l w1 (.slice A l.length c) 29).1)
  have e3 := cell_new_l (w1.alloc (.cells #[.slice A l.length c] 29)) (.int .i64 0) 3
  have k3 := cell_alloc_l (.cells #[.int .u32 (m : Int)] 39) e3.1
  have g3 := frozen_alloc_l (.cells #[.int .u32 (m : Int)] 39) e3.1 e3.2
  have k4 := cell_new_l ((w1.alloc (.cells #[.slice A l.length c] 29)).alloc (.cells #[.int .i64 0] 3)) (.int .u32 (m : Int)) 39
  simp only [World.size_alloc] at k3 g3 k4
  have krd : Reads w1.heap.size (((w1.alloc (.cells #[.slice A l.length c] 29)).alloc (.cells #[.int .i64 0] 3)).alloc (.cells #[.int .u32 (m : Int)] 39)) A l := by
    intro j hj
    obtain ⟨b, o, hA, hbn, hc⟩ := HRD.out j hj
    exact ⟨b, o, hA, hbn, cell_alloc_l _ (cell_alloc_l _ (cell_alloc_l _ hc))⟩
  have hs1 := HS1.out
  have hB2 : Below w.heap.size w (((w1.alloc (.cells #[.slice A l.length c] 29)).alloc (.cells #[.int .i64 0] 3)).alloc (.cells #[.int .u32 (m : Int)] 39)) := ((HB1.out.alloc (by omega) _).alloc (by simp; omega) _).alloc (by simp; omega) _
  refine wpIn_rangeFunc_ownF rfl h1 (gf := 23) (lb := #[.pointer (some ⟨w1.heap.size + 1 + 1, 0, none⟩)]) rfl trivial (enters_of Tryd.func23 (by kernel_rfl) rfl)
    (all_stops (w1.heap.size + 1 + 1) w.heap.size m hm hT.1 _ (by omega) (by simp) k4.1 (hT.below hT.1 (Nat.le_refl _) hB2)) belowK_t (belowK_b (by simp; omega)) (Below.refl _ _) (fun _ => rfl)
    (fun pre W => ((pre <+: l) ∧ W.cell? ⟨w.heap.size, 0, none⟩ = some (.int .i64 stop) ∧ (W.cell? ⟨w.heap.size + 1, 0, none⟩ = some (.bool false) ∧ W.frozen? ⟨w.heap.size + 1, 0, none⟩ = false) ∧
        W.cell? ⟨w1.heap.size, 0, none⟩ = some (.slice A l.length c) ∧ (W.cell? ⟨w1.heap.size + 1, 0, none⟩ = some (.int .i64 (pre.length : Nat)) ∧ W.frozen? ⟨w1.heap.size + 1, 0, none⟩ = false) ∧ Reads w1.heap.size W A l) ∧ Below w.heap.size w W)
    (fun cc pre W => ((cc = .ret ∧ ¬ (pre <+: l)) ∨ (cc = .exit 0 ∧ (pre <+: l) ∧ W.cell? ⟨w.heap.size, 0, none⟩ = some (.int .i64 stop) ∧ (W.cell? ⟨w.heap.size + 1, 0, none⟩ = some (.bool false) ∧ W.frozen? ⟨w.heap.size + 1, 0, none⟩ = false) ∧
        W.cell? ⟨w1.heap.size, 0, none⟩ = some (.slice A l.length c) ∧ W.cell? ⟨w1.heap.size + 1, 0, none⟩ = some (.int .i64 stop))) ∧ Below w.heap.size w W)
    (OwnFrom.and (Own.from (fun s X Y row hs hg hr => ⟨hs.1, cell_kept hs.2.1 hg hr, ⟨cell_kept hs.2.2.1.1 hg hr, (frozen_kept hs.2.2.1.1 hg hr).trans hs.2.2.1.2⟩, cell_kept hs.2.2.2.1 hg hr, ⟨cell_kept hs.2.2.2.2.1.1 hg hr, (frozen_kept hs.2.2.2.2.1.1 hg hr).trans hs.2.2.2.2.1.2⟩,
      fun j hj => by obtain ⟨b, o, hA, hbn, hc⟩ := hs.2.2.2.2.2 j hj; exact ⟨b, o, hA, hbn, cell_kept hc hg hr⟩⟩) _) (ownFrom_below (Nat.le_refl _) (by simp; omega)))
    (fun cc => OwnFrom.and (Own.from (fun s X Y row hs hg hr => by
      rcases hs with hs | ⟨e1, e2, e3, e4, e5, e6⟩
      · exact .inl hs
      · exact .inr ⟨e1, e2, cell_kept e3 hg hr, ⟨cell_kept e4.1 hg hr, (frozen_kept e4.1 hg hr).trans e4.2⟩, cell_kept e5 hg hr, cell_kept e6 hg hr⟩) _) (ownFrom_below (Nat.le_refl _) (by simp; omega)))
    ⟨⟨List.nil_prefix, k0, ⟨k1, g1⟩, k2, ⟨k3, g3⟩, krd⟩, hB2⟩
    (fun x => { tmps := #[.int .u32 (m : Int), .int .i64 stop, undef, .pointer (some ⟨w.heap.size, 0, none⟩), .pointer (some ⟨w.heap.size + 1, 0, none⟩), .pointer (some ⟨w1.heap.size, 0, none⟩), .pointer (some ⟨w1.heap.size + 1, 0, none⟩), .func (.func 23) #[] #[.pointer (some ⟨w1.heap.size + 1 + 1, 0, none⟩)], .int .i64 x, .int .u32 (m : Int), .slice A l.length c, .int .u32 (m : Int), .func (.func 23) #[] #[.pointer (some ⟨w1.heap.size + 1 + 1, 0, none⟩)], .func (.func 23) #[] #[.pointer (some ⟨w1.heap.size + 1 + 1, 0, none⟩)], .bool false, .func (.func 23) #[] #[.pointer (some ⟨w1.heap.size + 1 + 1, 0, none⟩)], .int .i64 x, undef, undef, undef, undef, undef, undef, undef, undef, undef, undef, undef, undef, undef, undef, undef, undef, undef, undef, undef, undef, undef, undef, undef, undef, undef, undef, undef, undef, undef], defers := [] }) ?assign ?body ?done ?stop
  case assign =>
    intro l x W K hK
    gi_wp2
    exact hK
  case body =>
    rintro r pre x W ⟨⟨hp, hc0, ⟨hc1, hf1⟩, hc2, ⟨hc3, hf3⟩, hrd⟩, hB⟩ hlen
    by_cases hlt : pre.length < l.length
    · obtain ⟨b, o, rfl, _, hcell⟩ := hrd pre.length hlt
      have hiff := pre_snoc pre l x hp hlt
      obtain ⟨d, hd⟩ : ∃ d, l.getD pre.length 0 = d := ⟨_, rfl⟩
      rw [hd] at hcell hiff
      have hnl : ¬ ((l.length : Nat) : Int) ≤ ((pre.length : Nat) : Int) := by omega
      have hll2 : pre.length < 9223372036854775807 := by omega
      have hnge : ¬ l.length ≤ pre.length := by omega
      have HI := Lib.hid hiff
      have HP := Lib.hid hp
      have HLEN := Lib.hid (show ((pre ++ [x]).length : Nat) = pre.length + 1 by simp)
      have HRD2 := Lib.hid hrd
      clear hiff hp hd hrd
      generalize pre.length = pl at *
      by_cases hdx : d = x
      · subst hdx
        have hdd : (d != d) = false := by simp
        by_cases hst : ((pl : Int) + 1) = stop
        · subst hst
          gi_wp2
          refine ⟨KeepsOthers.setCell _ _ _, .inr ⟨rfl, HI.out.2 trivial, (set_far _ _ _ _ (by omega)).trans hc0, ⟨(set_far _ _ _ _ (by omega)).trans hc1, by rw [World.frozen?_setCell]; exact hf1⟩, (set_far _ _ _ _ (by omega)).trans hc2, World.cell?_setCell_same' _ _ _ (by rw [hc3]; rfl)⟩, hB.setCell (p := ⟨w1.heap.size + 1, 0, none⟩) (by simp; omega) _⟩
        · have hst2 : (((pl : Int) + 1) == stop) = false := by rw [beq_eq_false_iff_ne]; exact hst
          gi_wp2
          refine ⟨KeepsOthers.setCell _ _ _, (Below.refl w.heap.size W).setCell (p := ⟨w1.heap.size + 1, 0, none⟩) (by simp; omega) _, ⟨HI.out.2 trivial, (set_far _ _ _ _ (by omega)).trans hc0, ⟨(set_far _ _ _ _ (by omega)).trans hc1, by rw [World.frozen?_setCell]; exact hf1⟩, (set_far _ _ _ _ (by omega)).trans hc2,
            ⟨by rw [HLEN.out]; exact World.cell?_setCell_same' _ _ _ (by rw [hc3]; rfl), by rw [World.frozen?_setCell]; exact hf3⟩, fun j hj => ?_⟩, hB.setCell (p := ⟨w1.heap.size + 1, 0, none⟩) (by simp; omega) _⟩
          obtain ⟨b2, o2, hA2, hb2n, hc4⟩ := HRD2.out j hj
          refine ⟨b2, o2, hA2, hb2n, ?_⟩
          rw [World.cell?_setCell_other _ _ _ _ (fun e => ?_)]
          · exact hc4
          · have e2 := congrArg Addr.block e
            simp at e2
            omega
      · have hdd : (d != x) = true := by rw [bne_iff_ne]; exact hdx
        gi_wp2
        exact ⟨KeepsOthers.setCell _ _ _, .inl ⟨rfl, fun h => hdx (HI.out.1 h)⟩, hB.setCell (p := ⟨w.heap.size + 1, 0, none⟩) (by simp) _⟩
    · have hge : l.length ≤ pre.length := by omega
      have hnp := pre_long pre l x hlt
      have HNP := Lib.hid hnp
      clear hnp
      gi_wp2
      exact ⟨KeepsOthers.setCell _ _ _, .inl ⟨rfl, HNP.out⟩, hB.setCell (p := ⟨w.heap.size + 1, 0, none⟩) (by simp) _⟩
  case done =>
    rintro D ys W hD hys ⟨⟨hp, hc0, ⟨hc1, hf1⟩, hc2, ⟨hc3, hf3⟩, hrd⟩, hB⟩ hK
    have hyl : ys = l := hys.trans HL.out
    subst hyl
    clear hp hys hrd
    gi_wp2_with fail
    all_goals (
      refine ⟨trivial, ?_⟩
      refine (callsIn_wide.2 (awake_any _)).mono ?_
      rintro e w4 ⟨rfl, hb4⟩
      have hD4 : D < W.heap.size := (Array.getElem?_eq_some_iff.1 hK).1
      have hK4 := (hb4.block D hD4).trans hK
      have hW1 : w.heap.size + 1 < W.heap.size := World.block_lt_of_cell? W _ hc1
      have c14 := (hb4.cell (p := ⟨w.heap.size + 1, 0, none⟩) hW1).trans hc1
      have f14 := (hb4.frozen (p := ⟨w.heap.size + 1, 0, none⟩) hW1).trans hf1
      have hB4 := hB.trans (hb4.mono hB.size)
      have HB4 := Lib.hid hB4
      clear hb4 hB4
      gi_wp2_with fail
      have hK5 := (KeepsOthers.setCell w4 ⟨w.heap.size + 1, 0, none⟩ (.bool true)).same D _ hK4 rfl
      refine ⟨by simp, .inl ⟨_, _, rfl, run_takeDeferred hK5, ?_⟩⟩
      have hc5 := cell_kept (World.cell?_setCell_same' w4 ⟨w.heap.size + 1, 0, none⟩ (.bool true) (by rw [c14]; rfl)) (grownBy_putObj' _ D (.deferred none)) (fun r e => by cases e; exact ⟨_, hK5, rfl⟩)
      refine ⟨.bool true, ?_, rfl, (HB4.out.setCell (p := ⟨w.heap.size + 1, 0, none⟩) (by simp) _).trans (belowK_b (w := w) (Nat.le_refl _) _ D _ _ (by simp at hD; omega) hK5 rfl rfl)⟩
      simp [results, Tryd.f7, go_sem, hc5])
  case stop =>
    rintro D cc pre W hD hpre ⟨⟨rfl, hno⟩ | ⟨rfl, hp, hc0, ⟨hc1, hf1⟩, hc2, hc3⟩, hB⟩ hK
    · exact absurd (HL.out ▸ hpre) hno
    · clear hp hpre
      gi_wp2_with fail
      refine ⟨trivial, ?_⟩
      refine (callsIn_wide.2 (awake_any _)).mono ?_
      rintro e w4 ⟨rfl, hb4⟩
      have hD4 : D < W.heap.size := (Array.getElem?_eq_some_iff.1 hK).1
      have hK4 := (hb4.block D hD4).trans hK
      have hW1 : w.heap.size + 1 < W.heap.size := World.block_lt_of_cell? W _ hc1
      have c14 := (hb4.cell (p := ⟨w.heap.size + 1, 0, none⟩) hW1).trans hc1
      have f14 := (hb4.frozen (p := ⟨w.heap.size + 1, 0, none⟩) hW1).trans hf1
      have hB4 := hB.trans (hb4.mono hB.size)
      have HB4 := Lib.hid hB4
      clear hb4 hB4
      gi_wp2_with fail
      have hK5 := (KeepsOthers.setCell w4 ⟨w.heap.size + 1, 0, none⟩ (.bool true)).same D _ hK4 rfl
      refine ⟨by simp, .inl ⟨_, _, rfl, run_takeDeferred hK5, ?_⟩⟩
      have hc5 := cell_kept (World.cell?_setCell_same' w4 ⟨w.heap.size + 1, 0, none⟩ (.bool true) (by rw [c14]; rfl)) (grownBy_putObj' _ D (.deferred none)) (fun r e => by cases e; exact ⟨_, hK5, rfl⟩)
      refine ⟨.bool true, ?_, rfl, (HB4.out.setCell (p := ⟨w.heap.size + 1, 0, none⟩) (by simp) _).trans (belowK_b (w := w) (Nat.le_refl _) _ D _ _ (by simp at hD; omega) hK5 rfl rfl)⟩
      simp [results, Tryd.f7, go_sem, hc5]

end Go.Proofs.YtbmiaagkognlpaaDoor
