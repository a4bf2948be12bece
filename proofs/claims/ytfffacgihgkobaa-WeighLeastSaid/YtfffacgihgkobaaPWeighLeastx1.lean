-- PRINTED BY print.sh 35421559b90ae4d0a3588c463048766b98c2df88dd9212a6774a882060cdf62d: not written by this session
import Derived.Test.YtfffacgihgkobaaPWeighLeastx0
namespace Go.Proofs.Ytfffacgihgkobaa.PWeighLeast
open Go.RowKit Go.Proofs.YtfffacgihgkobaaW.PrintWords Go.Proofs.YtfffacgihgkobaaW.PrintLast Go.Proofs.YtfffacgihgkobaaW.PrintMore
attribute [local go_sem] max2_int min2_int max_two min_two max_three min_three max_four min_four   -- for this text's walks alone
set_option linter.unusedVariables false
set_option linter.unusedSimpArgs false

/-! ### weigh_size: function 33 -/
def weigh_size.f (a0 : Int) : Option (Int) := some (mn (mx a0 0) 1048576)
set_option maxHeartbeats 8000000 in
set_option maxRecDepth 100000 in
theorem weigh_size.calls (a0 : Int) (r : Int) (w : World) (h : weigh_size.f a0 = some r) :
    Calls Try.prog 33 #[.int .i64 a0] w fun e w' => e = .returned (.int .i64 r) ∧ Below w.heap.size w w' := by
  have HB := Aside0.mk (Below.refl w.heap.size w)
  have H : (some (mn (mx a0 0) 1048576)) = some r := h
  clear h
  obtain ⟨ji2, hji2⟩ : ∃ j_ : Int, (mx a0 0) = j_ := ⟨_, rfl⟩
  replace H : (some (mn (ji2) 1048576)) = some r := by first | (rw [hji2] at H; exact H) | (simp only [hji2] at H ⊢; exact H)
  (try (have hji2l : 0 ≤ ji2 := by (rw [← hji2]; unfold mx; (repeat' split) <;> omega)))
  (try (have hji2m : 0 ≤ ji2 := by omega))
  have hji2_ : (if a0 < 0 then 0 else a0) = ji2 := hji2
  obtain ⟨ji3, hji3⟩ : ∃ j_ : Int, (mn (ji2) 1048576) = j_ := ⟨_, rfl⟩
  replace H : (some ji3) = some r := by first | (rw [hji3] at H; exact H) | (simp only [hji3] at H ⊢; exact H)
  have hji3_ : (if 1048576 < (ji2) then 1048576 else (ji2)) = ji3 := hji3
  obtain rfl := Option.some.inj H
  go_enter Try.func33, Try.ntmps33
  go_wp2
  go_ret
  exact ⟨by first | rfl | (simp [errW_none, errW_some] <;> rfl) | (simp only [← hji2, ← hji3]; first | rfl | (simp [errW_none, errW_some] <;> rfl)) | (simp [*, errW_none, errW_some] <;> rfl), by repeat (first | (with_reducible first | exact HB.out | apply below_alloc | apply pw_below_drewN | apply below_drew1) | exact HB.out)⟩

/-! ### weigh_Beside: function 14 -/
def weigh_Beside.f (a0 : Int) : Option (Int) := (weigh_size.f a0).bind fun t101 => (some (wrap64 ((wrap64 (Int.tdiv (wrap64 ((wrap64 ((wrap64 (t101 + 1)) + 3)) - 1)) 3)) - 1)))
set_option maxHeartbeats 8000000 in
set_option maxRecDepth 100000 in
theorem weigh_Beside.calls (a0 : Int) (r : Int) (w : World) (h : weigh_Beside.f a0 = some r) :
    Calls Try.prog 14 #[.int .i64 a0] w fun e w' => e = .returned (.int .i64 r) ∧ Below w.heap.size w w' := by
  have HB := Aside0.mk (Below.refl w.heap.size w)
  have H : ((weigh_size.f a0).bind fun t101 => (some (wrap64 ((wrap64 (Int.tdiv (wrap64 ((wrap64 ((wrap64 (t101 + 1)) + 3)) - 1)) 3)) - 1)))) = some r := h
  clear h
  replace H := Option.bind_eq_some_iff.mp H
  obtain ⟨t101, A20, H⟩ := H
  replace H : (some (wrap64 ((wrap64 (Int.tdiv (wrap64 ((wrap64 ((wrap64 (t101 + 1)) + 3)) - 1)) 3)) - 1))) = some r := H
  have A2 := Aside0.mk A20
  clear A20
  obtain rfl := Option.some.inj H
  go_enter Try.func14, Try.ntmps14
  go_wp2_with (first | ((with_reducible refine gate_callee (f := 33) rfl ?_); refine goesL_ (some 4) rfl rfl Try.func33 (by kernel_rfl) rfl #[.int .i64 a0] rfl (by (try simp only [List.map_toArray, List.map_cons, List.map_nil]); first | done | rfl | (simp only [List.length_drop, List.length_take]; rfl)) ?_; (with_reducible refine (weigh_size.calls a0 t101 _ A2.out).mono ?_); rintro e w3 ⟨rfl, hb⟩; refine ⟨_, rfl, ?_⟩; have n0_ := Aside0.mk (below_step (by repeat (first | (with_reducible first | exact HB.out | apply below_alloc | apply pw_below_drewN | apply below_drew1) | exact HB.out)) hb); clear HB; have HB := n0_; clear n0_; (try clear hb); (try clear hb2); (try clear hk); (try clear hi)))
  go_ret
  exact ⟨by first | rfl | (simp [errW_none, errW_some] <;> rfl) | (simp [*, errW_none, errW_some] <;> rfl), by repeat (first | (with_reducible first | exact HB.out | apply below_alloc | apply pw_below_drewN | apply below_drew1) | exact HB.out)⟩

/-! ### weigh_even: function 34 -/
def weigh_even.f (a0 : Int) (a1 : Int) : Option (Bool) := if (wrap64 (a0 + 1)) ≤ (wrap64 (3 * (wrap64 (a1 + 1)))) then (some (decide ((wrap64 (a1 + 1)) ≤ (wrap64 (3 * (wrap64 (a0 + 1))))))) else (some false)
set_option maxHeartbeats 8000000 in
set_option maxRecDepth 100000 in
theorem weigh_even.calls (a0 : Int) (a1 : Int) (r : Bool) (w : World) (h : weigh_even.f a0 a1 = some r) :
    Calls Try.prog 34 #[.int .i64 a0, .int .i64 a1] w fun e w' => e = .returned (.bool r) ∧ Drawn0 w w' := by
  have H : (if (wrap64 (a0 + 1)) ≤ (wrap64 (3 * (wrap64 (a1 + 1)))) then (some (decide ((wrap64 (a1 + 1)) ≤ (wrap64 (3 * (wrap64 (a0 + 1))))))) else (some false)) = some r := h
  clear h
  by_cases c3 : (wrap64 (a0 + 1)) ≤ (wrap64 (3 * (wrap64 (a1 + 1))))
  · rw [if_pos c3] at H
    have c3b0 : decide ((wrap64 (a0 + 1)) ≤ (wrap64 (3 * (wrap64 (a1 + 1))))) = true := decide_eq_true c3
    clear c3
    obtain rfl := Option.some.inj H
    go_enter Try.func34, Try.ntmps34
    go_wp2
    go_ret
    exact ⟨by first | rfl | (simp; done) | (simp [*]; done), by repeat (first | exact Drawn0.refl _ | apply Drawn0.step)⟩
  · rw [if_neg c3] at H
    have c3b0 : decide ((wrap64 (a0 + 1)) ≤ (wrap64 (3 * (wrap64 (a1 + 1))))) = false := decide_eq_false c3
    clear c3
    obtain rfl := Option.some.inj H
    go_enter Try.func34, Try.ntmps34
    go_wp2
    go_ret
    exact ⟨by first | rfl | (simp; done) | (simp [*]; done), by repeat (first | exact Drawn0.refl _ | apply Drawn0.step)⟩

/-! ### weigh_Even: function 17 -/
def weigh_Even.f (a0 : Int) (a1 : Int) : Option (Bool) := (weigh_size.f a0).bind fun t102 => ((weigh_size.f a1).bind fun t103 => ((weigh_even.f t102 t103).bind fun t104 => (some t104)))
set_option maxHeartbeats 8000000 in
set_option maxRecDepth 100000 in
theorem weigh_Even.calls (a0 : Int) (a1 : Int) (r : Bool) (w : World) (h : weigh_Even.f a0 a1 = some r) :
    Calls Try.prog 17 #[.int .i64 a0, .int .i64 a1] w fun e w' => e = .returned (.bool r) ∧ Below w.heap.size w w' := by
  have HB := Aside0.mk (Below.refl w.heap.size w)
  have H : ((weigh_size.f a0).bind fun t102 => ((weigh_size.f a1).bind fun t103 => ((weigh_even.f t102 t103).bind fun t104 => (some t104)))) = some r := h
  clear h
  replace H := Option.bind_eq_some_iff.mp H
  obtain ⟨t102, A30, H⟩ := H
  replace H : ((weigh_size.f a1).bind fun t103 => ((weigh_even.f t102 t103).bind fun t104 => (some t104))) = some r := H
  have A3 := Aside0.mk A30
  clear A30
  replace H := Option.bind_eq_some_iff.mp H
  obtain ⟨t103, A40, H⟩ := H
  replace H : ((weigh_even.f t102 t103).bind fun t104 => (some t104)) = some r := H
  have A4 := Aside0.mk A40
  clear A40
  replace H := Option.bind_eq_some_iff.mp H
  obtain ⟨t104, A50, H⟩ := H
  replace H : (some t104) = some r := H
  have A5 := Aside0.mk A50
  clear A50
  obtain rfl := Option.some.inj H
  go_enter Try.func17, Try.ntmps17
  go_wp2_with (first | ((with_reducible refine gate_callee (f := 33) rfl ?_); refine goesL_ (some 6) rfl rfl Try.func33 (by kernel_rfl) rfl #[.int .i64 a0] rfl (by (try simp only [List.map_toArray, List.map_cons, List.map_nil]); first | done | rfl | (simp only [List.length_drop, List.length_take]; rfl)) ?_; (with_reducible refine (weigh_size.calls a0 t102 _ A3.out).mono ?_); rintro e w6 ⟨rfl, hb⟩; refine ⟨_, rfl, ?_⟩; have n0_ := Aside0.mk (below_step (by repeat (first | (with_reducible first | exact HB.out | apply below_alloc | apply pw_below_drewN | apply below_drew1) | exact HB.out)) hb); clear HB; have HB := n0_; clear n0_; (try clear hb); (try clear hb2); (try clear hk); (try clear hi)) | ((with_reducible refine gate_callee (f := 33) rfl ?_); refine goesL_ (some 8) rfl rfl Try.func33 (by kernel_rfl) rfl #[.int .i64 a1] rfl (by (try simp only [List.map_toArray, List.map_cons, List.map_nil]); first | done | rfl | (simp only [List.length_drop, List.length_take]; rfl)) ?_; (with_reducible refine (weigh_size.calls a1 t103 _ A4.out).mono ?_); rintro e w7 ⟨rfl, hb⟩; refine ⟨_, rfl, ?_⟩; have n0_ := Aside0.mk (below_step (by repeat (first | (with_reducible first | exact HB.out | apply below_alloc | apply pw_below_drewN | apply below_drew1) | exact HB.out)) hb); clear HB; have HB := n0_; clear n0_; (try clear hb); (try clear hb2); (try clear hk); (try clear hi)) | ((with_reducible refine gate_callee (f := 34) rfl ?_); refine goesL_ (some 9) rfl rfl Try.func34 (by kernel_rfl) rfl #[.int .i64 t102, .int .i64 t103] rfl (by (try simp only [List.map_toArray, List.map_cons, List.map_nil]); first | done | rfl | (simp only [List.length_drop, List.length_take]; rfl)) ?_; (with_reducible refine (weigh_even.calls t102 t103 t104 _ A5.out).mono ?_); rintro e w' ⟨rfl, ⟨nd, rfl⟩⟩; refine ⟨_, rfl, ?_⟩))
  go_ret
  exact ⟨by first | rfl | (simp [errW_none, errW_some] <;> rfl) | (simp [*, errW_none, errW_some] <;> rfl), by repeat (first | (with_reducible first | exact HB.out | apply below_alloc | apply pw_below_drewN | apply below_drew1) | exact HB.out)⟩

/-! ### brushwoodlaw10_awake: function 16 -/
def brushwoodlaw10_awake.f  : Option (Bool) := (weigh_Even.f 2 0).bind fun t105 => (if t105 = true then ((weigh_Even.f 3 0).bind fun t106 => (if t106 = true then (some false) else ((weigh_Beside.f 3).bind fun t107 => (some (t107 == 1))))) else (some false))
set_option maxHeartbeats 8000000 in
set_option maxRecDepth 100000 in
theorem brushwoodlaw10_awake.calls  (r : Bool) (w : World) (h : brushwoodlaw10_awake.f  = some r) :
    Calls Try.prog 16 #[] w fun e w' => e = .returned (.bool r) ∧ Below w.heap.size w w' := by
  have HB := Aside0.mk (Below.refl w.heap.size w)
  have H : ((weigh_Even.f 2 0).bind fun t105 => (if t105 = true then ((weigh_Even.f 3 0).bind fun t106 => (if t106 = true then (some false) else ((weigh_Beside.f 3).bind fun t107 => (some (t107 == 1))))) else (some false))) = some r := h
  clear h
  replace H := Option.bind_eq_some_iff.mp H
  obtain ⟨t105, A10, H⟩ := H
  replace H : (if t105 = true then ((weigh_Even.f 3 0).bind fun t106 => (if t106 = true then (some false) else ((weigh_Beside.f 3).bind fun t107 => (some (t107 == 1))))) else (some false)) = some r := H
  have A1 := Aside0.mk A10
  clear A10
  by_cases c2 : t105 = true
  · subst c2
    have H1 : ((weigh_Even.f 3 0).bind fun t106 => (if t106 = true then (some false) else ((weigh_Beside.f 3).bind fun t107 => (some (t107 == 1))))) = some r := by rw [if_pos rfl] at H; exact H
    clear H
    have H := H1
    clear H1
    replace H := Option.bind_eq_some_iff.mp H
    obtain ⟨t106, A30, H⟩ := H
    replace H : (if t106 = true then (some false) else ((weigh_Beside.f 3).bind fun t107 => (some (t107 == 1)))) = some r := H
    have A3 := Aside0.mk A30
    clear A30
    by_cases c4 : t106 = true
    · subst c4
      have H1 : (some false) = some r := by rw [if_pos rfl] at H; exact H
      clear H
      have H := H1
      clear H1
      obtain rfl := Option.some.inj H
      go_enter Try.func16, Try.ntmps16
      go_wp2_with (first | ((with_reducible refine gate_callee (f := 17) rfl ?_); refine goesL_ (some 1) rfl rfl Try.func17 (by kernel_rfl) rfl #[.int .i64 2, .int .i64 0] rfl (by (try simp only [List.map_toArray, List.map_cons, List.map_nil]); first | done | rfl | (simp only [List.length_drop, List.length_take]; rfl)) ?_; (with_reducible refine (weigh_Even.calls 2 0 true _ A1.out).mono ?_); rintro e w5 ⟨rfl, hb⟩; refine ⟨_, rfl, ?_⟩; have n0_ := Aside0.mk (below_step (by repeat (first | (with_reducible first | exact HB.out | apply below_alloc | apply pw_below_drewN | apply below_drew1) | exact HB.out)) hb); clear HB; have HB := n0_; clear n0_; (try clear hb); (try clear hb2); (try clear hk); (try clear hi)) | (go_at_call 17; (with_reducible refine (weigh_Even.calls 3 0 true _ A3.out).mono ?_); rintro e w6 ⟨rfl, hb⟩; have n0_ := Aside0.mk (below_step (by repeat (first | (with_reducible first | exact HB.out | apply below_alloc | apply pw_below_drewN | apply below_drew1) | exact HB.out)) hb); clear HB; have HB := n0_; clear n0_; (try clear hb); (try clear hb2); (try clear hk); (try clear hi)))
      go_ret
      exact ⟨by first | rfl | (simp [errW_none, errW_some] <;> rfl) | (simp [*, errW_none, errW_some] <;> rfl), by repeat (first | (with_reducible first | exact HB.out | apply below_alloc | apply pw_below_drewN | apply below_drew1) | exact HB.out)⟩
    · replace c4 := Bool.eq_false_iff.mpr c4
      subst c4
      have H1 : ((weigh_Beside.f 3).bind fun t107 => (some (t107 == 1))) = some r := by rw [if_neg (show ¬ (false = true) by decide)] at H; exact H
      clear H
      have H := H1
      clear H1
      replace H := Option.bind_eq_some_iff.mp H
      obtain ⟨t107, A70, H⟩ := H
      replace H : (some (t107 == 1)) = some r := H
      have A7 := Aside0.mk A70
      clear A70
      obtain rfl := Option.some.inj H
      go_enter Try.func16, Try.ntmps16
      go_wp2_with (first | ((with_reducible refine gate_callee (f := 17) rfl ?_); refine goesL_ (some 1) rfl rfl Try.func17 (by kernel_rfl) rfl #[.int .i64 2, .int .i64 0] rfl (by (try simp only [List.map_toArray, List.map_cons, List.map_nil]); first | done | rfl | (simp only [List.length_drop, List.length_take]; rfl)) ?_; (with_reducible refine (weigh_Even.calls 2 0 true _ A1.out).mono ?_); rintro e w8 ⟨rfl, hb⟩; refine ⟨_, rfl, ?_⟩; have n0_ := Aside0.mk (below_step (by repeat (first | (with_reducible first | exact HB.out | apply below_alloc | apply pw_below_drewN | apply below_drew1) | exact HB.out)) hb); clear HB; have HB := n0_; clear n0_; (try clear hb); (try clear hb2); (try clear hk); (try clear hi)) | (go_at_call 17; (with_reducible refine (weigh_Even.calls 3 0 false _ A3.out).mono ?_); rintro e w9 ⟨rfl, hb⟩; have n0_ := Aside0.mk (below_step (by repeat (first | (with_reducible first | exact HB.out | apply below_alloc | apply pw_below_drewN | apply below_drew1) | exact HB.out)) hb); clear HB; have HB := n0_; clear n0_; (try clear hb); (try clear hb2); (try clear hk); (try clear hi)) | (go_at_call 14; (with_reducible refine (weigh_Beside.calls 3 t107 _ A7.out).mono ?_); rintro e w10 ⟨rfl, hb⟩; have n0_ := Aside0.mk (below_step (by repeat (first | (with_reducible first | exact HB.out | apply below_alloc | apply pw_below_drewN | apply below_drew1) | exact HB.out)) hb); clear HB; have HB := n0_; clear n0_; (try clear hb); (try clear hb2); (try clear hk); (try clear hi)))
      go_ret
      exact ⟨by first | rfl | (simp [errW_none, errW_some] <;> rfl) | (simp [*, errW_none, errW_some] <;> rfl), by repeat (first | (with_reducible first | exact HB.out | apply below_alloc | apply pw_below_drewN | apply below_drew1) | exact HB.out)⟩
  · replace c2 := Bool.eq_false_iff.mpr c2
    subst c2
    have H1 : (some false) = some r := by rw [if_neg (show ¬ (false = true) by decide)] at H; exact H
    clear H
    have H := H1
    clear H1
    obtain rfl := Option.some.inj H
    go_enter Try.func16, Try.ntmps16
    go_wp2_with (first | ((with_reducible refine gate_callee (f := 17) rfl ?_); refine goesL_ (some 1) rfl rfl Try.func17 (by kernel_rfl) rfl #[.int .i64 2, .int .i64 0] rfl (by (try simp only [List.map_toArray, List.map_cons, List.map_nil]); first | done | rfl | (simp only [List.length_drop, List.length_take]; rfl)) ?_; (with_reducible refine (weigh_Even.calls 2 0 false _ A1.out).mono ?_); rintro e w11 ⟨rfl, hb⟩; refine ⟨_, rfl, ?_⟩; have n0_ := Aside0.mk (below_step (by repeat (first | (with_reducible first | exact HB.out | apply below_alloc | apply pw_below_drewN | apply below_drew1) | exact HB.out)) hb); clear HB; have HB := n0_; clear n0_; (try clear hb); (try clear hb2); (try clear hk); (try clear hi)))
    go_ret
    exact ⟨by first | rfl | (simp [errW_none, errW_some] <;> rfl) | (simp [*, errW_none, errW_some] <;> rfl), by repeat (first | (with_reducible first | exact HB.out | apply below_alloc | apply pw_below_drewN | apply below_drew1) | exact HB.out)⟩

/-! ### weigh_least: function 35 -/
def weigh_least.l0 : Nat → Int → Int → Int → Int → Option (Int)
  | 0, _, _, _, _ => none
  | k + 1, x1, x5, x6, x7 => if x7 < x6 then (if x5 > x1 then (some x5) else (weigh_least.l0 k x1 (wrap64 (x5 + (wrap64 ((wrap64 (1 + (wrap64 (Int.tdiv (wrap64 ((wrap64 ((wrap64 (x5 + 1)) + 3)) - 1)) 3)))) - 1)))) x6 (wrap64 (x7 + 1)))) else (some x5)
def weigh_least.f (k : Nat) (a0 : Int) (a1 : Int) : Option (Int) := weigh_least.l0 k a1 0 a0 0
theorem weigh_least.mono_l : ∀ k, (∀ y0 y1 y2 y3, LeO (weigh_least.l0 k y0 y1 y2 y3) (weigh_least.l0 (k + 1) y0 y1 y2 y3))
  | 0 => fun _ _ _ _ r h => by simp [weigh_least.l0] at h
  | k + 1 => by
    have ih0 := weigh_least.mono_l k
    · intro y0 y1 y2 y3
      unfold weigh_least.l0
      repeat' first
      | (with_reducible exact ih0 _ _ _ _)
      | (with_reducible exact LeO.refl _)
      | (with_reducible exact LeO.none _)
      | (with_reducible refine LeO.ite ?_ ?_)
      | (with_reducible refine LeO.bind ?_ (fun _ => ?_))
      | exact ih0 _ _ _ _
      | exact LeO.none _
      | refine LeO.ite ?_ ?_
      | refine LeO.bind ?_ (fun _ => ?_)
theorem weigh_least.mono : ∀ a0 a1 k, LeO (weigh_least.f k a0 a1) (weigh_least.f (k + 1) a0 a1) := by
  intro a0 a1 k
  have ih0 := weigh_least.mono_l k
  unfold weigh_least.f
  repeat' first
      | (with_reducible exact ih0 _ _ _ _)
      | (with_reducible exact LeO.refl _)
      | (with_reducible exact LeO.none _)
      | (with_reducible refine LeO.ite ?_ ?_)
      | (with_reducible refine LeO.bind ?_ (fun _ => ?_))
      | exact ih0 _ _ _ _
      | exact LeO.none _
      | refine LeO.ite ?_ ?_
      | refine LeO.bind ?_ (fun _ => ?_)
set_option maxHeartbeats 8000000 in
set_option maxRecDepth 100000 in
theorem weigh_least.calls (k : Nat) (a0 : Int) (a1 : Int) (r : Int) (w : World) (h : weigh_least.f k a0 a1 = some r) :
    Calls Try.prog 35 #[.int .i64 a0, .int .i64 a1] w fun e w' => e = .returned (.int .i64 r) ∧ Drawn0 w w' := by
  have H : (weigh_least.l0 k a1 0 a0 0) = some r := h
  clear h
  have H' := Aside0.mk H
  clear H
  go_enter Try.func35, Try.ntmps35
  go_wp2
  go_loopg [5, 7] k (fun kq v5 v7 w' => ∃ (x5_1 : Int) (x7_1 : Int), v5 = .int .i64 x5_1 ∧ v7 = .int .i64 x7_1 ∧ Aside0 (weigh_least.l0 kq a1 x5_1 a0 x7_1 = some r) ∧ Aside0 (kq ≤ k) ∧ Drawn0 w w')
  case atStart => exact ⟨(0), (0), (by first | rfl | (simp; done) | (simp [*]; done)), (by first | rfl | (simp; done) | (simp [*]; done)), H', ⟨Nat.le_refl _⟩, by repeat (first | exact Drawn0.refl _ | apply Drawn0.step)⟩
  case round =>
    clear H'
    try clear p2
    obtain ⟨x5_1, x7_1, rfl, rfl, HA, HK1, ⟨m1, rfl⟩⟩ := hrel
    cases gk with
    | zero => exact absurd HA.out (by simp [weigh_least.l0])
    | succ k1 =>
      have H := HA.out
      clear HA
      simp only [weigh_least.l0] at H
      by_cases c3 : x7_1 < a0
      · rw [if_pos c3] at H
        have c3b0 : decide (x7_1 < a0) = true := decide_eq_true c3
        clear c3
        by_cases c4 : x5_1 > a1
        · rw [if_pos c4] at H
          have c4b0 : decide (a1 < x5_1) = true := decide_eq_true c4
          clear c4
          obtain rfl := Option.some.inj H
          go_wp2
          go_ret
          exact ⟨by first | rfl | (simp; done) | (simp [*]; done), by repeat (first | exact Drawn0.refl _ | apply Drawn0.step)⟩
        · rw [if_neg c4] at H
          have c4b0 : decide (a1 < x5_1) = false := decide_eq_false c4
          clear c4
          have H' := Aside0.mk H
          clear H
          go_wp2
          go_roundg k1
          case measure => have := HK1.out; omega
          case rel => exact ⟨(wrap64 (x5_1 + (wrap64 ((wrap64 (1 + (wrap64 (Int.tdiv (wrap64 ((wrap64 ((wrap64 (x5_1 + 1)) + 3)) - 1)) 3)))) - 1)))), (wrap64 (x7_1 + 1)), (by first | rfl | (simp; done) | (simp [*]; done)), (by first | rfl | (simp; done) | (simp [*]; done)), H', ⟨by have := HK1.out; omega⟩, by repeat (first | exact Drawn0.refl _ | apply Drawn0.step)⟩
      · rw [if_neg c3] at H
        have c3b0 : decide (x7_1 < a0) = false := decide_eq_false c3
        clear c3
        obtain rfl := Option.some.inj H
        go_wp2
        go_ret
        exact ⟨by first | rfl | (simp; done) | (simp [*]; done), by repeat (first | exact Drawn0.refl _ | apply Drawn0.step)⟩

/-! ### weigh_Least: function 19 -/
def weigh_Least.f (k : Nat) (a0 : Int) : Option (Int) := (weigh_least.f k (mn (mx a0 0) 64) 1537228672809129301).bind fun t108 => (some t108)
theorem weigh_Least.mono : ∀ a0 k, LeO (weigh_Least.f k a0) (weigh_Least.f (k + 1) a0) := by
  intro a0 k
  unfold weigh_Least.f
  repeat' first
      | (with_reducible exact weigh_least.mono _ _ _)
      | (with_reducible exact LeO.refl _)
      | (with_reducible exact LeO.none _)
      | (with_reducible refine LeO.ite ?_ ?_)
      | (with_reducible refine LeO.bind ?_ (fun _ => ?_))
      | exact weigh_least.mono _ _ _
      | exact LeO.none _
      | refine LeO.ite ?_ ?_
      | refine LeO.bind ?_ (fun _ => ?_)
set_option maxHeartbeats 8000000 in
set_option maxRecDepth 100000 in
theorem weigh_Least.calls (k : Nat) (a0 : Int) (r : Int) (w : World) (h : weigh_Least.f k a0 = some r) :
    Calls Try.prog 19 #[.int .i64 a0] w fun e w' => e = .returned (.int .i64 r) ∧ Below w.heap.size w w' := by
  have HB := Aside0.mk (Below.refl w.heap.size w)
  have H : ((weigh_least.f k (mn (mx a0 0) 64) 1537228672809129301).bind fun t108 => (some t108)) = some r := h
  clear h
  obtain ⟨ji2, hji2⟩ : ∃ j_ : Int, (mx a0 0) = j_ := ⟨_, rfl⟩
  replace H : ((weigh_least.f k (mn (ji2) 64) 1537228672809129301).bind fun t108 => (some t108)) = some r := by first | (rw [hji2] at H; exact H) | (simp only [hji2] at H ⊢; exact H)
  (try (have hji2l : 0 ≤ ji2 := by (rw [← hji2]; unfold mx; (repeat' split) <;> omega)))
  (try (have hji2m : 0 ≤ ji2 := by omega))
  have hji2_ : (if a0 < 0 then 0 else a0) = ji2 := hji2
  obtain ⟨ji3, hji3⟩ : ∃ j_ : Int, (mn (ji2) 64) = j_ := ⟨_, rfl⟩
  replace H : ((weigh_least.f k (ji3) 1537228672809129301).bind fun t108 => (some t108)) = some r := by first | (rw [hji3] at H; exact H) | (simp only [hji3] at H ⊢; exact H)
  have hji3_ : (if 64 < (ji2) then 64 else (ji2)) = ji3 := hji3
  replace H := Option.bind_eq_some_iff.mp H
  obtain ⟨t108, A40, H⟩ := H
  replace H : (some t108) = some r := H
  have A4 := Aside0.mk A40
  clear A40
  obtain rfl := Option.some.inj H
  go_enter Try.func19, Try.ntmps19
  go_wp2_with (first | ((with_reducible refine gate_callee (f := 35) rfl ?_); refine goesL_ (some 6) rfl rfl Try.func35 (by kernel_rfl) rfl #[.int .i64 ji3, .int .i64 1537228672809129301] rfl (by (try simp only [List.map_toArray, List.map_cons, List.map_nil]); first | done | (simp only [hji3]; rfl) | rfl | (simp only [List.length_drop, List.length_take]; rfl)) ?_; (with_reducible refine (weigh_least.calls k ji3 1537228672809129301 t108 _ A4.out).mono ?_); rintro e w' ⟨rfl, ⟨nd, rfl⟩⟩; refine ⟨_, rfl, ?_⟩))
  go_ret
  exact ⟨by first | rfl | (simp [errW_none, errW_some] <;> rfl) | (simp only [← hji2, ← hji3]; first | rfl | (simp [errW_none, errW_some] <;> rfl)) | (simp [*, errW_none, errW_some] <;> rfl), by repeat (first | (with_reducible first | exact HB.out | apply below_alloc | apply pw_below_drewN | apply below_drew1) | exact HB.out)⟩

/-! ### brushwoodref10_Even: function 15 -/
def brushwoodref10_Even.f (a0 : Int) (a1 : Int) : Option (Bool) := if ((wrap64 (a0 + 1)) > (wrap64 (3 * (wrap64 (a1 + 1))))) then (some false) else (some (!(decide ((wrap64 (a1 + 1)) > (wrap64 (3 * (wrap64 (a0 + 1))))))))
set_option maxHeartbeats 8000000 in
set_option maxRecDepth 100000 in
theorem brushwoodref10_Even.calls (a0 : Int) (a1 : Int) (r : Bool) (w : World) (h : brushwoodref10_Even.f a0 a1 = some r) :
    Calls Try.prog 15 #[.int .i64 a0, .int .i64 a1] w fun e w' => e = .returned (.bool r) ∧ Drawn0 w w' := by
  have H : (if ((wrap64 (a0 + 1)) > (wrap64 (3 * (wrap64 (a1 + 1))))) then (some false) else (some (!(decide ((wrap64 (a1 + 1)) > (wrap64 (3 * (wrap64 (a0 + 1))))))))) = some r := h
  clear h
  by_cases c3 : ((wrap64 (a0 + 1)) > (wrap64 (3 * (wrap64 (a1 + 1)))))
  · rw [if_pos c3] at H
    have c3b0 : decide ((wrap64 (3 * (wrap64 (a1 + 1)))) < (wrap64 (a0 + 1))) = true := decide_eq_true c3
    clear c3
    obtain rfl := Option.some.inj H
    go_enter Try.func15, Try.ntmps15
    go_wp2
    go_ret
    exact ⟨by first | rfl | (simp; done) | (simp [*]; done), by repeat (first | exact Drawn0.refl _ | apply Drawn0.step)⟩
  · rw [if_neg c3] at H
    have c3b0 : decide ((wrap64 (3 * (wrap64 (a1 + 1)))) < (wrap64 (a0 + 1))) = false := decide_eq_false c3
    clear c3
    obtain rfl := Option.some.inj H
    go_enter Try.func15, Try.ntmps15
    go_wp2
    go_ret
    exact ⟨by first | rfl | (simp; done) | (simp [*]; done), by repeat (first | exact Drawn0.refl _ | apply Drawn0.step)⟩

/-! ### brushwoodref10_Beside: function 36 -/
def brushwoodref10_Beside.l0 : Nat → Int → Int → Option (Int)
  | 0, _, _ => none
  | k + 1, x0, x3 => (brushwoodref10_Even.f x3 x0).bind fun t109 => (if t109 = true then (some x3) else (brushwoodref10_Beside.l0 k x0 (wrap64 (x3 + 1))))
def brushwoodref10_Beside.f (k : Nat) (a0 : Int) : Option (Int) := brushwoodref10_Beside.l0 k a0 0
theorem brushwoodref10_Beside.mono_l : ∀ k, (∀ y0 y1, LeO (brushwoodref10_Beside.l0 k y0 y1) (brushwoodref10_Beside.l0 (k + 1) y0 y1))
  | 0 => fun _ _ r h => by simp [brushwoodref10_Beside.l0] at h
  | k + 1 => by
    have ih0 := brushwoodref10_Beside.mono_l k
    · intro y0 y1
      unfold brushwoodref10_Beside.l0
      repeat' first
      | (with_reducible exact ih0 _ _)
      | (with_reducible exact LeO.refl _)
      | (with_reducible exact LeO.none _)
      | (with_reducible refine LeO.ite ?_ ?_)
      | (with_reducible refine LeO.bind ?_ (fun _ => ?_))
      | exact ih0 _ _
      | exact LeO.none _
      | refine LeO.ite ?_ ?_
      | refine LeO.bind ?_ (fun _ => ?_)
theorem brushwoodref10_Beside.mono : ∀ a0 k, LeO (brushwoodref10_Beside.f k a0) (brushwoodref10_Beside.f (k + 1) a0) := by
  intro a0 k
  have ih0 := brushwoodref10_Beside.mono_l k
  unfold brushwoodref10_Beside.f
  repeat' first
      | (with_reducible exact ih0 _ _)
      | (with_reducible exact LeO.refl _)
      | (with_reducible exact LeO.none _)
      | (with_reducible refine LeO.ite ?_ ?_)
      | (with_reducible refine LeO.bind ?_ (fun _ => ?_))
      | exact ih0 _ _
      | exact LeO.none _
      | refine LeO.ite ?_ ?_
      | refine LeO.bind ?_ (fun _ => ?_)
set_option maxHeartbeats 8000000 in
set_option maxRecDepth 100000 in
theorem brushwoodref10_Beside.calls (k : Nat) (a0 : Int) (r : Int) (w : World) (h : brushwoodref10_Beside.f k a0 = some r) :
    Calls Try.prog 36 #[.int .i64 a0] w fun e w' => e = .returned (.int .i64 r) ∧ Drawn0 w w' := by
  have H : (brushwoodref10_Beside.l0 k a0 0) = some r := h
  clear h
  have H' := Aside0.mk H
  clear H
  go_enter Try.func36, Try.ntmps36
  go_wp2
  go_loopg [3] k (fun kq v3 w' => ∃ (x3_1 : Int), v3 = .int .i64 x3_1 ∧ Aside0 (brushwoodref10_Beside.l0 kq a0 x3_1 = some r) ∧ Aside0 (kq ≤ k) ∧ Drawn0 w w')
  case atStart => exact ⟨(0), (by first | rfl | (simp; done) | (simp [*]; done)), H', ⟨Nat.le_refl _⟩, by repeat (first | exact Drawn0.refl _ | apply Drawn0.step)⟩
  case round =>
    clear H'
    obtain ⟨x3_1, rfl, HA, HK1, ⟨m1, rfl⟩⟩ := hrel
    cases gk with
    | zero => exact absurd HA.out (by simp [brushwoodref10_Beside.l0])
    | succ k1 =>
      have H := HA.out
      clear HA
      simp only [brushwoodref10_Beside.l0] at H
      replace H := Option.bind_eq_some_iff.mp H
      obtain ⟨t109, A20, H⟩ := H
      replace H : (if t109 = true then (some x3_1) else (brushwoodref10_Beside.l0 k1 a0 (wrap64 (x3_1 + 1)))) = some r := H
      have A2 := Aside0.mk A20
      clear A20
      by_cases c3 : t109 = true
      · subst c3
        have H1 : (some x3_1) = some r := by rw [if_pos rfl] at H; exact H
        clear H
        have H := H1
        clear H1
        obtain rfl := Option.some.inj H
        go_wp2_with (first | ((with_reducible refine gate_callee (f := 15) rfl ?_); refine goesL_ (some 6) rfl rfl Try.func15 (by kernel_rfl) rfl #[.int .i64 x3_1, .int .i64 a0] rfl (by (try simp only [List.map_toArray, List.map_cons, List.map_nil]); first | done | rfl | (simp only [List.length_drop, List.length_take]; rfl)) ?_; (with_reducible refine (brushwoodref10_Even.calls x3_1 a0 true _ A2.out).mono ?_); rintro e w' ⟨rfl, ⟨nd, rfl⟩⟩; refine ⟨_, rfl, ?_⟩))
        go_ret
        exact ⟨by first | rfl | (simp; done) | (simp [*]; done), by repeat (first | exact Drawn0.refl _ | apply Drawn0.step)⟩
      · replace c3 := Bool.eq_false_iff.mpr c3
        subst c3
        have H1 : (brushwoodref10_Beside.l0 k1 a0 (wrap64 (x3_1 + 1))) = some r := by rw [if_neg (show ¬ (false = true) by decide)] at H; exact H
        clear H
        have H := H1
        clear H1
        have H' := Aside0.mk H
        clear H
        go_wp2_with (first | ((with_reducible refine gate_callee (f := 15) rfl ?_); refine goesL_ (some 6) rfl rfl Try.func15 (by kernel_rfl) rfl #[.int .i64 x3_1, .int .i64 a0] rfl (by (try simp only [List.map_toArray, List.map_cons, List.map_nil]); first | done | rfl | (simp only [List.length_drop, List.length_take]; rfl)) ?_; (with_reducible refine (brushwoodref10_Even.calls x3_1 a0 false _ A2.out).mono ?_); rintro e w' ⟨rfl, ⟨nd, rfl⟩⟩; refine ⟨_, rfl, ?_⟩))
        go_roundg k1
        case measure => have := HK1.out; omega
        case rel => exact ⟨(wrap64 (x3_1 + 1)), (by first | rfl | (simp; done) | (simp [*]; done)), H', ⟨by have := HK1.out; omega⟩, by repeat (first | exact Drawn0.refl _ | apply Drawn0.step)⟩

/-! ### brushwoodref10_Least: function 20 -/
def brushwoodref10_Least.f : Nat → Int → Option (Int)
  | 0, _ => none
  | k + 1, a0 => if a0 = 0 then (some 0) else ((brushwoodref10_Least.f k (wrap64 (a0 - 1))).bind fun t110 => ((brushwoodref10_Beside.f k t110).bind fun t111 => (some (wrap64 ((wrap64 (1 + t110)) + t111)))))
theorem brushwoodref10_Least.mono_l : ∀ k, (∀ y0, LeO (brushwoodref10_Least.f k y0) (brushwoodref10_Least.f (k + 1) y0))
  | 0 => fun _ r h => by simp [brushwoodref10_Least.f] at h
  | k + 1 => by
    have ih0 := brushwoodref10_Least.mono_l k
    · intro y0
      unfold brushwoodref10_Least.f
      repeat' first
      | (with_reducible exact ih0 _)
      | (with_reducible exact brushwoodref10_Beside.mono _ _)
      | (with_reducible exact LeO.refl _)
      | (with_reducible exact LeO.none _)
      | (with_reducible refine LeO.ite ?_ ?_)
      | (with_reducible refine LeO.bind ?_ (fun _ => ?_))
      | exact ih0 _
      | exact brushwoodref10_Beside.mono _ _
      | exact LeO.none _
      | refine LeO.ite ?_ ?_
      | refine LeO.bind ?_ (fun _ => ?_)
theorem brushwoodref10_Least.mono : ∀ a0 k, LeO (brushwoodref10_Least.f k a0) (brushwoodref10_Least.f (k + 1) a0) := by
  intro a0 k
  have ih0 := brushwoodref10_Least.mono_l k
  exact ih0 a0
set_option maxHeartbeats 8000000 in
set_option maxRecDepth 100000 in
theorem brushwoodref10_Least.calls (k : Nat) : ∀ (a0 : Int) (r : Int) (w : World) (h : brushwoodref10_Least.f k a0 = some r),
    Calls Try.prog 20 #[.int .i64 a0] w fun e w' => e = .returned (.int .i64 r) ∧ Drawn0 w w' := by
  induction k using Nat.strongRecOn with
  | _ k ih =>
  intro a0 r w h
  cases k with
  | zero => exact absurd h (by simp [brushwoodref10_Least.f])
  | succ k =>
  simp only [brushwoodref10_Least.f] at h
  have H : (if a0 = 0 then (some 0) else ((brushwoodref10_Least.f k (wrap64 (a0 - 1))).bind fun t110 => ((brushwoodref10_Beside.f k t110).bind fun t111 => (some (wrap64 ((wrap64 (1 + t110)) + t111)))))) = some r := h
  clear h
  by_cases c2 : a0 = 0
  · rw [if_pos c2] at H
    have c2b0 : (a0 == 0) = true := beq_iff_eq.mpr c2
    have c2b1 : (a0 != 0) = false := bne_eq_false_iff_eq.mpr c2
    clear c2
    obtain rfl := Option.some.inj H
    go_enter Try.func20, Try.ntmps20
    go_wp2
    go_ret
    exact ⟨by first | rfl | (simp; done) | (simp [*]; done), by repeat (first | exact Drawn0.refl _ | apply Drawn0.step)⟩
  · rw [if_neg c2] at H
    have c2b0 : (a0 == 0) = false := beq_eq_false_iff_ne.mpr c2
    have c2b1 : (a0 != 0) = true := bne_iff_ne.mpr c2
    replace H := Option.bind_eq_some_iff.mp H
    obtain ⟨t110, A30, H⟩ := H
    replace H : ((brushwoodref10_Beside.f k t110).bind fun t111 => (some (wrap64 ((wrap64 (1 + t110)) + t111)))) = some r := H
    have A3 := Aside0.mk A30
    clear A30
    replace H := Option.bind_eq_some_iff.mp H
    obtain ⟨t111, A40, H⟩ := H
    replace H : (some (wrap64 ((wrap64 (1 + t110)) + t111))) = some r := H
    have A4 := Aside0.mk A40
    clear A40
    obtain rfl := Option.some.inj H
    go_enter Try.func20, Try.ntmps20
    go_wp2_with (first | ((with_reducible refine gate_callee (f := 20) rfl ?_); refine goesL_ (some 8) rfl rfl Try.func20 (by kernel_rfl) rfl #[.int .i64 (wrap64 (a0 - 1))] rfl (by (try simp only [List.map_toArray, List.map_cons, List.map_nil]); first | done | rfl | (simp only [List.length_drop, List.length_take]; rfl)) ?_; (with_reducible refine (ih k (by omega) (wrap64 (a0 - 1)) t110 _ A3.out).mono ?_); rintro e w' ⟨rfl, ⟨nd, rfl⟩⟩; refine ⟨_, rfl, ?_⟩) | ((with_reducible refine gate_callee (f := 36) rfl ?_); refine goesL_ (some 12) rfl rfl Try.func36 (by kernel_rfl) rfl #[.int .i64 t110] rfl (by (try simp only [List.map_toArray, List.map_cons, List.map_nil]); first | done | rfl | (simp only [List.length_drop, List.length_take]; rfl)) ?_; (with_reducible refine (brushwoodref10_Beside.calls k t110 t111 _ A4.out).mono ?_); rintro e w' ⟨rfl, ⟨nd, rfl⟩⟩; refine ⟨_, rfl, ?_⟩))
    go_ret
    exact ⟨by first | rfl | (simp; done) | (simp [*]; done), by repeat (first | exact Drawn0.refl _ | apply Drawn0.step)⟩

/-! ### brushwoodlaw10_WeighLeast: function 6 -/
def brushwoodlaw10_WeighLeast.f (k : Nat) (a0 : Int) : Option (Bool) := if a0 < 0 then ((weigh_Least.f k a0).bind fun t112 => (if t112 = 0 then ((brushwoodlaw10_awake.f).bind fun t113 => (some t113)) else (some false))) else (if a0 > 64 then ((weigh_Least.f k a0).bind fun t114 => ((weigh_Least.f k 64).bind fun t115 => (if t114 = t115 then ((brushwoodlaw10_awake.f).bind fun t116 => (some t116)) else (some false)))) else (if a0 ≤ 30 then ((weigh_Least.f k a0).bind fun t117 => ((brushwoodref10_Least.f k a0).bind fun t118 => (if t117 = t118 then ((brushwoodlaw10_awake.f).bind fun t119 => (some t119)) else (some false)))) else ((weigh_Least.f k (wrap64 (a0 - 1))).bind fun t120 => ((weigh_Least.f k a0).bind fun t121 => (if t121 = (wrap64 ((wrap64 ((wrap64 (1 + t120)) + (wrap64 (Int.tdiv (wrap64 ((wrap64 (t120 + 1)) + 2)) 3)))) - 1)) then ((weigh_Least.f k a0).bind fun t122 => (if t122 > t120 then ((brushwoodlaw10_awake.f).bind fun t123 => (some t123)) else (some false))) else (some false))))))
theorem brushwoodlaw10_WeighLeast.mono : ∀ a0 k, LeO (brushwoodlaw10_WeighLeast.f k a0) (brushwoodlaw10_WeighLeast.f (k + 1) a0) := by
  intro a0 k
  unfold brushwoodlaw10_WeighLeast.f
  repeat' first
      | (with_reducible exact brushwoodref10_Least.mono _ _)
      | (with_reducible exact weigh_Least.mono _ _)
      | (with_reducible exact LeO.refl _)
      | (with_reducible exact LeO.none _)
      | (with_reducible refine LeO.ite ?_ ?_)
      | (with_reducible refine LeO.bind ?_ (fun _ => ?_))
      | exact brushwoodref10_Least.mono _ _
      | exact weigh_Least.mono _ _
      | exact LeO.none _
      | refine LeO.ite ?_ ?_
      | refine LeO.bind ?_ (fun _ => ?_)
set_option maxHeartbeats 8000000 in
set_option maxRecDepth 100000 in
theorem brushwoodlaw10_WeighLeast.calls (k : Nat) (a0 : Int) (r : Bool) (w : World) (h : brushwoodlaw10_WeighLeast.f k a0 = some r) :
    Calls Try.prog 6 #[.int .i64 a0] w fun e w' => e = .returned (.bool r) ∧ Below w.heap.size w w' := by
  have HB := Aside0.mk (Below.refl w.heap.size w)
  have H : (if a0 < 0 then ((weigh_Least.f k a0).bind fun t112 => (if t112 = 0 then ((brushwoodlaw10_awake.f).bind fun t113 => (some t113)) else (some false))) else (if a0 > 64 then ((weigh_Least.f k a0).bind fun t114 => ((weigh_Least.f k 64).bind fun t115 => (if t114 = t115 then ((brushwoodlaw10_awake.f).bind fun t116 => (some t116)) else (some false)))) else (if a0 ≤ 30 then ((weigh_Least.f k a0).bind fun t117 => ((brushwoodref10_Least.f k a0).bind fun t118 => (if t117 = t118 then ((brushwoodlaw10_awake.f).bind fun t119 => (some t119)) else (some false)))) else ((weigh_Least.f k (wrap64 (a0 - 1))).bind fun t120 => ((weigh_Least.f k a0).bind fun t121 => (if t121 = (wrap64 ((wrap64 ((wrap64 (1 + t120)) + (wrap64 (Int.tdiv (wrap64 ((wrap64 (t120 + 1)) + 2)) 3)))) - 1)) then ((weigh_Least.f k a0).bind fun t122 => (if t122 > t120 then ((brushwoodlaw10_awake.f).bind fun t123 => (some t123)) else (some false))) else (some false))))))) = some r := h
  clear h
  by_cases c2 : a0 < 0
  · rw [if_pos c2] at H
    have c2b0 : decide (a0 < 0) = true := decide_eq_true c2
    clear c2
    replace H := Option.bind_eq_some_iff.mp H
    obtain ⟨t112, A30, H⟩ := H
    replace H : (if t112 = 0 then ((brushwoodlaw10_awake.f).bind fun t113 => (some t113)) else (some false)) = some r := H
    have A3 := Aside0.mk A30
    clear A30
    by_cases c4 : t112 = 0
    · rw [if_pos c4] at H
      have c4b0 : (t112 == 0) = true := beq_iff_eq.mpr c4
      have c4b1 : (t112 != 0) = false := bne_eq_false_iff_eq.mpr c4
      clear c4
      replace H := Option.bind_eq_some_iff.mp H
      obtain ⟨t113, A50, H⟩ := H
      replace H : (some t113) = some r := H
      have A5 := Aside0.mk A50
      clear A50
      obtain rfl := Option.some.inj H
      go_enter Try.func6, Try.ntmps6
      go_wp2_with (first | ((with_reducible refine gate_callee (f := 19) rfl ?_); refine goesL_ (some 7) rfl rfl Try.func19 (by kernel_rfl) rfl #[.int .i64 a0] rfl (by (try simp only [List.map_toArray, List.map_cons, List.map_nil]); first | done | rfl | (simp only [List.length_drop, List.length_take]; rfl)) ?_; (with_reducible refine (weigh_Least.calls k a0 t112 _ A3.out).mono ?_); rintro e w6 ⟨rfl, hb⟩; refine ⟨_, rfl, ?_⟩; have n0_ := Aside0.mk (below_step (by repeat (first | (with_reducible first | exact HB.out | apply below_alloc | apply pw_below_drewN | apply below_drew1) | exact HB.out)) hb); clear HB; have HB := n0_; clear n0_; (try clear hb); (try clear hb2); (try clear hk); (try clear hi)) | (go_at_call 16; (with_reducible refine (brushwoodlaw10_awake.calls  t113 _ A5.out).mono ?_); rintro e w7 ⟨rfl, hb⟩; have n0_ := Aside0.mk (below_step (by repeat (first | (with_reducible first | exact HB.out | apply below_alloc | apply pw_below_drewN | apply below_drew1) | exact HB.out)) hb); clear HB; have HB := n0_; clear n0_; (try clear hb); (try clear hb2); (try clear hk); (try clear hi)))
      go_ret
      exact ⟨by first | rfl | (simp [errW_none, errW_some] <;> rfl) | (simp [*, errW_none, errW_some] <;> rfl), by repeat (first | (with_reducible first | exact HB.out | apply below_alloc | apply pw_below_drewN | apply below_drew1) | exact HB.out)⟩
    · rw [if_neg c4] at H
      have c4b0 : (t112 == 0) = false := beq_eq_false_iff_ne.mpr c4
      have c4b1 : (t112 != 0) = true := bne_iff_ne.mpr c4
      obtain rfl := Option.some.inj H
      go_enter Try.func6, Try.ntmps6
      go_wp2_with (first | ((with_reducible refine gate_callee (f := 19) rfl ?_); refine goesL_ (some 7) rfl rfl Try.func19 (by kernel_rfl) rfl #[.int .i64 a0] rfl (by (try simp only [List.map_toArray, List.map_cons, List.map_nil]); first | done | rfl | (simp only [List.length_drop, List.length_take]; rfl)) ?_; (with_reducible refine (weigh_Least.calls k a0 t112 _ A3.out).mono ?_); rintro e w8 ⟨rfl, hb⟩; refine ⟨_, rfl, ?_⟩; have n0_ := Aside0.mk (below_step (by repeat (first | (with_reducible first | exact HB.out | apply below_alloc | apply pw_below_drewN | apply below_drew1) | exact HB.out)) hb); clear HB; have HB := n0_; clear n0_; (try clear hb); (try clear hb2); (try clear hk); (try clear hi)))
      go_ret
      exact ⟨by first | rfl | (simp [errW_none, errW_some] <;> rfl) | (simp [*, errW_none, errW_some] <;> rfl), by repeat (first | (with_reducible first | exact HB.out | apply below_alloc | apply pw_below_drewN | apply below_drew1) | exact HB.out)⟩
  · rw [if_neg c2] at H
    have c2b0 : decide (a0 < 0) = false := decide_eq_false c2
    clear c2
    by_cases c9 : a0 > 64
    · rw [if_pos c9] at H
      have c9b0 : decide (64 < a0) = true := decide_eq_true c9
      clear c9
      replace H := Option.bind_eq_some_iff.mp H
      obtain ⟨t114, A100, H⟩ := H
      replace H : ((weigh_Least.f k 64).bind fun t115 => (if t114 = t115 then ((brushwoodlaw10_awake.f).bind fun t116 => (some t116)) else (some false))) = some r := H
      have A10 := Aside0.mk A100
      clear A100
      replace H := Option.bind_eq_some_iff.mp H
      obtain ⟨t115, A110, H⟩ := H
      replace H : (if t114 = t115 then ((brushwoodlaw10_awake.f).bind fun t116 => (some t116)) else (some false)) = some r := H
      have A11 := Aside0.mk A110
      clear A110
      by_cases c12 : t114 = t115
      · rw [if_pos c12] at H
        have c12b0 : (t114 == t115) = true := beq_iff_eq.mpr c12
        have c12b1 : (t114 != t115) = false := bne_eq_false_iff_eq.mpr c12
        clear c12
        replace H := Option.bind_eq_some_iff.mp H
        obtain ⟨t116, A130, H⟩ := H
        replace H : (some t116) = some r := H
        have A13 := Aside0.mk A130
        clear A130
        obtain rfl := Option.some.inj H
        go_enter Try.func6, Try.ntmps6
        go_wp2_with (first | ((with_reducible refine gate_callee (f := 19) rfl ?_); refine goesL_ (some 15) rfl rfl Try.func19 (by kernel_rfl) rfl #[.int .i64 a0] rfl (by (try simp only [List.map_toArray, List.map_cons, List.map_nil]); first | done | rfl | (simp only [List.length_drop, List.length_take]; rfl)) ?_; (with_reducible refine (weigh_Least.calls k a0 t114 _ A10.out).mono ?_); rintro e w14 ⟨rfl, hb⟩; refine ⟨_, rfl, ?_⟩; have n0_ := Aside0.mk (below_step (by repeat (first | (with_reducible first | exact HB.out | apply below_alloc | apply pw_below_drewN | apply below_drew1) | exact HB.out)) hb); clear HB; have HB := n0_; clear n0_; (try clear hb); (try clear hb2); (try clear hk); (try clear hi)) | ((with_reducible refine gate_callee (f := 19) rfl ?_); refine goesL_ (some 16) rfl rfl Try.func19 (by kernel_rfl) rfl #[.int .i64 64] rfl (by (try simp only [List.map_toArray, List.map_cons, List.map_nil]); first | done | rfl | (simp only [List.length_drop, List.length_take]; rfl)) ?_; (with_reducible refine (weigh_Least.calls k 64 t115 _ A11.out).mono ?_); rintro e w15 ⟨rfl, hb⟩; refine ⟨_, rfl, ?_⟩; have n0_ := Aside0.mk (below_step (by repeat (first | (with_reducible first | exact HB.out | apply below_alloc | apply pw_below_drewN | apply below_drew1) | exact HB.out)) hb); clear HB; have HB := n0_; clear n0_; (try clear hb); (try clear hb2); (try clear hk); (try clear hi)) | (go_at_call 16; (with_reducible refine (brushwoodlaw10_awake.calls  t116 _ A13.out).mono ?_); rintro e w16 ⟨rfl, hb⟩; have n0_ := Aside0.mk (below_step (by repeat (first | (with_reducible first | exact HB.out | apply below_alloc | apply pw_below_drewN | apply below_drew1) | exact HB.out)) hb); clear HB; have HB := n0_; clear n0_; (try clear hb); (try clear hb2); (try clear hk); (try clear hi)))
        go_ret
        exact ⟨by first | rfl | (simp [errW_none, errW_some] <;> rfl) | (simp [*, errW_none, errW_some] <;> rfl), by repeat (first | (with_reducible first | exact HB.out | apply below_alloc | apply pw_below_drewN | apply below_drew1) | exact HB.out)⟩
      · rw [if_neg c12] at H
        have c12b0 : (t114 == t115) = false := beq_eq_false_iff_ne.mpr c12
        have c12b1 : (t114 != t115) = true := bne_iff_ne.mpr c12
        obtain rfl := Option.some.inj H
        go_enter Try.func6, Try.ntmps6
        go_wp2_with (first | ((with_reducible refine gate_callee (f := 19) rfl ?_); refine goesL_ (some 15) rfl rfl Try.func19 (by kernel_rfl) rfl #[.int .i64 a0] rfl (by (try simp only [List.map_toArray, List.map_cons, List.map_nil]); first | done | rfl | (simp only [List.length_drop, List.length_take]; rfl)) ?_; (with_reducible refine (weigh_Least.calls k a0 t114 _ A10.out).mono ?_); rintro e w17 ⟨rfl, hb⟩; refine ⟨_, rfl, ?_⟩; have n0_ := Aside0.mk (below_step (by repeat (first | (with_reducible first | exact HB.out | apply below_alloc | apply pw_below_drewN | apply below_drew1) | exact HB.out)) hb); clear HB; have HB := n0_; clear n0_; (try clear hb); (try clear hb2); (try clear hk); (try clear hi)) | ((with_reducible refine gate_callee (f := 19) rfl ?_); refine goesL_ (some 16) rfl rfl Try.func19 (by kernel_rfl) rfl #[.int .i64 64] rfl (by (try simp only [List.map_toArray, List.map_cons, List.map_nil]); first | done | rfl | (simp only [List.length_drop, List.length_take]; rfl)) ?_; (with_reducible refine (weigh_Least.calls k 64 t115 _ A11.out).mono ?_); rintro e w18 ⟨rfl, hb⟩; refine ⟨_, rfl, ?_⟩; have n0_ := Aside0.mk (below_step (by repeat (first | (with_reducible first | exact HB.out | apply below_alloc | apply pw_below_drewN | apply below_drew1) | exact HB.out)) hb); clear HB; have HB := n0_; clear n0_; (try clear hb); (try clear hb2); (try clear hk); (try clear hi)))
        go_ret
        exact ⟨by first | rfl | (simp [errW_none, errW_some] <;> rfl) | (simp [*, errW_none, errW_some] <;> rfl), by repeat (first | (with_reducible first | exact HB.out | apply below_alloc | apply pw_below_drewN | apply below_drew1) | exact HB.out)⟩
    · rw [if_neg c9] at H
      have c9b0 : decide (64 < a0) = false := decide_eq_false c9
      clear c9
      by_cases c19 : a0 ≤ 30
      · rw [if_pos c19] at H
        have c19b0 : decide (a0 ≤ 30) = true := decide_eq_true c19
        clear c19
        replace H := Option.bind_eq_some_iff.mp H
        obtain ⟨t117, A200, H⟩ := H
        replace H : ((brushwoodref10_Least.f k a0).bind fun t118 => (if t117 = t118 then ((brushwoodlaw10_awake.f).bind fun t119 => (some t119)) else (some false))) = some r := H
        have A20 := Aside0.mk A200
        clear A200
        replace H := Option.bind_eq_some_iff.mp H
        obtain ⟨t118, A210, H⟩ := H
        replace H : (if t117 = t118 then ((brushwoodlaw10_awake.f).bind fun t119 => (some t119)) else (some false)) = some r := H
        have A21 := Aside0.mk A210
        clear A210
        by_cases c22 : t117 = t118
        · rw [if_pos c22] at H
          have c22b0 : (t117 == t118) = true := beq_iff_eq.mpr c22
          have c22b1 : (t117 != t118) = false := bne_eq_false_iff_eq.mpr c22
          clear c22
          replace H := Option.bind_eq_some_iff.mp H
          obtain ⟨t119, A230, H⟩ := H
          replace H : (some t119) = some r := H
          have A23 := Aside0.mk A230
          clear A230
          obtain rfl := Option.some.inj H
          go_enter Try.func6, Try.ntmps6
          go_wp2_with (first | ((with_reducible refine gate_callee (f := 19) rfl ?_); refine goesL_ (some 24) rfl rfl Try.func19 (by kernel_rfl) rfl #[.int .i64 a0] rfl (by (try simp only [List.map_toArray, List.map_cons, List.map_nil]); first | done | rfl | (simp only [List.length_drop, List.length_take]; rfl)) ?_; (with_reducible refine (weigh_Least.calls k a0 t117 _ A20.out).mono ?_); rintro e w24 ⟨rfl, hb⟩; refine ⟨_, rfl, ?_⟩; have n0_ := Aside0.mk (below_step (by repeat (first | (with_reducible first | exact HB.out | apply below_alloc | apply pw_below_drewN | apply below_drew1) | exact HB.out)) hb); clear HB; have HB := n0_; clear n0_; (try clear hb); (try clear hb2); (try clear hk); (try clear hi)) | ((with_reducible refine gate_callee (f := 20) rfl ?_); refine goesL_ (some 26) rfl rfl Try.func20 (by kernel_rfl) rfl #[.int .i64 a0] rfl (by (try simp only [List.map_toArray, List.map_cons, List.map_nil]); first | done | rfl | (simp only [List.length_drop, List.length_take]; rfl)) ?_; (with_reducible refine (brushwoodref10_Least.calls k a0 t118 _ A21.out).mono ?_); rintro e w' ⟨rfl, ⟨nd, rfl⟩⟩; refine ⟨_, rfl, ?_⟩) | (go_at_call 16; (with_reducible refine (brushwoodlaw10_awake.calls  t119 _ A23.out).mono ?_); rintro e w25 ⟨rfl, hb⟩; have n0_ := Aside0.mk (below_step (by repeat (first | (with_reducible first | exact HB.out | apply below_alloc | apply pw_below_drewN | apply below_drew1) | exact HB.out)) hb); clear HB; have HB := n0_; clear n0_; (try clear hb); (try clear hb2); (try clear hk); (try clear hi)))
          go_ret
          exact ⟨by first | rfl | (simp [errW_none, errW_some] <;> rfl) | (simp [*, errW_none, errW_some] <;> rfl), by repeat (first | (with_reducible first | exact HB.out | apply below_alloc | apply pw_below_drewN | apply below_drew1) | exact HB.out)⟩
        · rw [if_neg c22] at H
          have c22b0 : (t117 == t118) = false := beq_eq_false_iff_ne.mpr c22
          have c22b1 : (t117 != t118) = true := bne_iff_ne.mpr c22
          obtain rfl := Option.some.inj H
          go_enter Try.func6, Try.ntmps6
          go_wp2_with (first | ((with_reducible refine gate_callee (f := 19) rfl ?_); refine goesL_ (some 24) rfl rfl Try.func19 (by kernel_rfl) rfl #[.int .i64 a0] rfl (by (try simp only [List.map_toArray, List.map_cons, List.map_nil]); first | done | rfl | (simp only [List.length_drop, List.length_take]; rfl)) ?_; (with_reducible refine (weigh_Least.calls k a0 t117 _ A20.out).mono ?_); rintro e w26 ⟨rfl, hb⟩; refine ⟨_, rfl, ?_⟩; have n0_ := Aside0.mk (below_step (by repeat (first | (with_reducible first | exact HB.out | apply below_alloc | apply pw_below_drewN | apply below_drew1) | exact HB.out)) hb); clear HB; have HB := n0_; clear n0_; (try clear hb); (try clear hb2); (try clear hk); (try clear hi)) | ((with_reducible refine gate_callee (f := 20) rfl ?_); refine goesL_ (some 26) rfl rfl Try.func20 (by kernel_rfl) rfl #[.int .i64 a0] rfl (by (try simp only [List.map_toArray, List.map_cons, List.map_nil]); first | done | rfl | (simp only [List.length_drop, List.length_take]; rfl)) ?_; (with_reducible refine (brushwoodref10_Least.calls k a0 t118 _ A21.out).mono ?_); rintro e w' ⟨rfl, ⟨nd, rfl⟩⟩; refine ⟨_, rfl, ?_⟩))
          go_ret
          exact ⟨by first | rfl | (simp [errW_none, errW_some] <;> rfl) | (simp [*, errW_none, errW_some] <;> rfl), by repeat (first | (with_reducible first | exact HB.out | apply below_alloc | apply pw_below_drewN | apply below_drew1) | exact HB.out)⟩
      · rw [if_neg c19] at H
        have c19b0 : decide (a0 ≤ 30) = false := decide_eq_false c19
        clear c19
        replace H := Option.bind_eq_some_iff.mp H
        obtain ⟨t120, A270, H⟩ := H
        replace H : ((weigh_Least.f k a0).bind fun t121 => (if t121 = (wrap64 ((wrap64 ((wrap64 (1 + t120)) + (wrap64 (Int.tdiv (wrap64 ((wrap64 (t120 + 1)) + 2)) 3)))) - 1)) then ((weigh_Least.f k a0).bind fun t122 => (if t122 > t120 then ((brushwoodlaw10_awake.f).bind fun t123 => (some t123)) else (some false))) else (some false))) = some r := H
        have A27 := Aside0.mk A270
        clear A270
        replace H := Option.bind_eq_some_iff.mp H
        obtain ⟨t121, A280, H⟩ := H
        replace H : (if t121 = (wrap64 ((wrap64 ((wrap64 (1 + t120)) + (wrap64 (Int.tdiv (wrap64 ((wrap64 (t120 + 1)) + 2)) 3)))) - 1)) then ((weigh_Least.f k a0).bind fun t122 => (if t122 > t120 then ((brushwoodlaw10_awake.f).bind fun t123 => (some t123)) else (some false))) else (some false)) = some r := H
        have A28 := Aside0.mk A280
        clear A280
        by_cases c29 : t121 = (wrap64 ((wrap64 ((wrap64 (1 + t120)) + (wrap64 (Int.tdiv (wrap64 ((wrap64 (t120 + 1)) + 2)) 3)))) - 1))
        · rw [if_pos c29] at H
          have c29b0 : (t121 == (wrap64 ((wrap64 ((wrap64 (1 + t120)) + (wrap64 (Int.tdiv (wrap64 ((wrap64 (t120 + 1)) + 2)) 3)))) - 1))) = true := beq_iff_eq.mpr c29
          have c29b1 : (t121 != (wrap64 ((wrap64 ((wrap64 (1 + t120)) + (wrap64 (Int.tdiv (wrap64 ((wrap64 (t120 + 1)) + 2)) 3)))) - 1))) = false := bne_eq_false_iff_eq.mpr c29
          clear c29
          replace H := Option.bind_eq_some_iff.mp H
          obtain ⟨t122, A300, H⟩ := H
          replace H : (if t122 > t120 then ((brushwoodlaw10_awake.f).bind fun t123 => (some t123)) else (some false)) = some r := H
          have A30 := Aside0.mk A300
          clear A300
          by_cases c31 : t122 > t120
          · rw [if_pos c31] at H
            have c31b0 : decide (t120 < t122) = true := decide_eq_true c31
            clear c31
            replace H := Option.bind_eq_some_iff.mp H
            obtain ⟨t123, A320, H⟩ := H
            replace H : (some t123) = some r := H
            have A32 := Aside0.mk A320
            clear A320
            obtain rfl := Option.some.inj H
            go_enter Try.func6, Try.ntmps6
            go_wp2_with (first | ((with_reducible refine gate_callee (f := 19) rfl ?_); refine goesL_ (some 33) rfl rfl Try.func19 (by kernel_rfl) rfl #[.int .i64 (wrap64 (a0 - 1))] rfl (by (try simp only [List.map_toArray, List.map_cons, List.map_nil]); first | done | rfl | (simp only [List.length_drop, List.length_take]; rfl)) ?_; (with_reducible refine (weigh_Least.calls k (wrap64 (a0 - 1)) t120 _ A27.out).mono ?_); rintro e w33 ⟨rfl, hb⟩; refine ⟨_, rfl, ?_⟩; have n0_ := Aside0.mk (below_step (by repeat (first | (with_reducible first | exact HB.out | apply below_alloc | apply pw_below_drewN | apply below_drew1) | exact HB.out)) hb); clear HB; have HB := n0_; clear n0_; (try clear hb); (try clear hb2); (try clear hk); (try clear hi)) | ((with_reducible refine gate_callee (f := 19) rfl ?_); refine goesL_ (some 35) rfl rfl Try.func19 (by kernel_rfl) rfl #[.int .i64 a0] rfl (by (try simp only [List.map_toArray, List.map_cons, List.map_nil]); first | done | rfl | (simp only [List.length_drop, List.length_take]; rfl)) ?_; (with_reducible refine (weigh_Least.calls k a0 t121 _ A28.out).mono ?_); rintro e w34 ⟨rfl, hb⟩; refine ⟨_, rfl, ?_⟩; have n0_ := Aside0.mk (below_step (by repeat (first | (with_reducible first | exact HB.out | apply below_alloc | apply pw_below_drewN | apply below_drew1) | exact HB.out)) hb); clear HB; have HB := n0_; clear n0_; (try clear hb); (try clear hb2); (try clear hk); (try clear hi)) | (go_at_call 19; (with_reducible refine (weigh_Least.calls k a0 t122 _ A30.out).mono ?_); rintro e w35 ⟨rfl, hb⟩; have n0_ := Aside0.mk (below_step (by repeat (first | (with_reducible first | exact HB.out | apply below_alloc | apply pw_below_drewN | apply below_drew1) | exact HB.out)) hb); clear HB; have HB := n0_; clear n0_; (try clear hb); (try clear hb2); (try clear hk); (try clear hi)) | (go_at_call 16; (with_reducible refine (brushwoodlaw10_awake.calls  t123 _ A32.out).mono ?_); rintro e w36 ⟨rfl, hb⟩; have n0_ := Aside0.mk (below_step (by repeat (first | (with_reducible first | exact HB.out | apply below_alloc | apply pw_below_drewN | apply below_drew1) | exact HB.out)) hb); clear HB; have HB := n0_; clear n0_; (try clear hb); (try clear hb2); (try clear hk); (try clear hi)))
            go_ret
            exact ⟨by first | rfl | (simp [errW_none, errW_some] <;> rfl) | (simp [*, errW_none, errW_some] <;> rfl), by repeat (first | (with_reducible first | exact HB.out | apply below_alloc | apply pw_below_drewN | apply below_drew1) | exact HB.out)⟩
          · rw [if_neg c31] at H
            have c31b0 : decide (t120 < t122) = false := decide_eq_false c31
            clear c31
            obtain rfl := Option.some.inj H
            go_enter Try.func6, Try.ntmps6
            go_wp2_with (first | ((with_reducible refine gate_callee (f := 19) rfl ?_); refine goesL_ (some 33) rfl rfl Try.func19 (by kernel_rfl) rfl #[.int .i64 (wrap64 (a0 - 1))] rfl (by (try simp only [List.map_toArray, List.map_cons, List.map_nil]); first | done | rfl | (simp only [List.length_drop, List.length_take]; rfl)) ?_; (with_reducible refine (weigh_Least.calls k (wrap64 (a0 - 1)) t120 _ A27.out).mono ?_); rintro e w37 ⟨rfl, hb⟩; refine ⟨_, rfl, ?_⟩; have n0_ := Aside0.mk (below_step (by repeat (first | (with_reducible first | exact HB.out | apply below_alloc | apply pw_below_drewN | apply below_drew1) | exact HB.out)) hb); clear HB; have HB := n0_; clear n0_; (try clear hb); (try clear hb2); (try clear hk); (try clear hi)) | ((with_reducible refine gate_callee (f := 19) rfl ?_); refine goesL_ (some 35) rfl rfl Try.func19 (by kernel_rfl) rfl #[.int .i64 a0] rfl (by (try simp only [List.map_toArray, List.map_cons, List.map_nil]); first | done | rfl | (simp only [List.length_drop, List.length_take]; rfl)) ?_; (with_reducible refine (weigh_Least.calls k a0 t121 _ A28.out).mono ?_); rintro e w38 ⟨rfl, hb⟩; refine ⟨_, rfl, ?_⟩; have n0_ := Aside0.mk (below_step (by repeat (first | (with_reducible first | exact HB.out | apply below_alloc | apply pw_below_drewN | apply below_drew1) | exact HB.out)) hb); clear HB; have HB := n0_; clear n0_; (try clear hb); (try clear hb2); (try clear hk); (try clear hi)) | (go_at_call 19; (with_reducible refine (weigh_Least.calls k a0 t122 _ A30.out).mono ?_); rintro e w39 ⟨rfl, hb⟩; have n0_ := Aside0.mk (below_step (by repeat (first | (with_reducible first | exact HB.out | apply below_alloc | apply pw_below_drewN | apply below_drew1) | exact HB.out)) hb); clear HB; have HB := n0_; clear n0_; (try clear hb); (try clear hb2); (try clear hk); (try clear hi)))
            go_ret
            exact ⟨by first | rfl | (simp [errW_none, errW_some] <;> rfl) | (simp [*, errW_none, errW_some] <;> rfl), by repeat (first | (with_reducible first | exact HB.out | apply below_alloc | apply pw_below_drewN | apply below_drew1) | exact HB.out)⟩
        · rw [if_neg c29] at H
          have c29b0 : (t121 == (wrap64 ((wrap64 ((wrap64 (1 + t120)) + (wrap64 (Int.tdiv (wrap64 ((wrap64 (t120 + 1)) + 2)) 3)))) - 1))) = false := beq_eq_false_iff_ne.mpr c29
          have c29b1 : (t121 != (wrap64 ((wrap64 ((wrap64 (1 + t120)) + (wrap64 (Int.tdiv (wrap64 ((wrap64 (t120 + 1)) + 2)) 3)))) - 1))) = true := bne_iff_ne.mpr c29
          obtain rfl := Option.some.inj H
          go_enter Try.func6, Try.ntmps6
          go_wp2_with (first | ((with_reducible refine gate_callee (f := 19) rfl ?_); refine goesL_ (some 33) rfl rfl Try.func19 (by kernel_rfl) rfl #[.int .i64 (wrap64 (a0 - 1))] rfl (by (try simp only [List.map_toArray, List.map_cons, List.map_nil]); first | done | rfl | (simp only [List.length_drop, List.length_take]; rfl)) ?_; (with_reducible refine (weigh_Least.calls k (wrap64 (a0 - 1)) t120 _ A27.out).mono ?_); rintro e w40 ⟨rfl, hb⟩; refine ⟨_, rfl, ?_⟩; have n0_ := Aside0.mk (below_step (by repeat (first | (with_reducible first | exact HB.out | apply below_alloc | apply pw_below_drewN | apply below_drew1) | exact HB.out)) hb); clear HB; have HB := n0_; clear n0_; (try clear hb); (try clear hb2); (try clear hk); (try clear hi)) | ((with_reducible refine gate_callee (f := 19) rfl ?_); refine goesL_ (some 35) rfl rfl Try.func19 (by kernel_rfl) rfl #[.int .i64 a0] rfl (by (try simp only [List.map_toArray, List.map_cons, List.map_nil]); first | done | rfl | (simp only [List.length_drop, List.length_take]; rfl)) ?_; (with_reducible refine (weigh_Least.calls k a0 t121 _ A28.out).mono ?_); rintro e w41 ⟨rfl, hb⟩; refine ⟨_, rfl, ?_⟩; have n0_ := Aside0.mk (below_step (by repeat (first | (with_reducible first | exact HB.out | apply below_alloc | apply pw_below_drewN | apply below_drew1) | exact HB.out)) hb); clear HB; have HB := n0_; clear n0_; (try clear hb); (try clear hb2); (try clear hk); (try clear hi)))
          go_ret
          exact ⟨by first | rfl | (simp [errW_none, errW_some] <;> rfl) | (simp [*, errW_none, errW_some] <;> rfl), by repeat (first | (with_reducible first | exact HB.out | apply below_alloc | apply pw_below_drewN | apply below_drew1) | exact HB.out)⟩

/-- THE ONE PURE STATEMENT of brushwoodlaw10_WeighLeast: yours. -/
def brushwoodlaw10_WeighLeast.Pure : Prop := ∀ (a0 : Int), (Lit.int .i64 a0).wf = true → ∃ k, brushwoodlaw10_WeighLeast.f k a0 = some true
theorem brushwoodlaw10_WeighLeast.walk (P : brushwoodlaw10_WeighLeast.Pure) (a0 : Int) (w : World) (w0 : (Lit.int .i64 a0).wf = true) :
    Calls Try.prog 6 #[.int .i64 a0] w fun e w' => e = .returned (.bool true) ∧ Below w.heap.size w w' := by
  obtain ⟨k, h⟩ := P a0 w0
  refine (brushwoodlaw10_WeighLeast.calls k a0 true w h).mono ?_
  rintro e w' ⟨rfl, hd⟩
  exact ⟨rfl, hd⟩

end Go.Proofs.Ytfffacgihgkobaa.PWeighLeast
