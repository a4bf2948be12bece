/- A cursor's calls, put together; what the law asks of a pair; awake. -/
import Derived.Test.YtnfhbljhohjkhaaWCur
set_option linter.unusedVariables false
set_option linter.unusedSimpArgs false
namespace Go.Proofs.Ytnfhbljhohjkhaa
open Go.RowKit
attribute [local go_sem] max2_num min2_num maxOf_two minOf_two

/-- A cursor, its tree, and all that was there when it was made. -/
structure CI (X W : World) (g : Nat) (tu : Option Addr) (T : PT) (k : Nat) : Prop where
  tin : TIn (fun b => b < g) W (.pointer tu) T
  cur : Cur W g (.pointer tu) (k : Int)
  kept : Kept (some g) X W
  le : k ≤ T.list.length
  sz : T.size ≤ 100000
theorem CI.below {X W W' : World} {g k : Nat} {tu : Option Addr} {T : PT} (h : CI X W g tu T k) (hb : Below W.heap.size W W') : CI X W' g tu T k :=
  ⟨h.tin.below hb, h.cur.below hb h.cur.lt, h.kept.trans (Kept.of hb), h.le, h.sz⟩
theorem CI.move {X W W' : World} {g k k' : Nat} {tu : Option Addr} {T : PT} (h : CI X W g tu T k) (hk : Kept (some g) W W') (hc : Cur W' g (.pointer tu) (k' : Int)) (hl : k' ≤ T.list.length) : CI X W' g tu T k' :=
  ⟨h.tin.kept hk (fun b hb e => by injection e with e; subst e; exact Nat.lt_irrefl _ hb), hc, h.kept.trans hk, hl, h.sz⟩
/-- What Next and Back tell. -/
def MoveR (X w w' : World) (e : Ending) (g : Nat) (tu : Option Addr) (T : PT) (k' : Nat) (i : Int) : Prop :=
  ∃ A n c A' n' c', e = .returned (.tuple #[.agg #[.slice A n c, .slice A' n' c'], .bool (decide (0 ≤ i ∧ i < (T.list.length : Int)))]) ∧
    Hid (PIn (New w.heap.size) w' (.agg #[.slice A n c, .slice A' n' c']) (if 0 ≤ i ∧ i < (T.list.length : Int) then T.list.getD i.toNat ([], []) else ([], [])).1 (if 0 ≤ i ∧ i < (T.list.length : Int) then T.list.getD i.toNat ([], []) else ([], [])).2 ∧ Kept (some g) w w' ∧ CI X w' g tu T k')

theorem next_ci {X w : World} {g k : Nat} {tu : Option Addr} {T : PT} (h : CI X w g tu T k) : Calls Try.prog 44 #[.pointer (some ⟨g, 0, none⟩)] w fun e w' => MoveR X w w' e g tu T (if k < T.list.length then k + 1 else k) (k : Int) := by
  have hs := T.size_list
  by_cases hk : k < T.list.length
  · refine (nextY_any T tu g k w h.tin h.cur (by omega) h.sz).mono ?_
    rintro e w' ⟨A, n, c, A', n', c', rfl, hp⟩
    have hd : (0 : Int) ≤ (k : Int) ∧ (k : Int) < (T.list.length : Int) := by omega
    refine ⟨A, n, c, A', n', c', by rw [decide_eq_true hd], Lib.hid ⟨?_, hp.out.2.1, ?_⟩⟩
    · rw [if_pos hd, Int.toNat_natCast]; exact hp.out.1
    · rw [if_pos hk]; exact h.move hp.out.2.1 (by have := hp.out.2.2; rw [show ((k + 1 : Nat) : Int) = (k : Int) + 1 by simp]; exact this) (by omega)
  · refine (nextN_any T tu g k w h.tin h.cur (by have := h.le; omega) h.sz).mono ?_
    rintro e w' ⟨A, n, c, A', n', c', rfl, hp⟩
    have hd : ¬ ((0 : Int) ≤ (k : Int) ∧ (k : Int) < (T.list.length : Int)) := by omega
    refine ⟨A, n, c, A', n', c', by rw [decide_eq_false hd], Lib.hid ⟨?_, hp.out.2.1, ?_⟩⟩
    · rw [if_neg hd]; exact hp.out.1
    · rw [if_neg hk]; exact h.move hp.out.2.1 hp.out.2.2 h.le
theorem back_ci {X w : World} {g k : Nat} {tu : Option Addr} {T : PT} (h : CI X w g tu T k) : Calls Try.prog 46 #[.pointer (some ⟨g, 0, none⟩)] w fun e w' => MoveR X w w' e g tu T (k - 1) ((k : Int) - 1) := by
  have hs := T.size_list
  have hle := h.le
  by_cases hk : 0 < k
  · refine (backY_any T tu g k w h.tin h.cur (by omega) h.sz).mono ?_
    rintro e w' ⟨A, n, c, A', n', c', rfl, hp⟩
    have hd : (0 : Int) ≤ (k : Int) - 1 ∧ (k : Int) - 1 < (T.list.length : Int) := by omega
    refine ⟨A, n, c, A', n', c', by rw [decide_eq_true hd], Lib.hid ⟨?_, hp.out.2.1, ?_⟩⟩
    · rw [if_pos hd, show ((k : Int) - 1).toNat = k - 1 by omega]; exact hp.out.1
    · exact h.move hp.out.2.1 (by have := hp.out.2.2; rw [show ((k - 1 : Nat) : Int) = (k : Int) - 1 by omega]; exact this) (by omega)
  · obtain rfl : k = 0 := by omega
    refine (backN_any T tu g 0 w h.tin h.cur rfl h.sz).mono ?_
    rintro e w' ⟨A, n, c, A', n', c', rfl, hp⟩
    have hd : ¬ ((0 : Int) ≤ ((0 : Nat) : Int) - 1 ∧ ((0 : Nat) : Int) - 1 < (T.list.length : Int)) := by omega
    refine ⟨A, n, c, A', n', c', by rw [decide_eq_false hd], Lib.hid ⟨?_, hp.out.2.1, ?_⟩⟩
    · rw [if_neg hd]; exact hp.out.1
    · exact h.move hp.out.2.1 hp.out.2.2 h.le

set_option maxHeartbeats 1600000 in
theorem wleft_any {X w : World} {g k : Nat} {tu : Option Addr} {T : PT} (h : CI X w g tu T k) :
    Calls Try.prog 48 #[.pointer (some ⟨g, 0, none⟩)] w fun e w' => e = .returned (.int .i64 ((T.list.length : Int) - (k : Int))) ∧ Below w.heap.size w w' := by
  have hsl := T.size_list
  have hle := h.le
  have hsz := h.sz
  have s0 := fun p : BelowBy w => (h.below p.below).cur.cells.1
  have s1 := fun p : BelowBy w => (h.below p.below).cur.cells.2
  have HS := Lib.hid (fun p : BelowBy w => tsize_any T (.pointer tu) p.W (h.tin.below p.below))
  have hw : IntKind.i64.wrap ((T.size : Int) - (k : Int)) = (T.list.length : Int) - (k : Int) := by rw [wsm _ (by omega)]; omega
  clear h hsl
  go_enter Try.func48, Try.ntmps48
  go_upto_region 1 with fail
  refine wp_region_quiet_below (by kernel_rfl) (by kernel_rfl) ?_
  repeat (quiet_step (first | (go_at_call 29; with_reducible refine Calls.below_same (HS.out _))))
  refine wpQuiet_nil ?_
  intro _ hw'
  obtain ⟨pb, rfl⟩ := hw'
  have HB := Lib.hid pb.below
  go_wp2_with fail
  go_ret
  exact ⟨rfl, HB.out⟩

theorem empty_bin {S : Nat → Prop} {w : World} {A : Option Addr} {n c : Nat} (h : BIn S w (.slice A n c) []) : n = 0 := by
  obtain ⟨A', n', c', e, _, hR, _⟩ := h
  cases e
  exact hR.len.symm

set_option maxHeartbeats 6400000 in
theorem at45_any {S S' : Nat → Prop} (M : Pairs) (A : Option Addr) (c : Nat) (A1 A2 : Option Addr) (n1 c1 n2 c2 : Nat) (ok : Bool) (i : Int) (w : World) (hM : MIn S w A M.length M) (hn : M.length ≤ 1000000)
    (hok : ok = decide (0 ≤ i ∧ i < (M.length : Int)))
    (hp : PIn S' w (.agg #[.slice A1 n1 c1, .slice A2 n2 c2]) (if 0 ≤ i ∧ i < (M.length : Int) then M.getD i.toNat ([], []) else ([], [])).1 (if 0 ≤ i ∧ i < (M.length : Int) then M.getD i.toNat ([], []) else ([], [])).2) :
    Calls Try.prog 45 #[.agg #[.slice A1 n1 c1, .slice A2 n2 c2], .bool ok, .slice A M.length c, .int .i64 i] w fun e w' => e = .returned (.bool true) ∧ Below w.heap.size w w' := by
  obtain ⟨h1, h2⟩ := hp.kx
  have hB := (Below.refl _ w).alloc (Nat.le_refl _) (.cells #[.slice A1 n1 c1, .slice A2 n2 c2] 40)
  have hbox : Two (w.alloc (.cells #[.slice A1 n1 c1, .slice A2 n2 c2] 40)) w.heap.size (.slice A1 n1 c1) (.slice A2 n2 c2) := heap_new w _
  obtain ⟨b0, b1⟩ := hbox.cells
  have HB := Lib.hid hB
  by_cases hin : 0 ≤ i ∧ i < (M.length : Int)
  · rw [if_pos hin] at h1 h2
    rw [decide_eq_true hin] at hok
    subst hok
    obtain ⟨j, rfl⟩ : ∃ j : Nat, i = (j : Int) := ⟨i.toNat, by omega⟩
    have hj : j < M.length := by omega
    obtain ⟨b, o, rfl, hbl, hSb, hc⟩ := (hM.below hB).cell (by omega)
    obtain ⟨c0, c1'⟩ := hc j hj
    have hk2 := fun i => conv_bytes ((h1.below hB).below (below_drewN' i))
    have hx2 := fun i => conv_bytes ((h2.below hB).below (below_drewN' i))
    simp only [bs] at c0 c1'
    rw [Int.toNat_natCast] at hk2 hx2
    generalize strO (M.getD j ([], [])).1 = sk at *
    generalize strO (M.getD j ([], [])).2 = sx at *
    obtain ⟨al, al3⟩ := hin
    have al2 : ¬ (M.length : Int) ≤ (j : Int) := by omega
    have al4 : ¬ M.length ≤ j := by omega
    clear hc h1 h2 hM hbox hB hp
    go_enter Try.func45, Try.ntmps45
    go_wp2_with fail
    generalize w.alloc (.cells #[.slice A1 n1 c1, .slice A2 n2 c2] 40) = X at *
    go_quiet (fail)
    go_wp2_with fail
    go_ret
    exact ⟨rfl, below_drewN HB.out _⟩
  · rw [if_neg hin] at h1 h2
    rw [decide_eq_false hin] at hok
    subst hok
    obtain rfl := empty_bin h1
    obtain rfl := empty_bin h2
    clear h1 h2 hM hbox hB hp
    by_cases h0 : i < 0
    · clear hin
      go_enter Try.func45, Try.ntmps45
      go_wp2_with fail
      go_ret
      exact ⟨rfl, HB.out⟩
    · have al2 : (M.length : Int) ≤ i := by omega
      clear hin
      go_enter Try.func45, Try.ntmps45
      go_wp2_with fail
      go_ret
      exact ⟨rfl, HB.out⟩

set_option maxHeartbeats 800000 in
theorem held_any (i : Int) (n : Nat) (w : World) : Calls Try.prog 49 #[.int .i64 i, .int .i64 (n : Int)] w fun e w' => e = .returned (.int .i64 (heldN i n : Int)) ∧ w = w' := by
  have HV : Hid (∀ h1 : i < 0, (heldN i n : Int) = 0) := fun h1 => by unfold heldN; rw [if_pos h1]; rfl
  have HV2 : Hid (∀ h1 : ¬ i < 0, (n : Int) < i → (heldN i n : Int) = (n : Int)) := fun h1 h2 => by unfold heldN; rw [if_neg h1, if_pos h2]
  have HV3 : Hid (∀ h1 : ¬ i < 0, ¬ (n : Int) < i → (heldN i n : Int) = i) := fun h1 h2 => by unfold heldN; rw [if_neg h1, if_neg h2]; exact Int.toNat_of_nonneg (by omega)
  by_cases h1 : i < 0
  · have HH := Lib.hid (HV.out h1)
    rw [HH.out]
    go_enter Try.func49, Try.ntmps49
    go_wp2_with fail
    go_ret
    exact ⟨rfl, rfl⟩
  · by_cases h2 : (n : Int) < i
    · have HH := Lib.hid (HV2.out h1 h2)
      rw [HH.out]
      go_enter Try.func49, Try.ntmps49
      go_wp2_with fail
      go_ret
      exact ⟨rfl, rfl⟩
    · have HH := Lib.hid (HV3.out h1 h2)
      rw [HH.out]
      go_enter Try.func49, Try.ntmps49
      go_wp2_with fail
      go_ret
      exact ⟨rfl, rfl⟩

set_option maxHeartbeats 1600000 in
theorem seek_ci {S' : Nat → Prop} {X w : World} {g k : Nat} {tu : Option Addr} {T : PT} (kv : Value) (key : Bytes) (h : CI X w g tu T k) (hk : BIn S' w kv key) :
    Calls Try.prog 50 #[.pointer (some ⟨g, 0, none⟩), kv] w fun e w' => (∃ v, e = .returned v) ∧ Kept (some g) w w' ∧ CI X w' g tu T (T.belowT (fun k => decide (cmp k key = -1))) := by
  obtain ⟨A, n, c, rfl⟩ := hk.slice
  have hle := T.belowT_le (fun k => decide (cmp k key = -1))
  have hsl := T.size_list
  have HR := Lib.hid (rank_any T (.pointer tu) (.slice A n c) key w h.tin hk (by have := h.sz; omega))
  obtain ⟨p, hp⟩ : ∃ p, T.belowT (fun k => decide (cmp k key = -1)) = p := ⟨_, rfl⟩
  rw [hp] at HR hle ⊢
  obtain ⟨c0, c1⟩ := h.cur.cells
  have hpl : p ≤ T.list.length := by omega
  have HPL := Lib.hid hpl
  have H := Lib.hid h
  clear h hk hp hle hsl hpl
  go_enter Try.func50, Try.ntmps50
  go_wp2_with fail
  refine HR.out.mono ?_
  rintro e w1 ⟨rfl, hb1⟩
  have H1 := Lib.hid (H.out.below hb1)
  have HB1 := Lib.hid hb1
  clear c0 c1 hb1
  obtain ⟨c0, c1⟩ := H1.out.cur.cells
  have f1 := frozen_of_row _ _ 1 _ _ H1.out.cur
  go_wp2_with fail
  have hk1 : Kept (some g) w (w1.setCell ⟨g, 1, none⟩ (.int .i64 (p : Int))) := (Kept.of HB1.out).cur _
  go_end0
  exact ⟨⟨_, rfl⟩, hk1, H.out.move hk1 (H1.out.cur.set _) HPL.out⟩

end Go.Proofs.Ytnfhbljhohjkhaa
