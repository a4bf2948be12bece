/- The law RankTells. -/
import Derived.Test.YtlnlgahokifolaaTRankAt
import Derived.Test.YtlnlgahokifolaaTQuiet
set_option linter.unusedVariables false
set_option linter.unusedSimpArgs false
namespace Go.Proofs.Ytlnlgahokifolaa
open Go.RowKit

theorem Told.to {Y : World} {g : Nat} {A : Option Addr} {n c : Nat} {A' : Option Addr} {n' c' : Nat} {L : Pairs} {i j : Int} (h : Told Y g A n c A' n' c' L i) (e : i = j ∨ (¬ (0 ≤ i ∧ i < (L.length : Int)) ∧ ¬ (0 ≤ j ∧ j < (L.length : Int)))) : Told Y g A n c A' n' c' L j := by
  rcases e with rfl | ⟨h1, h2⟩
  · exact h
  · have hp := h.pin
    rw [if_neg h1] at hp
    exact ⟨h.two, by rw [if_neg h2]; exact hp⟩
theorem ceil_alike (M : Pairs) (key : Bytes) : (belowM M key : Int) = ceilM M key ∨ (¬ (0 ≤ (belowM M key : Int) ∧ (belowM M key : Int) < (M.length : Int)) ∧ ¬ (0 ≤ ceilM M key ∧ ceilM M key < (M.length : Int))) := by
  unfold ceilM
  by_cases h : belowM M key < M.length
  · rw [if_pos h]; exact .inl rfl
  · rw [if_neg h]; exact .inr ⟨by omega, by omega⟩
theorem rank_belowM (T : PT) (key : Bytes) (h : Asc T.list) : T.belowT (fun k => decide (cmp k key = -1)) = belowM T.list key :=
  below_plain T _ h fun a b h1 h2 => decide_eq_true (cmp_lt_trans _ _ _ h1 (of_decide_eq_true h2))
theorem floor_leM (T : PT) (key : Bytes) (h : Asc T.list) : T.belowT (fun k => decide (cmp k key ≠ 1)) = leM T.list key := by
  rw [below_plain T _ h]
  · unfold leM
    congr 1
    funext q
    rw [decide_eq_decide, cmp_neg key q.1]
    constructor
    · intro h1 h2; exact h1 (by omega)
    · intro h1 h2; exact h1 (by omega)
  · intro a b h1 h2
    have h3 := of_decide_eq_true h2
    refine decide_eq_true fun h4 => ?_
    exact h3 (by rw [cmp_neg, cmp_lt_trans _ _ _ (cmp_gt h4) h1]; rfl)

set_option maxRecDepth 100000 in
set_option maxHeartbeats 1600000 in
theorem rankTells_any (A : Option Addr) (n c : Nat) (L : List (Int × Bytes × Bytes)) (kv : Value) (k : Bytes) (w : World) (h : Ops w A n L) (hk : BRaw w kv k) :
    Calls Try.prog 9 #[.slice A n c, kv] w fun e w' => e = .returned (.bool true) ∧ Below w.heap.size w w' := by
  obtain ⟨Ak, nk, ck, rfl, hk1, hk2, hk3⟩ := id hk
  have HLK := Lib.hid hk3.len
  have HO := Lib.hid h
  have HK := Lib.hid hk
  have HF := Lib.hid (fine_any A n c L 80 w h (by omega))
  clear h hk hk3
  go_enter Try.func9, Try.ntmps9
  go_wp2_with fail
  refine HF.out.mono ?_
  rintro e w1 ⟨r, rfl, hr, hb1⟩
  have HB1 := Lib.hid hb1
  clear hb1
  cases r with
  | false =>
    clear hr
    go_wp2_with fail
    refine (awake12_any w1).mono ?_
    rintro e w2 ⟨rfl, hb2⟩
    have HB2 : Hid (Below w.heap.size w w2) := HB1.out.trans (hb2.mono HB1.out.size)
    clear hb2
    go_wp2_with fail
    go_ret
    exact ⟨rfl, HB2.out⟩
  | true =>
    have HFI := Lib.hid (hr rfl)
    have hn80 : n ≤ 80 := by have := (hr rfl).1; rw [HO.out.len] at this; exact this
    clear hr
    by_cases hbig : 100 < nk
    · have : (100 : Int) < (nk : Int) := by omega
      go_wp2_with fail
      refine (awake12_any w1).mono ?_
      rintro e w2 ⟨rfl, hb2⟩
      have HB2 : Hid (Below w.heap.size w w2) := HB1.out.trans (hb2.mono HB1.out.size)
      clear hb2
      go_wp2_with fail
      go_ret
      exact ⟨rfl, HB2.out⟩
    · have hsm : ¬ (100 : Int) < (nk : Int) := by omega
      have HMD := Lib.hid (made_any A n c L w1 (HO.out.below HB1.out) ⟨by have := HFI.out.1; omega, HFI.out.2⟩)
      have HKF : Hid (BIn (fun _ => True) w (.slice Ak nk ck) k) := HK.out.fine (by have := HLK.out; omega)
      go_wp2_with fail
      refine HMD.out.mono ?_
      rintro e w2 ⟨u, A', c', T, rfl, hI⟩
      have HB2 : Hid (Below w.heap.size w w2) := HB1.out.trans (hI.out.below.mono HB1.out.size)
      have hsz : T.size ≤ 1000000 := by have := hI.out.size; omega
      have HLL := Lib.hid T.size_list
      have HRB := Lib.hid (rank_belowM T k hI.out.asc)
      have HFB := Lib.hid (floor_leM T k hI.out.asc)
      go_wp2_with fail
      refine (floor_any T (.pointer u) (.slice Ak nk ck) k w2 hI.out.tin (HKF.out.below HB2.out) hsz).mono ?_
      rintro e w3 hr
      rw [HFB.out] at hr
      obtain ⟨A1, n1, c1, A2, n2, c2, ok3, rfl, o3, t3, b3⟩ := hr.told
      clear hr
      go_upto_region 5 with fail
      generalize w3.heap.size = g3 at *
      generalize w3.alloc (.cells #[.slice A1 n1 c1, .slice A2 n2 c2] 39) = X at *
      have HIX : Hid (Both w1 X u A' c' T n) := hI.out.on b3.out
      have HBX : Hid (Below w.heap.size w X) := HB2.out.trans (b3.out.mono HB2.out.size)
      go_wp2_with fail
      refine (ceil_any T (.pointer u) (.slice Ak nk ck) k X HIX.out.tin (HKF.out.below HBX.out) hsz).mono ?_
      rintro e w4 hr
      rw [HRB.out] at hr
      obtain ⟨A3, n3, c3, A4, n4, c4, ok4, rfl, o4, t4, b4⟩ := hr.told
      clear hr
      go_upto_region 6 with fail
      generalize w4.heap.size = g4 at *
      generalize w4.alloc (.cells #[.slice A3 n3 c3, .slice A4 n4 c4] 39) = Y at *
      have HIY : Hid (Both w1 Y u A' c' T n) := HIX.out.on b4.out
      have HBY : Hid (Below w.heap.size w Y) := HBX.out.trans (b4.out.mono HBX.out.size)
      have T3 := Lib.hid (t3.out.below b4.out)
      have hcA := ceil_alike T.list k
      have T4 := Lib.hid (t4.out.to hcA)
      have hdec : decide (0 ≤ (belowM T.list k : Int) ∧ (belowM T.list k : Int) < (T.list.length : Int)) = decide (0 ≤ ceilM T.list k ∧ ceilM T.list k < (T.list.length : Int)) := by
        rcases hcA with e | ⟨h1, h2⟩
        · rw [e]
        · rw [decide_eq_false h1, decide_eq_false h2]
      have O4 : Hid (ok4 = decide (0 ≤ ceilM T.list k ∧ ceilM T.list k < (T.list.length : Int))) := o4.out.trans hdec
      clear hdec hcA t3 t4 b3 b4 o4
      have al : T.list.length ≤ 1000000 := by have := HLL.out; omega
      have HAL := Lib.hid al
      clear al
      have CRK : Hid (∀ p : BelowBy Y, Calls Try.prog 33 #[.pointer u, .slice Ak nk ck] p.W fun e w' => e = .returned (.int .i64 (belowM T.list k : Int)) ∧ Below p.W.heap.size p.W w') := fun p => by
        have := rank_any T (.pointer u) (.slice Ak nk ck) k p.W (HIY.out.tin.below p.below) ((HKF.out.below HBY.out).below p.below) hsz
        rw [HRB.out] at this
        exact this
      have CMR : Hid (∀ p : BelowBy Y, Calls Try.prog 34 #[.slice A' T.list.length c', .string (strO k)] p.W fun e w' => e = .returned (.int .i64 (belowM T.list k : Int)) ∧ Below p.W.heap.size p.W w') := fun p => by
        have := mrank_any T.list A' T.list.length c' (strO k) p.W (HIY.out.min.below p.below) HAL.out HIY.out.keys
        rw [strL_strO] at this
        exact this
      have CMF : Hid (∀ p : BelowBy Y, Calls Try.prog 36 #[.slice A' T.list.length c', .string (strO k)] p.W fun e w' => e = .returned (.int .i64 ((leM T.list k : Int) - 1)) ∧ Below p.W.heap.size p.W w') := fun p => by
        have := mfloor_any T.list A' T.list.length c' (strO k) p.W (HIY.out.min.below p.below) HAL.out (by rw [strO_size]; have := HLK.out; omega) HIY.out.asc
        rw [strL_strO] at this
        exact this
      have CMC : Hid (∀ p : BelowBy Y, Calls Try.prog 37 #[.slice A' T.list.length c', .string (strO k)] p.W fun e w' => e = .returned (.int .i64 (ceilM T.list k)) ∧ Below p.W.heap.size p.W w') := fun p => by
        have := mceil_any T.list A' T.list.length c' (strO k) p.W (HIY.out.min.below p.below) HAL.out HIY.out.keys HIY.out.asc
        rw [strL_strO] at this
        exact this
      have CA1 := Lib.hid (fun p : BelowBy Y => lawAt_any T.list A' c' A1 A2 n1 c1 n2 c2 ok3 ((leM T.list k : Int) - 1) p.W (HIY.out.min.below p.below) HAL.out o3.out (T3.out.below p.below).pin)
      have CA2 := Lib.hid (fun p : BelowBy Y => lawAt_any T.list A' c' A3 A4 n3 c3 n4 c4 ok4 (ceilM T.list k) p.W (HIY.out.min.below p.below) HAL.out O4.out (T4.out.below p.below).pin)
      have CAW := Lib.hid (fun p : BelowBy Y => awake12_any p.W)
      have q0 := fun p : BelowBy Y => (T3.out.below p.below).two.cells.1
      have q1 := fun p : BelowBy Y => (T3.out.below p.below).two.cells.2
      have q2 := fun p : BelowBy Y => (T4.out.below p.below).two.cells.1
      have q3 := fun p : BelowBy Y => (T4.out.below p.below).two.cells.2
      have hcv := fun p : BelowBy Y => conv_bytes ((HKF.out.below HBY.out).below p.below)
      generalize ceilM T.list k = ic at *
      generalize (leM T.list k : Int) - 1 = il at *
      generalize belowM T.list k = ib at *
      refine wp_region_quiet_below (by kernel_rfl) (by kernel_rfl) ?_
      repeat (quiet_step (first
        | (go_at_call 33; with_reducible refine Calls.below_of (CRK.out _))
        | (go_at_call 34; with_reducible refine Calls.below_of (CMR.out _))
        | (go_at_call 36; with_reducible refine Calls.below_of (CMF.out _))
        | (go_at_call 37; with_reducible refine Calls.below_of (CMC.out _))
        | (go_at_call 35; with_reducible refine Calls.below_of (CA1.out _))
        | (go_at_call 35; with_reducible refine Calls.below_of (CA2.out _))
        | (go_at_call 29; with_reducible refine Calls.below_of (CAW.out _))))
      refine wpQuiet_nil ?_
      intro _ hw'
      obtain ⟨p, rfl⟩ := hw'
      have HBP : Hid (Below w.heap.size w p.W) := HBY.out.trans (p.below.mono HBY.out.size)
      clear q0 q1 q2 q3 hcv
      go_wp2_with fail
      go_ret
      exact ⟨rfl, HBP.out⟩

end Go.Proofs.Ytlnlgahokifolaa
