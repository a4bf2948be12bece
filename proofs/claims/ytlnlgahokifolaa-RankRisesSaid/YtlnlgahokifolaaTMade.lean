/- law12's made, at and awake. -/
import Derived.Test.YtlnlgahokifolaaTRef12
set_option linter.unusedVariables false
set_option linter.unusedSimpArgs false
namespace Go.Proofs.Ytlnlgahokifolaa
open Go.RowKit

set_option maxRecDepth 100000 in
set_option maxHeartbeats 12800000 in
theorem made_any (A : Option Addr) (n c : Nat) (L : List (Int × Bytes × Bytes)) (w : World) (h : Ops w A n L) (hf : FineL L 1000) :
    Calls Try.prog 30 #[.slice A n c] w fun e w' => ∃ u A' c' T, e = .returned (.tuple #[.pointer u, .slice A' T.list.length c']) ∧ Hid (Both w w' u A' c' T n) := by
  have HO := Lib.hid h
  have HFI := Lib.hid hf
  have hn80 : n ≤ 1000 := by have := hf.1; rw [h.len] at this; exact this
  clear h hf
  go_enter Try.func30, Try.ntmps30
  go_wp2_with fail
  go_loopw [4, 5, 10] (fun t x v wr => ∃ (j : Nat) (u A' : Option Addr) (c' : Nat) (T : PT), v = .int .i64 (j : Int) ∧ j ≤ n ∧ t = .pointer u ∧ x = .slice A' T.list.length c' ∧ Hid (Both w wr u A' c' T j)) (fun _ _ v _ => n - (intOf v).toNat)
  case atStart => exact ⟨0, none, none, 0, .nil, rfl, by omega, rfl, rfl, Lib.hid (Both.nil w _ (Below.refl _ _))⟩
  case round =>
    obtain ⟨j, u, A', c', T, rfl, hj, rfl, rfl, hI⟩ := hrel
    by_cases hlt : j < n
    · obtain ⟨b, o, rfl, hbl, hc⟩ := (HO.out.below hI.out.below).cell (by omega)
      obtain ⟨kv, xv, c0, c1, c2, hk, hx⟩ := hc j hlt
      have hmem : L.getD j (0, [], []) ∈ L := by
        have hjl : j < L.length := by rw [HO.out.len]; exact hlt
        rw [List.getD_eq_getElem?_getD, List.getElem?_eq_getElem hjl, Option.getD_some]; exact List.getElem_mem hjl
      have hfl := HFI.out.2 _ hmem
      obtain ⟨op, hop⟩ : ∃ op, (L.getD j (0, [], [])).1 = op := ⟨_, rfl⟩
      rw [hop] at c0
      have hOI : OIn (fun _ => True) wr (.agg #[.int .i64 op, kv, xv]) op (L.getD j (0, [], [])).2.1 (L.getD j (0, [], [])).2.2 := OIn.of hk hx hfl.1 hfl.2
      obtain ⟨Ak, nk, ck, rfl, _⟩ := hk
      obtain ⟨Ax, nx, cx, rfl, _⟩ := hx
      have hbx : Below wr.heap.size wr (wr.alloc (.cells #[.int .i64 op, .slice Ak nk ck, .slice Ax nx cx] 29)) := (Below.refl _ _).alloc (Nat.le_refl _) _
      have hI2 := hI.out.on hbx
      have hO2 := hOI.below hbx
      have HST := Lib.hid (step_both (S := fun _ => True) none 0 0 op (L.getD j (0, [], [])).2.1 (L.getD j (0, [], [])).2.2 w _ u A' c' j T _ hI2 hO2 (by omega) (by simp) (by simp) hI2.tin hI2.min hO2 (fun b e => by cases e) (by omega) (by have := T.height_le; have := hI.out.size; omega) (by have := T.height_le; have := hI.out.size; omega))
      have al : (0 : Int) ≤ (j : Int) := by omega
      have al3 : (j : Int) < (n : Int) := by omega
      clear hc hmem hfl hop hOI hbx hI2 hO2
      go_wp2_with fail
      refine HST.out.mono ?_
      rintro e w2 ⟨u', A2, c2, T', vi', co', rfl, hN⟩
      go_wp2_with fail
      go_roundw
      case rel => exact ⟨j + 1, u', A2, c2, T', by go_num, by omega, rfl, rfl, Lib.hid hN.out.1⟩
      case measure => simp [intOf]; omega
    · obtain rfl : j = n := by omega
      go_wp2_with fail
      go_ret2
      exact ⟨u, A', c', T, rfl, hI⟩

theorem BIn.empty {S : Nat → Prop} {w : World} {A : Option Addr} {n c : Nat} (h : BIn S w (.slice A n c) []) : n = 0 := by
  obtain ⟨A', n', c', e, _, hR, _⟩ := h
  cases e
  exact hR.len.symm

set_option maxHeartbeats 6400000 in
theorem lawAt_any {S S' : Nat → Prop} (M : Pairs) (A : Option Addr) (c : Nat) (A1 A2 : Option Addr) (n1 c1 n2 c2 : Nat) (ok : Bool) (i : Int) (w : World) (hM : MIn S w A M.length M) (hn : M.length ≤ 1000000)
    (hok : ok = decide (0 ≤ i ∧ i < (M.length : Int)))
    (hp : PIn S' w (.agg #[.slice A1 n1 c1, .slice A2 n2 c2]) (if 0 ≤ i ∧ i < (M.length : Int) then M.getD i.toNat ([], []) else ([], [])).1 (if 0 ≤ i ∧ i < (M.length : Int) then M.getD i.toNat ([], []) else ([], [])).2) :
    Calls Try.prog 35 #[.agg #[.slice A1 n1 c1, .slice A2 n2 c2], .bool ok, .slice A M.length c, .int .i64 i] w fun e w' => e = .returned (.bool true) ∧ Below w.heap.size w w' := by
  obtain ⟨h1, h2⟩ := hp.kx
  have hB := (Below.refl _ w).alloc (Nat.le_refl _) (.cells #[.slice A1 n1 c1, .slice A2 n2 c2] 39)
  have hbox : Two (w.alloc (.cells #[.slice A1 n1 c1, .slice A2 n2 c2] 39)) w.heap.size (.slice A1 n1 c1) (.slice A2 n2 c2) := heap_new w _
  obtain ⟨b0, b1⟩ := hbox.cells
  have HB := Lib.hid hB
  by_cases hin : 0 ≤ i ∧ i < (M.length : Int)
  · rw [if_pos hin] at h1 h2
    rw [decide_eq_true hin] at hok
    subst hok
    obtain ⟨j, rfl⟩ : ∃ j : Nat, i = (j : Int) := ⟨i.toNat, by omega⟩
    have hj : j < M.length := by omega
    obtain ⟨b, o, rfl, hbl, hSb, hc⟩ := (hM.below hB).cell (by omega)
    obtain ⟨c0, c1'⟩ := hc j hj
    have hk2 := fun i => conv_bytes ((h1.below hB).below (below_drewN' i))
    have hx2 := fun i => conv_bytes ((h2.below hB).below (below_drewN' i))
    simp only [bs] at c0 c1'
    rw [Int.toNat_natCast] at hk2 hx2
    generalize strO (M.getD j ([], [])).1 = sk at *
    generalize strO (M.getD j ([], [])).2 = sx at *
    obtain ⟨al, al3⟩ := hin
    have al2 : ¬ (M.length : Int) ≤ (j : Int) := by omega
    have al4 : ¬ M.length ≤ j := by omega
    clear hc h1 h2 hM hbox hB hp
    go_enter Try.func35, Try.ntmps35
    go_wp2_with fail
    generalize w.alloc (.cells #[.slice A1 n1 c1, .slice A2 n2 c2] 39) = X at *
    go_quiet (fail)
    go_wp2_with fail
    go_ret
    exact ⟨rfl, below_drewN HB.out _⟩
  · rw [if_neg hin] at h1 h2
    rw [decide_eq_false hin] at hok
    subst hok
    obtain rfl := h1.empty
    obtain rfl := h2.empty
    clear h1 h2 hM hbox hB hp
    by_cases h0 : i < 0
    · clear hin
      go_enter Try.func35, Try.ntmps35
      go_wp2_with fail
      go_ret
      exact ⟨rfl, HB.out⟩
    · have al2 : (M.length : Int) ≤ i := by omega
      clear hin
      go_enter Try.func35, Try.ntmps35
      go_wp2_with fail
      go_ret
      exact ⟨rfl, HB.out⟩

end Go.Proofs.Ytlnlgahokifolaa
