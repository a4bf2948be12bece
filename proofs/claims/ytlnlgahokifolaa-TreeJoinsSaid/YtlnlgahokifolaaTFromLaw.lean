/- The law TreeFrom. -/
import Derived.Test.YtlnlgahokifolaaPSame
import Derived.Test.YtlnlgahokifolaaTMeters
set_option linter.unusedVariables false
set_option linter.unusedSimpArgs false
namespace Go.Proofs.Ytlnlgahokifolaa
open Go.RowKit

/-- What Come tells, with its list named. -/
theorem Came.parts {w w' : World} {e : Ending} {L : Pairs} {n : Nat} (h : Came w w' e L n) (hL : L.length = n) :
    ∃ A' c' M, e = .returned (.slice A' M.length c') ∧ Hid (M.length ≤ c' ∧ LIn (New w.heap.size) w' A' M.length M ∧ Asc M ∧ M.length ≤ n ∧ M = comeL L ∧ Below w.heap.size w w' ∧ ((A' = none ∧ c' = 0) ∨ ∃ g, A' = some ⟨g, 0, none⟩)) := by
  obtain ⟨A', c', f, rfl, h1, h2, h3, h4, h5⟩ := h
  exact ⟨A', c', _, rfl, Lib.hid ⟨h1, h2, dd_asc L f n hL h3, dd_len _ _, dd_come L f n hL h3, h4, h5⟩⟩

set_option maxRecDepth 100000 in
set_option maxHeartbeats 3200000 in
theorem treeFrom_any (A : Option Addr) (n c : Nat) (L : Pairs) (w : World) (h : PRaw w A n L) (hc : n ≤ c) :
    Calls Try.prog 8 #[.slice A n c] w fun e w' => e = .returned (.bool true) ∧ Below w.heap.size w w' := by
  have HO := Lib.hid h
  have HF := Lib.hid (small_any A n c L 120 w h (by omega))
  clear h
  go_enter Try.func8, Try.ntmps8
  go_wp2_with fail
  refine HF.out.mono ?_
  rintro e w1 ⟨r, rfl, hr, hb1⟩
  have HB1 := Lib.hid hb1
  clear hb1
  cases r with
  | false =>
    clear hr
    go_wp2_with fail
    refine (awake_any w1).mono ?_
    rintro e w2 ⟨rfl, hb2⟩
    have HB2 : Hid (Below w.heap.size w w2) := HB1.out.trans (hb2.mono HB1.out.size)
    clear hb2
    go_wp2_with fail
    go_ret
    exact ⟨rfl, HB2.out⟩
  | true =>
    have HFI := Lib.hid (hr rfl)
    have hn80 : n ≤ 120 := by have := (hr rfl).1; rw [HO.out.len] at this; exact this
    clear hr
    have HC := Lib.hid (Come_any L A n c w1 ((HO.out.fine HFI.out).below HB1.out) (by omega) hc)
    go_wp2_with fail
    refine HC.out.mono ?_
    rintro e w2 hcame
    obtain ⟨A2, c2, M, rfl, hM⟩ := hcame.parts HO.out.len
    have HB2 : Hid (Below w.heap.size w w2) := HB1.out.trans (hM.out.2.2.2.2.2.1.mono HB1.out.size)
    have hml : M.length ≤ 120 := by have := hM.out.2.2.2.1; omega
    clear hcame
    go_wp2_with fail
    refine (from_any M.length M A2 c2 w2 hM.out.2.1 hM.out.1 (by omega)).mono ?_
    rintro e w3 ⟨u, T, rfl, t1, t2, t3, t4⟩
    obtain ⟨u, rfl⟩ := t3.ptr
    have hsz : T.size = M.length := PT.size_of t1
    have HT : Hid (T.list = M ∧ T.even ∧ TIn (New w2.heap.size) w3 (.pointer u) T ∧ Asc T.list ∧ Below w.heap.size w w3 ∧ T.size = M.length ∧ LIn (New w1.heap.size) w3 A2 M.length M) :=
      ⟨t1, t2, t3, by rw [t1]; exact hM.out.2.2.1, HB2.out.trans (t4.mono HB2.out.size), hsz, hM.out.2.1.below t4⟩
    have hu : (u = none ∧ M.length = 0) ∨ (∃ a, u = some a) ∧ 0 < M.length := by
      cases T with
      | nil => exact .inl ⟨by cases t3; rfl, by rw [← hsz]; rfl⟩
      | node l k x r =>
        obtain ⟨b, _, _, _, _, e, _⟩ := t3
        exact .inr ⟨by cases e; exact ⟨_, rfl⟩, by rw [← hsz]; simp only [PT.size]; omega⟩
    have HU := Lib.hid hu
    have hsz1 : T.size ≤ 120 := by omega
    clear t1 t2 t3 t4 hu hsz
    go_wp2_with fail
    refine (list_any T (.pointer u) w3 HT.out.2.2.1 (by omega)).mono ?_
    rintro e w4 ⟨A4, c4, rfl, hc4, hL4, hb4⟩
    have HS := Lib.hid (same_any T.list M A4 A2 T.size M.length c4 c2 w4 hL4 (HT.out.2.2.2.2.2.2.below hb4) (by omega) (by omega))
    have H4 : Hid (Below w3.heap.size w3 w4) := hb4
    have HDE : Hid (decide (T.list = M) = true) := decide_eq_true HT.out.1
    clear hL4 hb4 hc4
    rw [HDE.out] at HS
    go_wp2_with fail
    refine HS.out.mono ?_
    rintro e w5 ⟨rfl, hb5⟩
    have H5 : Hid (Below w3.heap.size w3 w5) := H4.out.trans (hb5.mono H4.out.size)
    clear hb5
    have hsz2 : (T.size : Int) = (M.length : Int) := by have := HT.out.2.2.2.2.2.1; omega
    go_wp2_with fail
    refine (tsize_any T (.pointer u) w5 (HT.out.2.2.1.below H5.out)).mono ?_
    rintro e w6 ⟨rfl, rfl⟩
    go_wp2_with fail
    refine (sound_any T (.pointer u) w5 (HT.out.2.2.1.below H5.out) HT.out.2.1 HT.out.2.2.2.1 (by omega)).mono ?_
    rintro e w6 ⟨rfl, hb6⟩
    have H6 : Hid (Below w3.heap.size w3 w6) := H5.out.trans (hb6.mono H5.out.size)
    clear hb6
    go_wp2_with fail
    refine (height_any T (.pointer u) w6 (HT.out.2.2.1.below H6.out) (by omega)).mono ?_
    rintro e w7 ⟨rfl, hb7⟩
    have H7 : Hid (Below w3.heap.size w3 w7) := H6.out.trans (hb7.mono H6.out.size)
    clear hb7
    have hhe := T.height_le
    have HVI := Lib.hid (visits_any T.height M.length w7 (by omega) (by omega) (.inr (by
      have h1 := height_cube T HT.out.2.1
      rw [HT.out.2.2.2.2.2.1] at h1
      exact Nat.le_trans (Nat.pow_le_pow_right (by omega) (Nat.sub_le _ _)) h1)))
    clear hhe
    go_wp2_with fail
    refine HVI.out.mono ?_
    rintro e w8 ⟨rfl, rfl⟩
    rcases HU.out with ⟨hu1, hu2⟩ | ⟨⟨a, hu1⟩, hu2⟩
    · subst hu1
      have hz : (M.length : Int) = 0 := by omega
      go_wp2_with fail
      refine (awake_any w7).mono ?_
      rintro e w9 ⟨rfl, hb9⟩
      have H9 : Hid (Below w.heap.size w w9) := (HT.out.2.2.2.2.1.trans (H7.out.mono HT.out.2.2.2.2.1.size)).trans (hb9.mono (Nat.le_trans HT.out.2.2.2.2.1.size H7.out.size))
      clear hb9
      go_wp2_with fail
      go_ret
      exact ⟨rfl, H9.out⟩
    · subst hu1
      have hz : ¬ (M.length : Int) = 0 := by omega
      have hz2 : ¬ M.length = 0 := by omega
      have hz3 : ((M.length : Int) == 0) = false := beq_false_of_ne hz
      go_wp2_with fail
      refine (awake_any w7).mono ?_
      rintro e w9 ⟨rfl, hb9⟩
      have H9 : Hid (Below w.heap.size w w9) := (HT.out.2.2.2.2.1.trans (H7.out.mono HT.out.2.2.2.2.1.size)).trans (hb9.mono (Nat.le_trans HT.out.2.2.2.2.1.size H7.out.size))
      clear hb9
      go_wp2_with fail
      go_ret
      exact ⟨rfl, H9.out⟩

end Go.Proofs.Ytlnlgahokifolaa
