/- The law TreeParts. -/
import Derived.Test.YtlnlgahokifolaaTParts
set_option linter.unusedVariables false
set_option linter.unusedSimpArgs false
namespace Go.Proofs.Ytlnlgahokifolaa
open Go.RowKit

theorem height_64 (T : PT) (h : T.even) (hn : T.size ≤ 60) : T.height ≤ 64 := by
  have h1 := height_cube T h
  rcases Nat.lt_or_ge 64 T.height with h2 | h2
  · exfalso
    have h3 : 2 ^ 18 ≤ 2 ^ T.height := Nat.pow_le_pow_right (by omega) (by omega)
    have h4 : (T.size + 1) * (T.size + 1) ≤ 61 * 61 := Nat.mul_le_mul (by omega) (by omega)
    have h5 : (T.size + 1) * (T.size + 1) * (T.size + 1) ≤ 61 * 61 * 61 := Nat.mul_le_mul h4 (by omega)
    omega
  · exact h2

set_option maxRecDepth 100000 in
set_option maxHeartbeats 3200000 in
theorem treeParts_any (A : Option Addr) (n c : Nat) (L : List (Int × Bytes × Bytes)) (w : World) (h : Ops w A n L) :
    Calls Try.prog 6 #[.slice A n c] w fun e w' => e = .returned (.bool true) ∧ Below w.heap.size w w' := by
  have HO := Lib.hid h
  have HF := Lib.hid (fine_any A n c L 60 w h (by omega))
  clear h
  go_enter Try.func6, Try.ntmps6
  go_wp2_with fail
  refine HF.out.mono ?_
  rintro e w1 ⟨r, rfl, hr, hb1⟩
  have HB1 := Lib.hid hb1
  clear hb1
  cases r with
  | false =>
    clear hr
    go_wp2_with fail
    refine (awake_any w1).mono ?_
    rintro e w2 ⟨rfl, hb2⟩
    have HB2 : Hid (Below w.heap.size w w2) := HB1.out.trans (hb2.mono HB1.out.size)
    clear hb2
    go_wp2_with fail
    go_ret
    exact ⟨rfl, HB2.out⟩
  | true =>
    have HFI := Lib.hid (hr rfl)
    have hn80 : n ≤ 60 := by have := (hr rfl).1; rw [HO.out.len] at this; exact this
    clear hr
    go_wp2_with fail
    go_loopw [3, 12] (fun t v wr => ∃ (j : Nat) (u : Option Addr) (T : PT), v = .int .i64 (j : Int) ∧ j ≤ n ∧ t = .pointer u ∧ Hid (TIn (fun _ => True) wr (.pointer u) T ∧ T.even ∧ Asc T.list ∧ T.size ≤ j ∧ Below w.heap.size w wr)) (fun _ v _ => n - (intOf v).toNat)
    case atStart => exact ⟨0, none, .nil, rfl, by omega, rfl, Lib.hid ⟨rfl, trivial, List.Pairwise.nil, Nat.le_refl _, HB1.out⟩⟩
    case round =>
      obtain ⟨j, u, T, rfl, hj, rfl, hI⟩ := hrel
      by_cases hlt : j < n
      · obtain ⟨b, o, rfl, hbl, hc⟩ := (HO.out.below hI.out.2.2.2.2).cell (by omega)
        obtain ⟨kv, xv, c0, c1, c2, hk, hx⟩ := hc j hlt
        have hmem : L.getD j (0, [], []) ∈ L := by
          have hjl : j < L.length := by rw [HO.out.len]; exact hlt
          rw [List.getD_eq_getElem?_getD, List.getElem?_eq_getElem hjl, Option.getD_some]; exact List.getElem_mem hjl
        have hfl := HFI.out.2 _ hmem
        obtain ⟨op, hop⟩ : ∃ op, (L.getD j (0, [], [])).1 = op := ⟨_, rfl⟩
        rw [hop] at c0
        have hk' := hk.fine (by omega)
        have hx' := hx.fine (by omega)
        obtain ⟨Ak, nk, ck, rfl, _⟩ := hk
        obtain ⟨Ax, nx, cx, rfl, _⟩ := hx
        have hbx : Below wr.heap.size wr (wr.alloc (.cells #[.int .i64 op, .slice Ak nk ck, .slice Ax nx cx] 29)) := (Below.refl _ _).alloc (Nat.le_refl _) _
        have hth := T.height_le
        have hst := fun op2 : Int => step_any (S := fun _ => True) none (by simp) T [] (.pointer u) (.agg #[.int .i64 op2, .slice Ak nk ck, .slice Ax nx cx]) none 0 0 0 op2 _ _ (wr.alloc (.cells #[.int .i64 op, .slice Ak nk ck, .slice Ax nx cx] 29)) (hI.out.1.below hbx) ⟨rfl, fun h => by simp at h⟩ (by simp) ⟨_, _, rfl, hk'.below hbx, hx'.below hbx⟩ (by omega) hI.out.2.1 hI.out.2.2.1 List.Pairwise.nil (by simp) (fun b e => by cases e) (by have := hI.out.2.2.2.1; omega) (by simp) (by have := hI.out.2.2.2.1; omega) (by have := hI.out.2.2.2.1; omega)
        have HST : Hid (∀ op2 : Int, Calls Try.prog 15 #[.pointer u, .slice none 0 0, .agg #[.int .i64 op2, .slice Ak nk ck, .slice Ax nx cx], .pointer none] (wr.alloc (.cells #[.int .i64 op, .slice Ak nk ck, .slice Ax nx cx] 29)) fun e W => Stepped (fun _ => True) none (wr.alloc (.cells #[.int .i64 op, .slice Ak nk ck, .slice Ax nx cx] 29)) W e T [] 0 0 op2) := hst
        have HBX := Lib.hid hbx
        have al : (0 : Int) ≤ (j : Int) := by omega
        have al3 : (j : Int) < (n : Int) := by omega
        clear hc hmem hfl hop hk' hx' hbx hst hth
        go_wp2_with fail
        refine (HST.out _).mono ?_
        rintro e w2 ⟨u', T', A', c', M', bb, vi', co', rfl, hs, _⟩
        have HN : Hid (TIn (fun _ => True) w2 (.pointer u') T' ∧ T'.even ∧ Asc T'.list ∧ T'.size ≤ j + 1 ∧ Below w.heap.size w w2) :=
          ⟨hs.tin.imp (fun _ _ _ => trivial), hs.even, hs.asc, by have := hs.ts; have := hI.out.2.2.2.1; omega, (hI.out.2.2.2.2.trans (HBX.out.mono hI.out.2.2.2.2.size)).trans (hs.met.kept.to.mono (Nat.le_trans hI.out.2.2.2.2.size HBX.out.size))⟩
        clear hs
        go_wp2_with fail
        go_roundw
        case rel => exact ⟨j + 1, u', T', by go_num, by omega, rfl, HN⟩
        case measure => simp [intOf]; omega
      · have HP := Lib.hid (parts_any T (.pointer u) 64 wr hI.out.1 hI.out.2.1 (height_64 T hI.out.2.1 (by have := hI.out.2.2.2.1; omega)) (by omega) (by have := hI.out.2.2.2.1; omega))
        go_wp2_with fail
        refine HP.out.mono ?_
        rintro e w2 ⟨rfl, hb2⟩
        have HB2 : Hid (Below w.heap.size w w2) := hI.out.2.2.2.2.trans (hb2.mono hI.out.2.2.2.2.size)
        clear hb2
        go_wp2_with fail
        refine (awake_any w2).mono ?_
        rintro e w3 ⟨rfl, hb3⟩
        have HB3 : Hid (Below w.heap.size w w3) := HB2.out.trans (hb3.mono HB2.out.size)
        clear hb3
        go_wp2_with fail
        go_ret
        exact ⟨rfl, HB3.out⟩

end Go.Proofs.Ytlnlgahokifolaa
