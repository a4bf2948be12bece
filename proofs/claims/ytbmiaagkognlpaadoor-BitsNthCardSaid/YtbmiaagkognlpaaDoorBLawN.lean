/- Walk of the law BitsNth: it returns true, where the library's table lies as the program lays it. -/
import Derived.Test.YtbmiaagkognlpaaDoorBNth
set_option linter.unusedVariables false
set_option linter.unusedSimpArgs false
namespace Go.Proofs.YtbmiaagkognlpaaDoor
open Go.RowKit

/-- The number that so many are less than is one of the set's, and so many are less. -/
theorem listN_at (m : Nat) : ∀ (j k : Nat), k < (listN m j).length → ∃ i : Nat, (listN m j).getD k 0 = (i : Int) ∧ i < j ∧ cnt m.testBit i = k
  | 0, k, h => by simp [listN] at h
  | j + 1, k, h => by
    rw [listN_succ] at h ⊢
    by_cases hb : m.testBit j = true
    · rw [if_pos hb] at h ⊢
      by_cases hk : k < (listN m j).length
      · obtain ⟨i, h1, h2, h3⟩ := listN_at m j k hk
        refine ⟨i, ?_, by omega, h3⟩
        rw [List.getD_eq_getElem?_getD, List.getElem?_append_left hk, ← List.getD_eq_getElem?_getD]; exact h1
      · have hkl : k = (listN m j).length := by simp at h; omega
        refine ⟨j, ?_, by omega, ?_⟩
        · rw [hkl]; simp [List.getD_eq_getElem?_getD]
        · rw [hkl, listN_len]
    · rw [if_neg hb] at h ⊢
      obtain ⟨i, h1, h2, h3⟩ := listN_at m j k h
      exact ⟨i, h1, by omega, h3⟩

theorem cnt_mod (m i : Nat) (hi : i ≤ 32) : cnt (m % 2 ^ i).testBit 32 = cnt m.testBit i := by
  obtain ⟨d, hd⟩ : ∃ d, 32 = i + d := ⟨32 - i, by omega⟩
  rw [hd, cnt_add]
  have h0 : cnt (fun k => (m % 2 ^ i).testBit (i + k)) d = 0 := by
    have e : ∀ n, cnt (fun _ => false) n = 0 := by
      intro n; induction n with
      | zero => rfl
      | succ n ih => rw [cnt, ih]; rfl
    rw [← e d]
    refine cnt_congr d fun k hk => ?_
    rw [Nat.testBit_mod_two_pow]; simp; omega
  rw [h0, Nat.add_zero]
  refine cnt_congr i fun k hk => ?_
  rw [Nat.testBit_mod_two_pow]; simp [hk]

theorem place_at (m k : Nat) (h : k < (listN m 32).length) : cnt (m % 2 ^ c32 ((listN m 32).getD k 0)).testBit 32 = k := by
  obtain ⟨i, h1, h2, h3⟩ := listN_at m 32 k h
  have e : c32 ((listN m 32).getD k 0) = i := by rw [h1]; unfold c32; (repeat' split) <;> omega
  rw [e, cnt_mod m i (by omega), h3]

set_option maxHeartbeats 1600000 in
theorem bitsNth_any (m : Nat) (k : Int) (w : World) (hm : m < 4294967296) (hk : -9223372036854775808 ≤ k ∧ k < 9223372036854775808) (hT : TabOK w) :
    Calls Tryd.prog 8 #[.int .u32 (m : Int), .int .i64 k] w fun e w' => e = .returned (.bool true) ∧ Below w.heap.size w w' := by
  have HT := Lib.hid hT
  have HK := Lib.hid hk
  have HPL := Lib.hid (place_at m)
  clear hT hk
  go_enter Tryd.func8, Tryd.ntmps8
  go_wp2_with fail
  refine (list_any m _ hm).mono ?_
  rintro e w1 ⟨v, rfl, hown, hb1⟩
  obtain ⟨A, c, rfl, hR, _, _⟩ := RdI.owned hown
  have HR := Lib.hid hR
  have HB1 := Lib.hid hb1
  have HT1 := Lib.hid (HT.out.below HT.out.1 (Nat.le_refl _) hb1)
  have hll : (listN m 32).length ≤ 32 := by rw [listN_len]; exact cnt_le _ _
  clear hown hR hb1
  generalize hl : listN m 32 = l at *
  have HL := Lib.hid hl
  clear hl
  go_wp2_with fail
  refine (nth_any m k _ hm HK.out HT1.out).mono ?_
  rw [HL.out]
  rintro e w2 ⟨⟨j, rfl, hj, rfl⟩ | ⟨hno, rfl⟩, hb2⟩
  · have HB2 := Lib.hid (below_step HB1.out hb2)
    have HT2 := Lib.hid (HT1.out.below HT1.out.1 (Nat.le_refl _) hb2)
    have hR2 := HR.out.below hb2
    obtain ⟨b, o, rfl, _, hcell⟩ := hR2.cell (by omega)
    have hcj := hcell j hj
    have HPJ := Lib.hid (HPL.out j hj)
    obtain ⟨d, hd⟩ : ∃ d, l.getD j 0 = d := ⟨_, rfl⟩
    rw [hd] at hcj HPJ
    rw [hd]
    clear hcell hR2 hb2 hd
    have hj1 : ((l.length : Nat) : Int) > (j : Int) := by omega
    have hj2 : ¬ ((l.length : Nat) : Int) ≤ (j : Int) := by omega
    go_wp2_with fail
    refine (place_any m d _ hm).mono ?_
    rintro e w3 ⟨rfl, rfl⟩
    rw [HPJ.out]
    go_wp2_with fail
    refine (awake_any _).mono ?_
    rintro e w4 ⟨rfl, hb4⟩
    have HB4 := Lib.hid (below_step HB2.out hb4)
    clear hb4
    go_wp2_with fail
    go_ret
    exact ⟨rfl, HB4.out⟩
  · have HB2 := Lib.hid (below_step HB1.out hb2)
    have HT2 := Lib.hid (HT1.out.below HT1.out.1 (Nat.le_refl _) hb2)
    clear hb2
    by_cases hneg : k < 0
    · go_wp2_with fail
      refine (awake_any _).mono ?_
      rintro e w4 ⟨rfl, hb4⟩
      have HB4 := Lib.hid (below_step HB2.out hb4)
      clear hb4
      go_wp2_with fail
      go_ret
      exact ⟨rfl, HB4.out⟩
    · have hge : (l.length : Int) ≤ k := hno.resolve_left hneg
      clear hno
      go_wp2_with fail
      refine (awake_any _).mono ?_
      rintro e w4 ⟨rfl, hb4⟩
      have HB4 := Lib.hid (below_step HB2.out hb4)
      clear hb4
      go_wp2_with fail
      go_ret
      exact ⟨rfl, HB4.out⟩

end Go.Proofs.YtbmiaagkognlpaaDoor
