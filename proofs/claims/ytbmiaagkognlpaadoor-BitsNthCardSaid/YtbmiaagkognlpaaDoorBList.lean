/- The contract of the reference's list of a set, and the fixed example of the laws. -/
import Derived.Test.YtbmiaagkognlpaaDoorBSet
import Derived.Maps.AppendAt
set_option linter.unusedVariables false
set_option linter.unusedSimpArgs false
namespace Go.Proofs.YtbmiaagkognlpaaDoor
open Go.RowKit

theorem info3 : (Tryd.prog.info? 3).map (fun i => (i.zero, i.size, i.bytes)) = some (some (.int .i64 0), 1, 8) := by kernel_rfl

/-- The numbers of a set, as far as some place. -/
def listN (m : Nat) (j : Nat) : List Int := ((List.range j).filter m.testBit).map fun k : Nat => (k : Int)
theorem listN_len (m j : Nat) : (listN m j).length = cnt m.testBit j := by unfold listN; rw [List.length_map, cnt_filter]
theorem listN_succ (m j : Nat) : listN m (j + 1) = if m.testBit j then listN m j ++ [(j : Int)] else listN m j := by
  unfold listN
  rw [List.range_succ, List.filter_append, List.map_append]
  cases h : m.testBit j <;> simp [h]

theorem one_cell (x : Int) : ∀ u ∈ [Value.int .i64 x], u.oneCell' = true := by intro u hu; simp at hu; subst hu; rfl

set_option maxHeartbeats 1600000 in
theorem list_any (m : Nat) (w : World) (hm : m < 4294967296) :
    Calls Tryd.prog 16 #[.int .u32 (m : Int)] w fun e w' => ∃ v, e = .returned v ∧ w'.ownsRow w.heap.size 3 1 v (listN m 32).length ((listN m 32).map (Value.int .i64)) ∧ Below w.heap.size w w' := by
  obtain ⟨i0, hi, hz0, hz1, hz2⟩ := info_parts info3
  go_enter Tryd.func16, Tryd.ntmps16
  go_wp2_with fail
  go_loopw [0, 3, 4] (fun a v i wr => ∃ j : Nat, j ≤ 32 ∧ ∃ y : Nat, y = m / 2 ^ j ∧ a = .int .u32 (y : Int) ∧ i = .int .i64 j ∧ wr.ownsRow w.heap.size 3 1 v (listN m j).length ((listN m j).map (Value.int .i64)) ∧ Below w.heap.size w wr) (fun _ _ i _ => 32 - (intOf i).toNat)
  case atStart => exact ⟨0, by omega, m, by simp, rfl, rfl, World.ownsRow_nil _ _ _ _, Below.refl _ _⟩
  case round =>
    obtain ⟨j, hj, y, hy, rfl, rfl, hown, hb⟩ := hrel
    have hy1 : y < 4294967296 := by rw [hy]; exact Nat.lt_of_le_of_lt (Nat.div_le_self _ _) hm
    have hbit : m.testBit j = decide (y % 2 = 1) := by rw [hy, Nat.testBit_eq_decide_div_mod_eq]
    have hy2 : y / 2 = m / 2 ^ (j + 1) := by rw [hy, Nat.div_div_eq_div_mul, Nat.pow_succ]
    have hlen : (listN m j).length ≤ j := by rw [listN_len]; exact cnt_le _ _
    have hsz := hb.size
    have HY := Lib.hid hy
    have HB := Lib.hid hb
    have H2 := Lib.hid hy2
    have HT := Lib.hid hbit
    have HS := Lib.hid (listN_succ m j)
    clear hy hb hy2 hbit
    by_cases hlt : j < 32
    · by_cases ho : (y : Int) % 2 = 1
      · have hS1 : listN m (j + 1) = listN m j ++ [(j : Int)] := by rw [HS.out, HT.out, if_pos (by simp; omega)]
        have HS1 := Lib.hid hS1
        clear hS1
        go_wp2_with (at_builtin; refine wpList_append_own _ rfl _ _ 29 rfl w.heap.size 3 i0 (.int .i64 0) 1 8 Tryd.underlying29 hi hz0 hz1 hz2 rfl (by decide) _ _ _ rfl (hown.alloc _) ⟨wr.heap.size, 0, none⟩ 1 1 [.int .i64 (j : Int)] rfl rfl (cell_one_new _ _ _) (one_cell _) ?c3 ?c4 ?c5 ?_)
        case c3 => unfold maxLen; omega
        case c4 => omega
        case c5 => simp; omega
        intro v' w1 hown1 hgrow _
        have hb1 : Below w.heap.size w w1 := (HB.out.alloc hsz _).grown hgrow (by simp; omega) (fun k e => (hown.lt k e).1)
        have ho2 : w1.ownsRow w.heap.size 3 1 v' (listN m (j + 1)).length ((listN m (j + 1)).map (Value.int .i64)) := by
          rw [HS1.out, List.length_append, List.map_append]; exact hown1
        have HO2 := Lib.hid ho2
        have HB1 := Lib.hid hb1
        clear hown1 hgrow ho2 hb1 hown
        go_wp2_with fail
        go_roundw
        case rel => exact ⟨j + 1, by omega, y / 2, H2.out, by simp, by go_num, HO2.out, HB1.out⟩
        case measure => simp [intOf]; omega
      · have hS1 : listN m (j + 1) = listN m j := by rw [HS.out, HT.out, if_neg (by simp; omega)]
        have HS1 := Lib.hid hS1
        have HO := Lib.hid hown
        clear hS1 hown
        go_wp2_with fail
        go_roundw
        case rel => exact ⟨j + 1, by omega, y / 2, H2.out, by simp, by go_num, by rw [HS1.out]; exact HO.out, HB.out⟩
        case measure => simp [intOf]; omega
    · obtain rfl : j = 32 := by omega
      have HO := Lib.hid hown
      clear hown
      go_wp2_with fail
      go_ret
      exact ⟨_, rfl, HO.out, HB.out⟩

/-! ### The plain laws -/
theorem bitN_test (i : Int) (k : Nat) : (bitN i).testBit k = decide (i = (k : Int) ∧ k < 32) := by
  unfold bitN
  split
  · rename_i h
    rw [Nat.zero_testBit]; symm; simp; omega
  · rename_i h
    rw [Nat.testBit_two_pow]
    rw [Bool.eq_iff_iff]; simp; omega

theorem ofN_test (l : List Int) (k : Nat) : (ofN l).testBit k = decide ((k : Int) ∈ l ∧ k < 32) := by
  have gen : ∀ (l : List Int) (m : Nat), (l.foldl (fun m i => m ||| bitN i) m).testBit k = (m.testBit k || decide ((k : Int) ∈ l ∧ k < 32)) := by
    intro l
    induction l with
    | nil => intro m; simp
    | cons i r ih =>
      intro m
      rw [List.foldl_cons, ih, Nat.testBit_or, bitN_test]
      rw [Bool.eq_iff_iff]
      simp only [Bool.or_eq_true, decide_eq_true_eq, List.mem_cons]
      constructor
      · rintro ((h | h) | h)
        · exact .inl h
        · exact .inr ⟨.inl h.1.symm, h.2⟩
        · exact .inr ⟨.inr h.1, h.2⟩
      · rintro (h | ⟨h | h, h2⟩)
        · exact .inl (.inl h)
        · exact .inl (.inr ⟨h.symm, h2⟩)
        · exact .inr ⟨h, h2⟩
  have := gen l 0
  simpa [ofN] using this

theorem numG_test (l : List Int) : ∀ d, d ≤ 32 → ∀ k, (numG l d).testBit k = decide (k < d ∧ (32 - (d : Int) + k) ∈ l)
  | 0, _, k => by simp [numG]
  | d + 1, hd, k => by
    have ih := numG_test l d (by omega)
    cases k with
    | zero =>
      rw [Nat.testBit_zero, numG, Bool.eq_iff_iff]
      simp only [decide_eq_true_eq]
      rw [show (32 - ((d + 1 : Nat) : Int) + ((0 : Nat) : Int)) = 31 - (d : Int) by omega]
      split
      · rename_i h; constructor
        · intro _; exact ⟨by omega, h⟩
        · intro _; omega
      · rename_i h; constructor
        · intro _; omega
        · intro h2; exact absurd h2.2 h
    | succ k =>
      rw [Nat.testBit_succ, numG]
      have e : (2 * numG l d + if (31 - (d : Int)) ∈ l then 1 else 0) / 2 = numG l d := by split <;> omega
      rw [e, ih, Bool.eq_iff_iff]
      simp only [decide_eq_true_eq]
      rw [show (32 - ((d + 1 : Nat) : Int) + ((k + 1 : Nat) : Int)) = 32 - (d : Int) + k by omega]
      constructor
      · intro h; exact ⟨by omega, h.2⟩
      · intro h; exact ⟨by omega, h.2⟩

theorem num_test (l : List Int) (k : Nat) : (numG l 32).testBit k = decide ((k : Int) ∈ l ∧ k < 32) := by
  rw [numG_test l 32 (by omega), Bool.eq_iff_iff]
  simp only [decide_eq_true_eq]
  rw [show (32 - ((32 : Nat) : Int) + (k : Int)) = k by omega]
  exact And.comm

/-- The set of any numbers is what the reference says. -/
theorem of_eq (l : List Int) : ofN l = numG l 32 := Nat.eq_of_testBit_eq fun k => by rw [ofN_test, num_test]

theorem mem_listN (m : Nat) (j : Nat) (x : Int) : x ∈ listN m j ↔ ∃ k : Nat, k < j ∧ m.testBit k = true ∧ x = k := by
  unfold listN
  simp only [List.mem_map, List.mem_filter, List.mem_range]
  constructor
  · rintro ⟨k, ⟨h1, h2⟩, h3⟩; exact ⟨k, h1, h2, h3.symm⟩
  · rintro ⟨k, h1, h2, h3⟩; exact ⟨k, ⟨h1, h2⟩, h3.symm⟩

theorem test_big {m k : Nat} (hm : m < 4294967296) (hk : 32 ≤ k) : m.testBit k = false := by
  have h : (2 : Nat) ^ 32 ≤ 2 ^ k := Nat.pow_le_pow_right (by omega) hk
  exact Nat.testBit_lt_two_pow (by omega)

theorem has_eq (m : Nat) (i : Int) (hm : m < 4294967296) : (m &&& bitN i != 0) = decide (i ∈ listN m 32) := by
  rw [Bool.eq_iff_iff]
  simp only [bne_iff_ne, ne_eq, decide_eq_true_eq, mem_listN]
  constructor
  · intro h
    obtain ⟨k, hk⟩ := Nat.exists_testBit_of_ne_zero h
    rw [Nat.testBit_and, bitN_test] at hk
    simp only [Bool.and_eq_true, decide_eq_true_eq] at hk
    exact ⟨k, hk.2.2, hk.1, hk.2.1⟩
  · rintro ⟨k, h1, h2, rfl⟩ h
    have := congrArg (fun z => z.testBit k) h
    simp only [Nat.testBit_and, bitN_test, Nat.zero_testBit] at this
    rw [h2] at this
    simp at this; omega

theorem less_eq (m : Nat) (i : Int) (hm : m < 4294967296) : cnt (m % 2 ^ c32 i).testBit 32 = lessN (listN m 32) i := by
  unfold lessN listN
  rw [List.filter_map, List.length_map, List.filter_filter, cnt_filter]
  apply cnt_congr
  intro k hk
  rw [Nat.testBit_mod_two_pow]
  have : (k < c32 i) ↔ ((k : Int) < i) := by unfold c32; (repeat' split) <;> omega
  rw [Bool.eq_iff_iff]
  simp [this]

theorem with_eq (m : Nat) (i : Int) (hm : m < 4294967296) : m ||| bitN i = numG (listN m 32 ++ [i]) 32 := by
  apply Nat.eq_of_testBit_eq
  intro k
  rw [Nat.testBit_or, bitN_test, num_test, Bool.eq_iff_iff]
  simp only [Bool.or_eq_true, decide_eq_true_eq, List.mem_append, List.mem_singleton, mem_listN]
  constructor
  · rintro (h | h)
    · have hk : k < 32 := by
        rcases Nat.lt_or_ge k 32 with h2 | h2
        · exact h2
        · rw [test_big hm h2] at h; exact absurd h (by simp)
      exact ⟨.inl ⟨k, hk, h, rfl⟩, hk⟩
    · exact ⟨.inr h.1.symm, h.2⟩
  · rintro ⟨⟨q, h1, h2, h3⟩ | h, hk⟩
    · have : k = q := by omega
      subst this; exact .inl h2
    · exact .inr ⟨h.symm, hk⟩

theorem without_eq (m : Nat) (i : Int) (hm : m < 4294967296) : m &&& (4294967295 - bitN i) = numG ((listN m 32).filter (· ≠ i)) 32 := by
  apply Nat.eq_of_testBit_eq
  intro k
  have e : 4294967295 - bitN i = 2 ^ 32 - (bitN i + 1) := by omega
  rw [Nat.testBit_and, e, Nat.testBit_two_pow_sub_succ (by have := bitN_lt i; omega), bitN_test, num_test, Bool.eq_iff_iff]
  simp only [Bool.and_eq_true, Bool.not_eq_true', decide_eq_true_eq, decide_eq_false_iff_not, List.mem_filter, mem_listN]
  constructor
  · rintro ⟨h1, h2, h3⟩
    exact ⟨⟨⟨k, h2, h1, rfl⟩, fun h => h3 ⟨h.symm, h2⟩⟩, h2⟩
  · rintro ⟨⟨⟨q, h1, h2, h3⟩, h4⟩, hk⟩
    have : k = q := by omega
    subst this
    exact ⟨h2, hk, fun h => h4 h.1.symm⟩

end Go.Proofs.YtbmiaagkognlpaaDoor
