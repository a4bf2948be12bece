/- Contracts of the sets' functions and of the reference's, which read slices of ints; each speaks of sets of 32 bits. -/
import Derived.Test.YtbmiaagkognlpaaDoorBBit
set_option linter.unusedVariables false
set_option linter.unusedSimpArgs false
namespace Go.Proofs.YtbmiaagkognlpaaDoor
open Go.RowKit

theorem max2_num (k k' : IntKind) (x y : Int) : Builtin.max2 (.int k x) (.int k' y) = pure (.int k (if x < y then y else x)) := by simp only [Builtin.max2, gt_iff_lt]
theorem min2_num (k k' : IntKind) (x y : Int) : Builtin.min2 (.int k x) (.int k' y) = pure (.int k (if y < x then y else x)) := by simp only [Builtin.min2]
theorem maxOf_two (ats : Array TypeId) (ty : TypeId) (a b : Value) : Builtin.max_ ats ty #[a, b] = (Builtin.max2 a b >>= fun s => pure s) := by simp only [Builtin.max_, List.foldlM_cons, List.foldlM_nil]
theorem minOf_two (ats : Array TypeId) (ty : TypeId) (a b : Value) : Builtin.min_ ats ty #[a, b] = (Builtin.min2 a b >>= fun s => pure s) := by simp only [Builtin.min_, List.foldlM_cons, List.foldlM_nil]
attribute [local go_sem] max2_num min2_num maxOf_two minOf_two

theorem ret_bool {a b : Bool} (h : a = b) : Ending.returned (.bool a) = .returned (.bool b) := by rw [h]

/-- The set of one number, or of none. -/
def bitN (i : Int) : Nat := if i < 0 ∨ 32 ≤ i then 0 else 2 ^ i.toNat
theorem bitN_lt (i : Int) : bitN i < 4294967296 := by
  unfold bitN
  split
  · omega
  · have : 2 ^ i.toNat ≤ 2 ^ 31 := Nat.pow_le_pow_right (by omega) (by omega)
    omega

theorem bit_any (i : Int) (w : World) : Calls Tryd.prog 30 #[.int .i64 i] w fun e w' => e = .returned (.int .u32 (bitN i : Nat)) ∧ w = w' := by
  by_cases h0 : i < 0
  · have e : bitN i = 0 := by unfold bitN; rw [if_pos (Or.inl h0)]
    rw [e]
    clear e
    go_enter Tryd.func30, Tryd.ntmps30
    go_wp2_with fail
    go_ret
    exact ⟨rfl, rfl⟩
  · by_cases h1 : 32 ≤ i
    · have e : bitN i = 0 := by unfold bitN; rw [if_pos (Or.inr h1)]
      rw [e]
      clear e
      go_enter Tryd.func30, Tryd.ntmps30
      go_wp2_with fail
      go_ret
      exact ⟨rfl, rfl⟩
    · have e : bitN i = 2 ^ i.toNat := by unfold bitN; rw [if_neg (by omega)]
      have hl := bitN_lt i
      rw [e] at hl
      obtain ⟨j, rfl⟩ : ∃ j : Nat, i = j := ⟨i.toNat, by omega⟩
      rw [Int.toNat_natCast] at e hl
      have hw : (2 : Int) ^ j % 4294967296 = ((2 ^ j : Nat) : Int) := by
        have : ((2 ^ j : Nat) : Int) = 2 ^ j := by simp
        omega
      have HE := Lib.hid e
      have HW := Lib.hid hw
      clear e hw hl
      go_enter Tryd.func30, Tryd.ntmps30
      go_wp2_with fail
      go_ret
      exact ⟨ret_num (by rw [HE.out, HW.out]), rfl⟩

theorem with_any (m : Nat) (i : Int) (w : World) (hm : m < 4294967296) :
    Calls Tryd.prog 28 #[.int .u32 (m : Int), .int .i64 i] w fun e w' => e = .returned (.int .u32 ((m ||| bitN i : Nat) : Int)) ∧ w = w' := by
  have ho : bits .or .u32 (m : Int) (bitN i : Nat) = ((m ||| bitN i : Nat) : Int) := by
    have := u32_or (m : Int) (bitN i : Nat) (by omega) (by omega) (by omega) (by have := bitN_lt i; omega)
    simpa using this
  have HO := Lib.hid ho
  clear ho
  go_enter Tryd.func28, Tryd.ntmps28
  go_wp2_with fail
  refine (bit_any _ _).mono ?_
  rintro e w1 ⟨rfl, rfl⟩
  go_wp2
  go_ret
  exact ⟨ret_num HO.out, rfl⟩

theorem count_any (m : Nat) (w : World) (hm : m < 4294967296) :
    Calls Tryd.prog 26 #[.int .u32 (m : Int)] w fun e w' => e = .returned (.int .i64 (cnt m.testBit 32 : Nat)) ∧ Below w.heap.size w w' := by
  go_enter Tryd.func26, Tryd.ntmps26
  go_wp2_with fail
  refine (ones32_any _ _ hm).mono ?_
  rintro e w1 ⟨rfl, hb⟩
  have HB := Lib.hid hb
  clear hb
  go_wp2
  go_ret
  exact ⟨rfl, HB.out⟩

/-- Where a number stands among the 32. -/
def c32 (i : Int) : Nat := (if i < 0 then 0 else if 32 < i then 32 else i).toNat

set_option maxHeartbeats 800000 in
theorem place_any (m : Nat) (i : Int) (w : World) (hm : m < 4294967296) :
    Calls Tryd.prog 20 #[.int .u32 (m : Int), .int .i64 i] w fun e w' => e = .returned (.int .i64 (cnt (m % 2 ^ c32 i).testBit 32 : Nat)) ∧ w = w' := by
  obtain ⟨i1, hi1⟩ : ∃ j : Int, (if i < 0 then 0 else i) = j := ⟨_, rfl⟩
  have hi2 : (if 32 < i1 then 32 else i1) = (c32 i : Int) := by
    rw [← hi1]; unfold c32; (repeat' split) <;> omega
  have hc : c32 i ≤ 32 := by unfold c32; (repeat' split) <;> omega
  generalize c32 i = c at *
  have hp : 0 < 2 ^ c := Nat.two_pow_pos c
  have hp2 : 2 ^ c ≤ 2 ^ 32 := Nat.pow_le_pow_right (by omega) hc
  have hw : IntKind.u64.wrap (2 ^ c) = ((2 ^ c : Nat) : Int) := by
    have : ((2 ^ c : Nat) : Int) = 2 ^ c := by simp
    rw [← this]; exact u64_small (by omega) (by omega)
  have ha : bits .and .u64 (m : Int) (((2 ^ c : Nat) : Int) - 1) = ((m % 2 ^ c : Nat) : Int) := by
    rw [show ((2 ^ c : Nat) : Int) - 1 = ((2 ^ c - 1 : Nat) : Int) by omega, and64 m (2 ^ c - 1) (by omega) (by omega), Nat.and_two_pow_sub_one_eq_mod]
  have hlt : m % 2 ^ c < 4294967296 := Nat.lt_of_le_of_lt (Nat.mod_le _ _) hm
  generalize 2 ^ c = P at hw ha hlt hp hp2
  go_enter Tryd.func20, Tryd.ntmps20
  go_wp2_with fail
  refine (ones64_any _ _ hlt).mono ?_
  rintro e w1 ⟨rfl, rfl⟩
  go_wp2
  go_ret
  exact ⟨rfl, rfl⟩

/-! ### Slices of ints that are read -/
/-- A slice of ints, as it reads: nil, empty and other ones alike. -/
structure RdI (w : World) (A : Option Addr) (n : Nat) (l : List Int) : Prop where
  len : l.length = n
  le : n ≤ 9223372036854775807
  cell : 0 < n → ∃ b o, A = some ⟨b, o, none⟩ ∧ b < w.heap.size ∧ ∀ j, j < n → w.cell? ⟨b, o + j, none⟩ = some (.int .i64 (l.getD j 0))

theorem RdI.below {w w1 : World} {A : Option Addr} {n : Nat} {l : List Int} (h : RdI w A n l) (hb : Below w.heap.size w w1) : RdI w1 A n l :=
  ⟨h.len, h.le, fun hn => by
    obtain ⟨b, o, e, hlt, hc⟩ := h.cell hn
    exact ⟨b, o, e, Nat.lt_of_lt_of_le hlt hb.size, fun j hj => (hb.cell hlt).trans (hc j hj)⟩⟩

/-- What the call owns reads as a slice. -/
theorem RdI.owned {w : World} {base : Nat} {v : Value} {l : List Int} {e : TypeId} (h : w.ownsRow base e 1 v l.length (l.map (Value.int .i64))) :
    ∃ A c, v = .slice A l.length c ∧ RdI w A l.length l ∧ l.length ≤ c ∧ (A = none → c = 0) := by
  rcases h.2 with ⟨rfl, hn⟩ | ⟨g, cap, cur, rfl, hb, hg, hc, hm, hs, ht⟩
  · rw [hn]; exact ⟨none, 0, rfl, ⟨hn, by omega, fun h => by omega⟩, by omega, fun _ => rfl⟩
  · refine ⟨_, cap, rfl, ⟨rfl, by unfold maxLen at hm; omega, fun hn => ⟨g, 0, rfl, (Array.getElem?_eq_some_iff.1 hg).1, fun j hj => ?_⟩⟩, hc, fun h => by cases h⟩
    rw [Nat.zero_add, h.cellAt j (by omega), List.getElem?_map, List.getElem?_eq_getElem hj, List.getD_eq_getElem?_getD, List.getElem?_eq_getElem hj]
    rfl

theorem take_snoc (l : List Int) (j : Nat) (h : j < l.length) : l.take (j + 1) = l.take j ++ [l.getD j 0] := by
  rw [List.take_succ_eq_append_getElem h]; simp [List.getD_eq_getElem?_getD, List.getElem?_eq_getElem h]

/-- The set of some numbers. -/
def ofN (l : List Int) : Nat := l.foldl (fun m i => m ||| bitN i) 0
theorem ofN_snoc (l : List Int) (i : Int) : ofN (l ++ [i]) = ofN l ||| bitN i := by simp [ofN]
theorem ofN_lt (l : List Int) : ofN l < 4294967296 := by
  have gen : ∀ (l : List Int) (m : Nat), m < 2 ^ 32 → l.foldl (fun m i => m ||| bitN i) m < 2 ^ 32 := by
    intro l
    induction l with
    | nil => intro m hm; exact hm
    | cons i r ih => intro m hm; exact ih _ (Nat.or_lt_two_pow hm (bitN_lt i))
  exact gen l 0 (by omega)

set_option maxHeartbeats 800000 in
theorem of_any (A : Option Addr) (n c : Nat) (l : List Int) (w : World) (h : RdI w A n l) :
    Calls Tryd.prog 25 #[.slice A n c] w fun e w' => e = .returned (.int .u32 (ofN l : Nat)) ∧ w = w' := by
  have hle := h.le
  have HC := Lib.hid h.cell
  have HL := Lib.hid h.len
  clear h
  go_enter Tryd.func25, Tryd.ntmps25
  go_wp2
  go_loop [3, 8] (fun a v => ∃ j : Nat, j ≤ n ∧ a = .int .u32 (ofN (l.take j) : Nat) ∧ v = .int .i64 j) (fun _ v => n - (intOf v).toNat)
  case atStart => exact ⟨0, by omega, rfl, rfl⟩
  case round =>
    obtain ⟨j, hj, rfl, rfl⟩ := hrel
    by_cases hlt : j < n
    · obtain ⟨b, o, hA, _, hc⟩ := HC.out (by omega)
      subst hA
      have hcj := hc j hlt
      have hnum := ofN_snoc (l.take j) (l.getD j 0)
      rw [← take_snoc l j (by have := HL.out; omega)] at hnum
      have hm := ofN_lt (l.take j)
      generalize l.getD j 0 = d at *
      generalize ofN (l.take j) = m at *
      have HN := Lib.hid hnum
      clear hnum hc
      go_wp2_with fail
      refine (with_any _ _ _ hm).mono ?_
      rintro e w1 ⟨rfl, rfl⟩
      rw [← HN.out]
      go_wp2_with fail
      go_round
      case rel => exact ⟨j + 1, by omega, rfl, by go_num⟩
      case measure => simp [intOf]; omega
    · go_wp2
      go_ret
      exact ⟨ret_num (by rw [List.take_of_length_le (by have := HL.out; omega)]), rfl⟩

/-- How many of some are less than a number. -/
def lessN (l : List Int) (x : Int) : Nat := (l.filter (· < x)).length
theorem lessN_snoc (l : List Int) (d x : Int) : lessN (l ++ [d]) x = lessN l x + if d < x then 1 else 0 := by
  unfold lessN
  rw [List.filter_append]
  by_cases h : d < x <;> simp [h]
theorem lessN_le (l : List Int) (x : Int) : lessN l x ≤ l.length := List.length_filter_le _ _

/-- A set's number, its lowest bits left out: of the numbers from 32 - d on. -/
def numG (l : List Int) : Nat → Nat
  | 0 => 0
  | d + 1 => 2 * numG l d + if ((31 - (d : Int)) ∈ l) then 1 else 0
theorem numG_lt (l : List Int) : ∀ d, numG l d < 2 ^ d
  | 0 => by simp [numG]
  | d + 1 => by
    rw [numG, Nat.pow_succ]
    have := numG_lt l d
    split <;> omega

end Go.Proofs.YtbmiaagkognlpaaDoor
