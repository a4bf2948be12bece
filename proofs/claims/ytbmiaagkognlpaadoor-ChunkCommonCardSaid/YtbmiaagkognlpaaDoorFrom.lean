/- Contracts of the chunks' ways: Way, From, Common; each speaks of numbers of 64 bits. -/
import Derived.Test.YtbmiaagkognlpaaDoorWay
set_option linter.unusedVariables false
set_option linter.unusedSimpArgs false
namespace Go.Proofs.YtbmiaagkognlpaaDoor
open Go.RowKit

theorem info3 : (Tryd.prog.info? 3).map (fun i => (i.zero, i.size, i.bytes)) = some (some (.int .i64 0), 1, 8) := by kernel_rfl

theorem wayL_zero (h : Nat) : wayL h 0 = List.replicate 13 (.int .i64 0) := by
  rfl

theorem c12_small (j : Nat) (hj : j ≤ 12) : c12 (j : Int) = j := by unfold c12 cut3; (repeat' split) <;> omega

set_option maxHeartbeats 1600000 in
theorem way_any (h : Nat) (w : World) :
    Calls Tryd.prog 13 #[.int .u64 (h : Int)] w fun e w' => e = .returned (.slice (some ⟨w.heap.size, 0, none⟩) 13 13) ∧ w'.ownsRow w.heap.size 3 1 (.slice (some ⟨w.heap.size, 0, none⟩) 13 13) 13 (wayL h 13) ∧ Below w.heap.size w w' := by
  obtain ⟨i0, hi, hz0, hz1, hz2⟩ := info_parts info3
  go_enter Tryd.func13, Tryd.ntmps13
  go_wp2_with (at_make; refine wpList_make_full _ rfl _ _ 29 rfl w.heap.size 3 i0 (.int .i64 0) 1 Tryd.underlying29 hi hz0 hz1 _ _ _ _ 13 rfl rfl ?hL ?hC ?b2 ?b3 ?b4 ?_; (case hL => rfl); (case hC => rfl); (case b2 => rw [hz2]; omega); (case b3 => unfold maxLen; omega); (case b4 => exact Nat.le_refl _); intro w1 hown hgrow)
  have hb1 : Below w.heap.size w w1 := (Below.refl _ _).grown hgrow (Nat.le_refl _) (by simp)
  have ho1 : w1.ownsRow w.heap.size 3 1 (.slice (some ⟨w.heap.size, 0, none⟩) 13 13) 13 (wayL h 0) := by
    rw [wayL_zero, ← toList_madeCells_one]; exact hown
  clear hown hgrow
  go_loopw [8] (fun v wr => ∃ j : Nat, j ≤ 13 ∧ v = .int .i64 j ∧ wr.ownsRow w.heap.size 3 1 (.slice (some ⟨w.heap.size, 0, none⟩) 13 13) 13 (wayL h j) ∧ Below w.heap.size w wr) (fun v _ => 13 - (intOf v).toNat)
  case atStart => exact ⟨0, Nat.zero_le _, rfl, ho1, hb1⟩
  case round =>
    obtain ⟨j, hj, rfl, ho, hb⟩ := hrel
    by_cases hlt : j < 13
    · have hcell : wr.cell? ⟨w.heap.size, j, none⟩ = some (.int .i64 0) := by
        rw [ho.cellAt j (by omega), wayL_get h j j hlt]; simp
      have hfr : wr.frozen? ⟨w.heap.size, j, none⟩ = false := ho.frozenAt j
      have hst := ho.stored j (.int .i64 (atN h j : Nat))
      rw [wayL_set h j hlt] at hst
      have HS := Lib.hid hst
      have HBE := Lib.hid hb
      have HC := Lib.hid (c12_small j (by omega))
      clear hst ho hb
      go_wp2_with fail
      refine (at_any _ _ _).mono ?_
      rintro e w2 ⟨rfl, rfl⟩
      rw [HC.out]
      go_wp2_with fail
      go_roundw
      case rel => exact ⟨j + 1, by omega, by go_num, HS.out.1, HBE.out.grown HS.out.2 HBE.out.size (fun k e => by cases e; exact Nat.le_refl _)⟩
      case measure => simp [intOf]; omega
    · go_wp2
      go_ret
      obtain rfl : j = 13 := by omega
      exact ⟨rfl, ho, hb⟩

/-! ### The hash of a way -/
/-- The hash of the first chunks. -/
def valS (l : List Int) : Nat → Nat
  | 0 => 0
  | j + 1 => valS l j + (l.getD j 0).toNat * 32 ^ j

theorem valS_lt (l : List Int) : ∀ j, (∀ i, i < j → 0 ≤ l.getD i 0 ∧ l.getD i 0 < 32) → valS l j < 32 ^ j
  | 0, _ => by simp [valS]
  | j + 1, h => by
    have ih := valS_lt l j (fun i hi => h i (by omega))
    have hc := h j (by omega)
    rw [valS, Nat.pow_succ]
    have : (l.getD j 0).toNat * 32 ^ j ≤ 31 * 32 ^ j := Nat.mul_le_mul_right _ (by omega)
    omega

theorem valS_above (l : List Int) (i : Nat) : ∀ d, (∀ k, k < i + 1 + d → 0 ≤ l.getD k 0 ∧ l.getD k 0 < 32) → ∃ R, valS l (i + 1 + d) = valS l (i + 1) + 32 ^ (i + 1) * R
  | 0, _ => ⟨0, by simp⟩
  | d + 1, h => by
    obtain ⟨R, hR⟩ := valS_above l i d (fun k hk => h k (by omega))
    refine ⟨R + (l.getD (i + 1 + d) 0).toNat * 32 ^ d, ?_⟩
    rw [← Nat.add_assoc, valS, hR, Nat.mul_add, Nat.pow_add 32 (i + 1) d, Nat.add_assoc, ← Nat.mul_assoc, Nat.mul_comm (l.getD (i + 1 + d) 0).toNat (32 ^ (i + 1)), Nat.mul_assoc, Nat.mul_left_comm]

theorem valS_chunk (l : List Int) (i j : Nat) (hij : i < j) (h : ∀ k, k < j → 0 ≤ l.getD k 0 ∧ l.getD k 0 < 32) : (atN (valS l j) i : Int) = l.getD i 0 := by
  obtain ⟨d, rfl⟩ : ∃ d, j = i + 1 + d := ⟨j - i - 1, by omega⟩
  obtain ⟨R, hR⟩ := valS_above l i d h
  have hl := valS_lt l i (fun k hk => h k (by omega))
  have hc := h i (by omega)
  rw [← atN_succ, hR, valS, Nat.pow_succ]
  have e : valS l i + (l.getD i 0).toNat * 32 ^ i + 32 ^ i * 32 * R = valS l i + 32 ^ i * ((l.getD i 0).toNat + 32 * R) := by
    rw [Nat.mul_add, Nat.mul_comm (l.getD i 0).toNat, Nat.mul_assoc]; omega
  rw [e, Nat.add_mul_div_left _ _ (Nat.pow_pos (by omega)), Nat.div_eq_of_lt hl, Nat.zero_add]
  omega

/-- What is laid beside what is lower. -/
theorem or_add (h c j : Nat) (hh : h < 32 ^ j) : h ||| c * 32 ^ j = h + c * 32 ^ j := by
  have e : (32 : Nat) ^ j = 2 ^ (5 * j) := by rw [Nat.pow_mul]
  rw [e] at hh ⊢
  rw [Nat.or_comm, Nat.mul_comm, ← Nat.two_pow_add_eq_or_of_lt hh, Nat.add_comm]

theorem pow_int (c j : Nat) : (c : Int) * 2 ^ (5 * j) = ((c * 32 ^ j : Nat) : Int) := by
  have e : (32 : Nat) ^ j = 2 ^ (5 * j) := by rw [Nat.pow_mul]
  rw [e]; simp

theorem pow32_small (j : Nat) (hj : j ≤ 11) : (32 : Nat) ^ j ≤ 36028797018963968 := by
  have h : (32 : Nat) ^ j ≤ 32 ^ 11 := Nat.pow_le_pow_right (by omega) hj
  have : (32 : Nat) ^ 11 = 36028797018963968 := by decide
  omega

/-- One chunk laid on: the bits fit. -/
theorem lay_fits (h c j : Nat) (hh : h < 32 ^ j) (hj : j < 13) (hc : c < 32) (h16 : j = 12 → c < 16) :
    bits .or .u64 (h : Int) (IntKind.u64.wrap ((c : Int) * 2 ^ (5 * j))) = ((h + c * 32 ^ j : Nat) : Int) ∧ h + c * 32 ^ j < 18446744073709551616 := by
  have hb : h + c * 32 ^ j < 18446744073709551616 := by
    by_cases e : j = 12
    · subst e
      have hc2 := h16 rfl
      have h12 : (32 : Nat) ^ 12 = 1152921504606846976 := by decide
      rw [h12] at hh ⊢
      omega
    · have := pow32_small j (by omega)
      have h2 : c * 32 ^ j ≤ 31 * 32 ^ j := Nat.mul_le_mul_right _ (by omega)
      omega
  refine ⟨?_, hb⟩
  rw [pow_int, u64_wrap]
  have hn : ((c * 32 ^ j : Nat) : Int) % 18446744073709551616 = ((c * 32 ^ j : Nat) : Int) := by
    have : c * 32 ^ j < 18446744073709551616 := by omega
    generalize c * 32 ^ j = q at *
    omega
  rw [hn, ← or_add h c j hh]
  have h1 : h < 18446744073709551616 := by omega
  have h2 : c * 32 ^ j < 18446744073709551616 := by omega
  generalize c * 32 ^ j = q at *
  exact u64_or_nat h q h1 h2

/-- The last chunk may not fit: then what is laid reads as another one. -/
theorem lay_cut (h c : Nat) (hh : h < 32 ^ 12) (hc : c < 32) (h16 : 16 ≤ c) :
    ∃ g : Nat, g < 18446744073709551616 ∧ bits .or .u64 (h : Int) (IntKind.u64.wrap ((c : Int) * 2 ^ (5 * 12))) = (g : Int) ∧ atN g 12 ≠ c := by
  have h12 : (32 : Nat) ^ 12 = 1152921504606846976 := by decide
  rw [h12] at hh
  have e : IntKind.u64.wrap ((c : Int) * 2 ^ (5 * 12)) = (((c - 16) * 1152921504606846976 : Nat) : Int) := by
    rw [pow_int, h12, u64_wrap]; omega
  have h1 : h < 18446744073709551616 := by omega
  have h2 : (c - 16) * 1152921504606846976 < 18446744073709551616 := by omega
  refine ⟨h + (c - 16) * 1152921504606846976, by omega, ?_, ?_⟩
  · rw [e, u64_or_nat h _ h1 h2]
    have := or_add h (c - 16) 12 (by rw [h12]; exact hh)
    rw [h12] at this
    rw [this]
  · unfold atN
    have e60 : 2 ^ (5 * 12) = 1152921504606846976 := by decide
    rw [e60]
    omega

/-! ### Slices of ints that are read -/
/-- A slice of ints, as it reads: nil, empty and other ones alike. -/
structure RdI (w : World) (A : Option Addr) (n : Nat) (l : List Int) : Prop where
  len : l.length = n
  le : n ≤ 9223372036854775807
  cell : 0 < n → ∃ b o, A = some ⟨b, o, none⟩ ∧ b < w.heap.size ∧ ∀ j, j < n → w.cell? ⟨b, o + j, none⟩ = some (.int .i64 (l.getD j 0))

theorem RdI.below {w w1 : World} {A : Option Addr} {n : Nat} {l : List Int} (h : RdI w A n l) (hb : Below w.heap.size w w1) : RdI w1 A n l :=
  ⟨h.len, h.le, fun hn => by
    obtain ⟨b, o, e, hlt, hc⟩ := h.cell hn
    exact ⟨b, o, e, Nat.lt_of_lt_of_le hlt hb.size, fun j hj => (hb.cell hlt).trans (hc j hj)⟩⟩

/-- What the call owns reads as a slice. -/
theorem RdI.owned {w : World} {base : Nat} {v : Value} {l : List Int} {e : TypeId} (h : w.ownsRow base e 1 v l.length (l.map (Value.int .i64))) :
    ∃ A c, v = .slice A l.length c ∧ RdI w A l.length l ∧ l.length ≤ c ∧ (A = none → c = 0) := by
  rcases h.2 with ⟨rfl, hn⟩ | ⟨g, cap, cur, rfl, hb, hg, hc, hm, hs, ht⟩
  · rw [hn]; exact ⟨none, 0, rfl, ⟨hn, by omega, fun h => by omega⟩, by omega, fun _ => rfl⟩
  · refine ⟨_, cap, rfl, ⟨rfl, by unfold maxLen at hm; omega, fun hn => ⟨g, 0, rfl, (Array.getElem?_eq_some_iff.1 hg).1, fun j hj => ?_⟩⟩, hc, fun h => by cases h⟩
    rw [Nat.zero_add, h.cellAt j (by omega), List.getElem?_map, List.getElem?_eq_getElem hj, List.getD_eq_getElem?_getD, List.getElem?_eq_getElem hj]
    rfl

theorem take_snoc (l : List Int) (j : Nat) (h : j < l.length) : l.take (j + 1) = l.take j ++ [l.getD j 0] := by
  rw [List.take_succ_eq_append_getElem h]; simp [List.getD_eq_getElem?_getD, List.getElem?_eq_getElem h]

/-- Is a list one hash's way? -/
def Good (l : List Int) : Prop := l.length = 13 ∧ (∀ i, i < 13 → 0 ≤ l.getD i 0 ∧ l.getD i 0 < 32) ∧ l.getD 12 0 < 16

/-- What From tells of a list of thirteen. -/
def FromPost (l : List Int) (w : World) (e : Ending) (w' : World) : Prop :=
  ((Good l ∧ valS l 13 < 18446744073709551616 ∧ e = .returned (.tuple #[.int .u64 (valS l 13 : Nat), .int .i64 0])) ∨ (¬ Good l ∧ e = .returned (.tuple #[.int .u64 0, .int .i64 2]))) ∧ w = w'

set_option maxHeartbeats 3200000 in
/-- What From tells, when it comes to a list of thirteen. -/
theorem from_any (A : Option Addr) (c : Nat) (l : List Int) (w : World) (h : RdI w A 13 l) :
    Calls Tryd.prog 15 #[.slice A 13 c] w (FromPost l w) := by
  have HC := Lib.hid h.cell
  have HL := Lib.hid h.len
  clear h
  obtain ⟨b, o, hA, _, hcell⟩ := HC.out (by omega)
  subst hA
  have HCL := Lib.hid hcell
  clear hcell HC
  go_enter Tryd.func15, Tryd.ntmps15
  go_wp2_with fail
  go_loop [4, 12] (fun a v => ∃ j : Nat, j ≤ 13 ∧ a = .int .u64 (valS l j : Nat) ∧ v = .int .i64 j ∧ (∀ i, i < j → 0 ≤ l.getD i 0 ∧ l.getD i 0 < 32) ∧ (j = 13 → l.getD 12 0 < 16) ∧ valS l j < 18446744073709551616) (fun _ v => 13 - (intOf v).toNat)
  case atStart => exact ⟨0, by omega, rfl, rfl, fun i hi => by omega, fun h => by omega, by simp [valS]⟩
  case round =>
    obtain ⟨j, hj, rfl, rfl, hin, h16, hvb⟩ := hrel
    have HIN := Lib.hid hin
    have H16 := Lib.hid h16
    by_cases hlt : j < 13
    · have hcj := HCL.out j hlt
      have hvl := valS_lt l j hin
      have hsucc : valS l (j + 1) = valS l j + (l.getD j 0).toNat * 32 ^ j := rfl
      have hchunk := fun (h2 : ∀ k, k < j + 1 → 0 ≤ l.getD k 0 ∧ l.getD k 0 < 32) => valS_chunk l j (j + 1) (by omega) h2
      obtain ⟨d, hd⟩ : ∃ d, l.getD j 0 = d := ⟨_, rfl⟩
      rw [hd] at hcj hsucc
      have HD := Lib.hid hd
      have HCH := Lib.hid hchunk
      have HSU := Lib.hid hsucc
      have HVL := Lib.hid hvl
      clear hin h16 hd hchunk hsucc hvl
      by_cases hneg : d < 0
      · go_wp2_with fail
        go_ret2
        exact ⟨.inr ⟨fun g => by have := g.2.1 j hlt; rw [HD.out] at this; omega, rfl⟩, rfl⟩
      · by_cases hbig : 32 ≤ d
        · go_wp2_with fail
          go_ret2
          exact ⟨.inr ⟨fun g => by have := g.2.1 j hlt; rw [HD.out] at this; omega, rfl⟩, rfl⟩
        · obtain ⟨q, rfl⟩ : ∃ q : Nat, d = q := ⟨d.toNat, by omega⟩
          have hq : q < 32 := by omega
          obtain ⟨v, hv⟩ : ∃ v, valS l j = v := ⟨_, rfl⟩
          rw [hv] at hvb HVL HSU
          rw [hv]
          have HC12 := Lib.hid (c12_small j (by omega))
          by_cases h16 : j = 12 → q < 16
          · obtain ⟨hf, hfb⟩ := lay_fits v q j HVL.out hlt hq h16
            have hs : valS l (j + 1) = v + q * 32 ^ j := by rw [HSU.out, Int.toNat_natCast]
            have hin2 : ∀ k, k < j + 1 → 0 ≤ l.getD k 0 ∧ l.getD k 0 < 32 := by
              intro k hk
              by_cases e : k = j
              · subst e; rw [HD.out]; omega
              · exact HIN.out k (by omega)
            have hch := HCH.out hin2
            rw [hs, HD.out] at hch
            obtain ⟨g, hg⟩ : ∃ g, v + q * 32 ^ j = g := ⟨_, rfl⟩
            rw [hg] at hf hfb hs hch
            have HIN2 := Lib.hid hin2
            have HS := Lib.hid hs
            have HCH2 := Lib.hid hch
            have HV16 := Lib.hid h16
            clear hin2 hs hch hg hv HCH HSU h16
            go_wp2_with fail
            refine (at_any _ _ _).mono ?_
            rintro e w2 ⟨rfl, rfl⟩
            rw [HC12.out, HCH2.out]
            go_wp2_with fail
            go_round
            case rel => exact ⟨j + 1, by omega, by rw [HS.out], by go_num, HIN2.out, fun e => by
              have e2 : j = 12 := by omega
              have h3 := HV16.out e2
              have h4 := HD.out
              rw [e2] at h4
              rw [h4]; omega, by rw [HS.out]; exact hfb⟩
            case measure => simp [intOf]; omega
          · have hj12 : j = 12 := by omega
            have hq16 : 16 ≤ q := by omega
            subst hj12
            obtain ⟨g, hgb, hg, hne⟩ := lay_cut v q HVL.out hq hq16
            have hne2 : (((atN g 12 : Nat) : Int) != (q : Int)) = true := by rw [bne_iff_ne]; omega
            rw [show (2 : Int) ^ (5 * 12) = 1152921504606846976 from by decide] at hg
            clear hne hv HCH HSU h16
            obtain ⟨x, hx⟩ : ∃ x, atN g 12 = x := ⟨_, rfl⟩
            rw [hx] at hne2
            have HX := Lib.hid hx
            clear hx
            go_wp2_with fail
            refine (at_any _ _ _).mono ?_
            rintro e w2 ⟨rfl, rfl⟩
            rw [show c12 12 = 12 from by decide, HX.out]
            go_wp2_with fail
            go_ret2
            exact ⟨.inr ⟨fun g => by have h5 := g.2.2; have h6 := HD.out; rw [h6] at h5; omega, rfl⟩, rfl⟩
    · obtain rfl : j = 13 := by omega
      clear hin h16
      go_wp2_with fail
      go_ret2
      exact ⟨.inl ⟨⟨HL.out, HIN.out, H16.out trivial⟩, hvb, rfl⟩, rfl⟩

set_option maxHeartbeats 800000 in
theorem from_short (A : Option Addr) (n c : Nat) (w : World) (hn : n ≠ 13) (hm : n ≤ 9223372036854775807) :
    Calls Tryd.prog 15 #[.slice A n c] w fun e w' => e = .returned (.tuple #[.int .u64 0, .int .i64 1]) ∧ w = w' := by
  have hne : ((n : Int) != 13) = true := by rw [bne_iff_ne]; omega
  go_enter Tryd.func15, Tryd.ntmps15
  go_wp2_with fail
  go_ret2
  exact ⟨rfl, rfl⟩

theorem xor_zero {a b : Nat} (h : a ^^^ b = 0) : a = b := by
  apply Nat.eq_of_testBit_eq
  intro k
  have := congrArg (fun z => z.testBit k) h
  simpa [Nat.testBit_xor] using this

/-- At how many levels two hashes are alike. -/
def comN (a b : Nat) : Nat := if a = b then 13 else Lib.ctz 64 (a ^^^ b) / 5

set_option maxHeartbeats 800000 in
theorem common_any (a b : Nat) (w : World) (ha : a < 18446744073709551616) (hb : b < 18446744073709551616) (hT : TabOK w) :
    Calls Tryd.prog 9 #[.int .u64 (a : Int), .int .u64 (b : Int)] w fun e w' => e = .returned (.int .i64 (comN a b : Nat)) ∧ w = w' := by
  have HT := Lib.hid hT
  clear hT
  by_cases h : a = b
  · subst h
    have e : comN a a = 13 := by unfold comN; rw [if_pos rfl]
    rw [e]
    clear e
    go_enter Tryd.func9, Tryd.ntmps9
    go_wp2_with fail
    go_ret
    exact ⟨rfl, rfl⟩
  · have e : comN a b = Lib.ctz 64 (a ^^^ b) / 5 := by unfold comN; rw [if_neg h]
    have hx : bits .xor .u64 (a : Int) (b : Int) = ((a ^^^ b : Nat) : Int) := u64_xor_nat a b ha hb
    have hx0 : a ^^^ b ≠ 0 := fun h0 => h (xor_zero h0)
    have hxl : a ^^^ b < 18446744073709551616 := Nat.xor_lt_two_pow (n := 64) ha hb
    have hne : ((a : Int) == (b : Int)) = false := by rw [beq_eq_false_iff_ne]; omega
    have hk := (Lib.lowest_bit 64 (a ^^^ b) hx0 hxl).2
    have HE := Lib.hid e
    have HX0 := Lib.hid hx0
    clear e hx0 h
    generalize a ^^^ b = x at *
    have HTZ := Lib.hid (tz_any x hxl HX0.out w HT.out)
    generalize Lib.ctz 64 x = t at *
    go_enter Tryd.func9, Tryd.ntmps9
    go_wp2_with fail
    refine HTZ.out.mono ?_
    rintro e w1 ⟨rfl, rfl⟩
    go_wp2_with fail
    go_ret
    exact ⟨by rw [HE.out]; simp, rfl⟩

/-! ### The plain laws -/
theorem atN_test (h l : Nat) (k : Nat) : (atN h l).testBit k = (decide (k < 5) && h.testBit (5 * l + k)) := by
  unfold atN
  rw [show 32 = 2 ^ 5 from rfl, Nat.testBit_mod_two_pow, Nat.testBit_div_two_pow, Nat.add_comm]

theorem atN_eq (a b l : Nat) : atN a l = atN b l ↔ ∀ k, k < 5 → a.testBit (5 * l + k) = b.testBit (5 * l + k) := by
  constructor
  · intro h k hk
    have := congrArg (fun z => z.testBit k) h
    simpa [atN_test, hk] using this
  · intro h
    apply Nat.eq_of_testBit_eq
    intro k
    rw [atN_test, atN_test]
    by_cases hk : k < 5
    · simp [hk, h k hk]
    · simp [hk]

theorem ctz_spec (x : Nat) (h0 : x ≠ 0) (h : x < 18446744073709551616) : x.testBit (Lib.ctz 64 x) = true ∧ ∀ k, k < Lib.ctz 64 x → x.testBit k = false := by
  obtain ⟨m, hm, _⟩ := Lib.ctzFrom_spec 64 x (by omega) h
  have e : Lib.ctz 64 x = Lib.ctzFrom 64 x := by unfold Lib.ctz; rw [if_neg h0]
  rw [e]
  generalize Lib.ctzFrom 64 x = t at *
  subst hm
  constructor
  · rw [Nat.testBit_two_pow_mul]
    simp
  · intro k hk
    rw [Nat.testBit_two_pow_mul]
    simp; omega

/-- What Common tells is where the first chunk differs. -/
theorem com_eq (a b n : Nat) (ha : a < 18446744073709551616) (hb : b < 18446744073709551616) (hn : n ≤ 13) (h1 : ∀ i, i < n → atN a i = atN b i) (h2 : n < 13 → atN a n ≠ atN b n) :
    comN a b = n := by
  unfold comN
  by_cases e : a = b
  · rw [if_pos e]
    rcases Nat.lt_or_ge n 13 with h | h
    · exact absurd (by rw [e]) (h2 h)
    · omega
  · rw [if_neg e]
    have hx0 : a ^^^ b ≠ 0 := fun h0 => e (xor_zero h0)
    have hxl : a ^^^ b < 18446744073709551616 := Nat.xor_lt_two_pow (n := 64) ha hb
    obtain ⟨ht, hlow⟩ := ctz_spec _ hx0 hxl
    have hk := (Lib.lowest_bit 64 (a ^^^ b) hx0 hxl).2
    generalize Lib.ctz 64 (a ^^^ b) = t at *
    rw [Nat.testBit_xor] at ht
    have hd : a.testBit t ≠ b.testBit t := by
      intro h; rw [h] at ht; simp at ht
    have hlo : ∀ k, k < t → a.testBit k = b.testBit k := by
      intro k hk2
      have := hlow k hk2
      rw [Nat.testBit_xor] at this
      simpa using this
    have e5 : t = 5 * (t / 5) + t % 5 := by omega
    have hne : atN a (t / 5) ≠ atN b (t / 5) := by
      intro h
      have := (atN_eq a b (t / 5)).1 h (t % 5) (by omega)
      rw [← e5] at this
      exact hd this
    have heq : ∀ i, i < t / 5 → atN a i = atN b i := fun i hi => (atN_eq a b i).2 fun k hk2 => hlo _ (by omega)
    rcases Nat.lt_trichotomy (t / 5) n with h | h | h
    · exact absurd (h1 _ h) hne
    · exact h
    · exact absurd (heq n h) (h2 (by omega))

theorem com_comm (a b : Nat) : comN b a = comN a b := by
  unfold comN
  rw [Nat.xor_comm]
  by_cases e : a = b
  · subst e; rfl
  · rw [if_neg e, if_neg (fun h => e h.symm)]

theorem com_13 (a b : Nat) (ha : a < 18446744073709551616) (hb : b < 18446744073709551616) : comN a b = 13 ↔ a = b := by
  unfold comN
  by_cases e : a = b
  · simp [e]
  · rw [if_neg e]
    have hx0 : a ^^^ b ≠ 0 := fun h0 => e (xor_zero h0)
    have hk := (Lib.lowest_bit 64 (a ^^^ b) hx0 (Nat.xor_lt_two_pow (n := 64) ha hb)).2
    constructor
    · intro h; omega
    · intro h; exact absurd h e

set_option maxHeartbeats 800000 in
theorem awake_any (w : World) (hT : TabOK w) : Calls Tryd.prog 12 #[] w fun e w' => e = .returned (.bool true) ∧ w = w' := by
  have HT := Lib.hid hT
  clear hT
  go_enter Tryd.func12, Tryd.ntmps12
  go_wp2_with fail
  refine (at_any 1023 _ _).mono ?_
  rintro e w1 ⟨rfl, rfl⟩
  rw [show atN 1023 (c12 1) = 31 from by decide +kernel]
  go_wp2_with fail
  refine (common_any 0 32 _ (by omega) (by omega) HT.out).mono ?_
  rintro e w1 ⟨rfl, rfl⟩
  rw [show comN 0 32 = 1 from by decide +kernel]
  go_wp2_with fail
  go_ret
  exact ⟨rfl, rfl⟩

end Go.Proofs.YtbmiaagkognlpaaDoor
