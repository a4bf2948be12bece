/- Contracts of the word functions that read or make bytes: Put, Get, Low, and the reference's Text, Number, Back; the lengths are bounded as each theorem says. -/
import Derived.Test.YtfffacgihgkobaaNum
import Derived.Lib.ConvBytes
import Derived.Laws.BytesArg
set_option linter.unusedVariables false
set_option linter.unusedSimpArgs false
namespace Go.Proofs.Ytfffacgihgkobaa
open Go.RowKit
attribute [local go_sem] max2_num min2_num maxOf_two minOf_two

theorem infoU8 : (Try.prog.info? 5).map (fun i => (i.zero, i.size, i.bytes)) = some (some (.int .u8 0), 1, 1) := by kernel_rfl

/-- A byte of a number: the one that so many are behind. -/
def bytev (x : Int) (m : Nat) : Int := x / 2 ^ (8 * m) % 256

/-- What Put has written when j bytes are done. -/
def putRow (x : Int) (K j : Nat) : List Value := (List.range K).map fun i => if i < j then .int .u8 (bytev x (K - 1 - i)) else .int .u8 0

theorem putRow_zero (x : Int) (K : Nat) : putRow x K 0 = List.replicate K (.int .u8 0) := by
  unfold putRow
  apply List.ext_getElem
  · simp
  · intro i h1 h2; simp

theorem putRow_at (x : Int) (K j : Nat) (h : j < K) : (putRow x K j)[j]? = some (.int .u8 0) := by
  unfold putRow
  rw [List.getElem?_map, List.getElem?_range h]
  simp

theorem putRow_set (x : Int) (K j : Nat) (h : j < K) : (putRow x K j).set j (.int .u8 (bytev x (K - 1 - j))) = putRow x K (j + 1) := by
  unfold putRow
  apply List.ext_getElem
  · simp
  · intro i h1 h2
    rw [List.getElem_set]
    simp only [List.getElem_map, List.getElem_range]
    by_cases e : j = i
    · subst e; simp
    · rw [if_neg e]
      by_cases h3 : i < j
      · rw [if_pos h3, if_pos (by omega)]
      · rw [if_neg h3, if_neg (by omega)]

set_option maxHeartbeats 800000 in
theorem put_any (x n : Int) (w : World) (K : Nat) (hK : (if 8 < (if n < 0 then 0 else n) then 8 else (if n < 0 then 0 else n)) = (K : Int)) (h8 : K ≤ 8) :
    Calls Try.prog 27 #[.int .u64 x, .int .i64 n] w fun e w' => e = .returned (.slice (some ⟨w.heap.size, 0, none⟩) K K) ∧ w'.ownsRow w.heap.size 5 1 (.slice (some ⟨w.heap.size, 0, none⟩) K K) K (putRow x K K) ∧ Below w.heap.size w w' := by
  obtain ⟨i0, hi, hz0, hz1, hz2⟩ := info_parts infoU8
  obtain ⟨n1, hn1⟩ : ∃ j : Int, (if n < 0 then 0 else n) = j := ⟨_, rfl⟩
  rw [hn1] at hK
  go_enter Try.func27, Try.ntmps27
  go_wp2_with (at_make; refine wpList_make_full _ rfl _ _ 38 rfl w.heap.size 5 i0 (.int .u8 0) 1 Try.underlying38 hi hz0 hz1 _ _ _ _ K rfl rfl ?hL ?hC ?b2 ?b3 ?b4 ?_; (case hL => rfl); (case hC => rfl); (case b2 => rw [hz2]; omega); (case b3 => unfold maxLen; omega); (case b4 => exact Nat.le_refl _); intro w1 hown hgrow)
  have hb1 : Below w.heap.size w w1 := (Below.refl _ _).grown hgrow (Nat.le_refl _) (by simp)
  have ho1 : w1.ownsRow w.heap.size 5 1 (.slice (some ⟨w.heap.size, 0, none⟩) K K) K (putRow x K 0) := by
    rw [putRow_zero, ← toList_madeCells_one]; rw [Nat.mul_one] at hown; exact hown
  clear hown hgrow hn1 hK
  go_loopw [13] (fun v wr => ∃ j : Nat, j ≤ K ∧ v = .int .i64 j ∧ wr.ownsRow w.heap.size 5 1 (.slice (some ⟨w.heap.size, 0, none⟩) K K) K (putRow x K j) ∧ Below w.heap.size w wr) (fun v _ => K - (intOf v).toNat)
  case atStart => exact ⟨0, Nat.zero_le _, rfl, ho1, hb1⟩
  case round =>
    obtain ⟨j, hj, rfl, ho, hb⟩ := hrel
    by_cases hlt : j < K
    · have hcell : wr.cell? ⟨w.heap.size, j, none⟩ = some (.int .u8 0) := by rw [ho.cellAt j (by omega)]; exact putRow_at x K j hlt
      have hfr : wr.frozen? ⟨w.heap.size, j, none⟩ = false := ho.frozenAt j
      have e1 : (8 * ((K : Int) - 1 - (j : Int))).toNat = 8 * (K - 1 - j) := by omega
      have hst := ho.stored j (.int .u8 (bytev x (K - 1 - j)))
      rw [putRow_set x K j hlt] at hst
      have HB := Lib.hid (show bytev x (K - 1 - j) = x / 2 ^ (8 * (K - 1 - j)) % 256 from rfl)
      have HS := Lib.hid hst
      have HO := Lib.hid ho
      have HBE := Lib.hid hb
      clear hst ho hb
      go_wp2
      go_roundw
      case rel => exact ⟨j + 1, by omega, by go_num, HS.out.1, HBE.out.grown HS.out.2 HBE.out.size (fun k e => by cases e; exact Nat.le_refl _)⟩
      case measure => simp [intOf]; omega
    · go_wp2
      go_ret
      obtain rfl : j = K := by omega
      exact ⟨rfl, ho, hb⟩

/-! ### Bytes that are read -/
/-- A slice of bytes, as it reads: nil, empty and other ones alike. -/
structure RdB (w : World) (A : Option Addr) (n : Nat) (l : List UInt8) : Prop where
  len : l.length = n
  le : n ≤ 9223372036854775807
  cell : 0 < n → ∃ b o, A = some ⟨b, o, none⟩ ∧ b < w.heap.size ∧ ∀ j, j < n → w.cell? ⟨b, o + j, none⟩ = some (.int .u8 ((l.getD j 0).toNat : Int))

/-- The number of bytes, the highest first. -/
def numv (l : List UInt8) : Nat := l.foldl (fun n c => n * 256 + c.toNat) 0
theorem numv_snoc (l : List UInt8) (c : UInt8) : numv (l ++ [c]) = numv l * 256 + c.toNat := by simp [numv]
theorem numv_from (l : List UInt8) : ∀ a : Nat, l.foldl (fun n c => n * 256 + c.toNat) a < (a + 1) * 256 ^ l.length := by
  induction l with
  | nil => intro a; simp
  | cons c r ih =>
    intro a
    have h1 := ih (a * 256 + c.toNat)
    have hc := c.toNat_lt
    have h2 : (a * 256 + c.toNat + 1) * 256 ^ r.length ≤ ((a + 1) * 256) * 256 ^ r.length := Nat.mul_le_mul_right _ (by omega)
    have h3 : ((a + 1) * 256) * 256 ^ r.length = (a + 1) * 256 ^ (r.length + 1) := by rw [Nat.pow_succ, Nat.mul_assoc, Nat.mul_comm 256]
    rw [List.foldl_cons, List.length_cons, ← h3]
    exact Nat.lt_of_lt_of_le h1 h2
theorem numv_lt (l : List UInt8) : numv l < 256 ^ l.length := by
  have := numv_from l 0
  simpa [numv] using this
theorem take_snoc' (l : List UInt8) (j : Nat) (h : j < l.length) : l.take (j + 1) = l.take j ++ [l.getD j 0] := by
  rw [List.take_succ_eq_append_getElem h]; simp [List.getD_eq_getElem?_getD, List.getElem?_eq_getElem h]
theorem numv_take (l : List UInt8) (j : Nat) (h : j < l.length) : numv (l.take (j + 1)) = numv (l.take j) * 256 + (l.getD j 0).toNat := by rw [take_snoc' l j h, numv_snoc]
theorem numv_take_lt (l : List UInt8) (j : Nat) (h : j ≤ 7) : numv (l.take j) < 72057594037927936 := by
  have h1 := numv_lt (l.take j)
  have h2 : (l.take j).length ≤ 7 := by rw [List.length_take]; omega
  have h3 : 256 ^ (l.take j).length ≤ 256 ^ 7 := Nat.pow_le_pow_right (by omega) h2
  have h4 : 256 ^ 7 = 72057594037927936 := by decide
  omega

set_option maxHeartbeats 800000 in
theorem get_any (A : Option Addr) (n c : Nat) (l : List UInt8) (w : World) (h : RdB w A n l) :
    Calls Try.prog 29 #[.slice A n c] w fun e w' => e = .returned (.int .u64 (numv (l.take 8) : Nat)) ∧ w = w' := by
  have hle := h.le
  have hlen := h.len
  obtain ⟨m, hm⟩ : ∃ m : Int, (if 8 < (n : Int) then 8 else (n : Int)) = m := ⟨_, rfl⟩
  have hmb : m ≤ 8 ∧ m ≤ n ∧ 0 ≤ m := by rw [← hm]; split <;> omega
  have hmb2 : m = 8 ∨ m = n := by rw [← hm]; split <;> omega
  have HC := Lib.hid h.cell
  have HL := Lib.hid hlen
  have HM := Lib.hid hmb2
  clear hlen h hmb2
  obtain ⟨hm1, hm2, hm3⟩ := hmb
  go_enter Try.func29, Try.ntmps29
  go_wp2
  go_loop [3, 8] (fun a v => ∃ j : Nat, (j : Int) ≤ m ∧ a = .int .u64 (numv (l.take j) : Nat) ∧ v = .int .i64 j) (fun _ v => (m - intOf v).toNat)
  case atStart => exact ⟨0, by omega, rfl, rfl⟩
  case round =>
    obtain ⟨j, hj, rfl, rfl⟩ := hrel
    by_cases hlt : (j : Int) < m
    · obtain ⟨b, o, hA, _, hc⟩ := HC.out (by omega)
      subst hA
      have hcj := hc j (by omega)
      have hnum := numv_take l j (by have := HL.out; omega)
      have hnl := numv_take_lt l j (by omega)
      have hd := (l.getD j 0).toNat_lt
      generalize (l.getD j 0).toNat = d at *
      generalize numv (l.take j) = a at *
      have HN := Lib.hid hnum
      clear hnum hc
      go_wp2
      go_round
      case rel => exact ⟨j + 1, by omega, by rw [HN.out]; go_num, by go_num⟩
      case measure => simp [intOf]; omega
    · go_wp2
      go_ret
      refine ⟨ret_num ?_, rfl⟩
      have e : l.take 8 = l.take j := by
        have := HL.out
        rcases HM.out with h8 | hn
        · rw [show j = 8 by omega]
        · rw [List.take_of_length_le (by omega), List.take_of_length_le (by omega)]
      rw [e]

/-- The number of bytes, the lowest first. -/
def lowv : List UInt8 → Nat
  | [] => 0
  | c :: r => c.toNat + 256 * lowv r
theorem lowv_lt (l : List UInt8) : lowv l < 256 ^ l.length := by
  induction l with
  | nil => simp [lowv]
  | cons c r ih =>
    rw [lowv, List.length_cons, Nat.pow_succ]
    have := c.toNat_lt
    omega
theorem lowv_drop (l : List UInt8) (j : Nat) (h : j < l.length) : lowv (l.drop j) = (l.getD j 0).toNat + 256 * lowv (l.drop (j + 1)) := by
  rw [List.drop_eq_getElem_cons h, lowv]; simp [List.getD_eq_getElem?_getD, List.getElem?_eq_getElem h]
theorem lowv_drop_lt (l : List UInt8) (j : Nat) (h : l.length ≤ j + 7) : lowv (l.drop j) < 72057594037927936 := by
  have h1 := lowv_lt (l.drop j)
  have h2 : (l.drop j).length ≤ 7 := by rw [List.length_drop]; omega
  have h3 : 256 ^ (l.drop j).length ≤ 256 ^ 7 := Nat.pow_le_pow_right (by omega) h2
  have h4 : 256 ^ 7 = 72057594037927936 := by decide
  omega

set_option maxHeartbeats 800000 in
theorem low_any (A : Option Addr) (n c : Nat) (l : List UInt8) (w : World) (h : RdB w A n l) :
    Calls Try.prog 31 #[.slice A n c] w fun e w' => e = .returned (.int .u64 (lowv (l.take 8) : Nat)) ∧ w = w' := by
  have hle := h.le
  have hlen := h.len
  obtain ⟨m, hm⟩ : ∃ m : Int, (if 8 < (n : Int) then 8 else (n : Int)) = m := ⟨_, rfl⟩
  have hmb : m ≤ 8 ∧ m ≤ n ∧ 0 ≤ m := by rw [← hm]; split <;> omega
  have hmb2 : m = 8 ∨ m = n := by rw [← hm]; split <;> omega
  have hml : m = (l.take 8).length := by rw [List.length_take]; omega
  have hget : ∀ j, j < (l.take 8).length → (l.take 8).getD j 0 = l.getD j 0 := by
    intro j hj
    rw [List.length_take] at hj
    simp only [List.getD_eq_getElem?_getD, List.getElem?_take]
    rw [if_pos (by omega)]
  have hl8 : (l.take 8).length ≤ 8 := by rw [List.length_take]; omega
  generalize l.take 8 = q at *
  have HC := Lib.hid h.cell
  have HQ := Lib.hid hml
  have HG := Lib.hid hget
  clear hlen h hmb2 hml hget
  obtain ⟨hm1, hm2, hm3⟩ := hmb
  go_enter Try.func31, Try.ntmps31
  go_wp2
  go_loop [3, 4] (fun a v => ∃ j : Nat, (j : Int) ≤ m ∧ a = .int .u64 (lowv (q.drop j) : Nat) ∧ v = .int .i64 ((j : Int) - 1)) (fun _ v => (intOf v + 1).toNat)
  case atStart => exact ⟨m.toNat, by omega, by rw [List.drop_of_length_le (by have := HQ.out; omega)]; rfl, by rw [show ((m.toNat : Nat) : Int) = m by omega]⟩
  case round =>
    obtain ⟨j, hj, rfl, rfl⟩ := hrel
    by_cases hlt : 0 < j
    · obtain ⟨i, rfl⟩ : ∃ i, j = i + 1 := ⟨j - 1, by omega⟩
      have ej : (((i + 1 : Nat) : Int) - 1) = (i : Int) := by omega
      rw [ej]
      obtain ⟨b, o, hA, _, hc⟩ := HC.out (by omega)
      subst hA
      have hcj := hc i (by omega)
      have hnum := lowv_drop q i (by have := HQ.out; omega)
      rw [HG.out i (by have := HQ.out; omega)] at hnum
      have hnl := lowv_drop_lt q (i + 1) (by omega)
      have hd := (l.getD i 0).toNat_lt
      generalize (l.getD i 0).toNat = d at *
      generalize lowv (q.drop (i + 1)) = a at *
      have HN := Lib.hid hnum
      have hlt' : (i : Int) < m := by omega
      clear hnum hc ej hlt hj
      go_wp2
      go_round
      case rel => exact ⟨i, by omega, by rw [HN.out]; go_num, rfl⟩
      case measure => simp [intOf]
    · obtain rfl : j = 0 := by omega
      rw [show (((0 : Nat) : Int) - 1) = -1 by omega]
      go_wp2
      go_ret
      exact ⟨rfl, rfl⟩

/-- A text's bytes. -/
abbrev strL (s : ByteArray) : List UInt8 := s.data.toList

set_option maxHeartbeats 800000 in
theorem number_any (s : ByteArray) (w : World) (h : s.size ≤ 8) :
    Calls Try.prog 30 #[.string s] w fun e w' => e = .returned (.int .u64 (numv (strL s) : Nat)) ∧ w = w' := by
  go_enter Try.func30, Try.ntmps30
  go_wp2
  go_loop [3, 4] (fun a v => ∃ j : Nat, j ≤ s.size ∧ a = .int .u64 (numv ((strL s).take j) : Nat) ∧ v = .int .i64 j) (fun _ v => (s.size - (intOf v).toNat : Nat))
  case atStart => exact ⟨0, by omega, rfl, rfl⟩
  case round =>
    obtain ⟨j, hj, rfl, rfl⟩ := hrel
    by_cases hlt : j < s.size
    · have hnum := numv_take (strL s) j (by simpa using hlt)
      have hnl := numv_take_lt (strL s) j (by omega)
      have hg : ((strL s).getD j 0).toNat = s[j].toNat := by
        simp [strL, List.getD_eq_getElem?_getD, hlt]; rfl
      rw [hg] at hnum
      have hd := s[j].toNat_lt
      generalize numv ((strL s).take j) = a at *
      have HN := Lib.hid hnum
      clear hnum hg
      go_wp2
      go_round
      case rel => exact ⟨j + 1, by omega, by rw [HN.out]; go_num, by go_num⟩
      case measure => simp [intOf]; omega
    · go_wp2
      go_ret
      exact ⟨ret_num (by rw [List.take_of_length_le (by simp; omega)]), rfl⟩

theorem ret_str {a b : ByteArray} (h : a = b) : Ending.returned (.string a) = .returned (.string b) := by rw [h]

/-- A text of bytes. -/
def strO (l : List UInt8) : ByteArray := ⟨l.toArray⟩
theorem strO_append (a b : List UInt8) : strO a ++ strO b = strO (a ++ b) := by
  apply ByteArray.ext
  simp [strO, ByteArray.data_append]
theorem strO_size (l : List UInt8) : (strO l).size = l.length := by simp [strO, ByteArray.size]

/-- A number's lowest bytes, the highest first. -/
def textv (x : Int) : Nat → List UInt8
  | 0 => []
  | k + 1 => UInt8.ofNat (x / 256 ^ k % 256).toNat :: textv x k
theorem textv_len (x : Int) (k : Nat) : (textv x k).length = k := by induction k <;> simp [textv, *]

theorem pow256_succ (x : Int) (k : Nat) : x / 256 ^ k / 256 = x / 256 ^ (k + 1) := by
  rw [Int.pow_succ, Int.ediv_ediv_of_nonneg (by have : (0 : Int) < 256 ^ k := Int.pow_pos (by omega); omega)]

set_option maxHeartbeats 800000 in
theorem text_any (x : Int) (K : Nat) (w : World) (hx : 0 ≤ x) (hx2 : x < 18446744073709551616) (h8 : K ≤ 8) :
    Calls Try.prog 28 #[.int .u64 x, .int .i64 K] w fun e w' => e = .returned (.string (strO (textv x K))) ∧ Below w.heap.size w w' := by
  go_enter Try.func28, Try.ntmps28
  go_wp2
  go_loopw [0, 5, 6] (fun a s v wr => ∃ j : Nat, j ≤ K ∧ ∃ y : Int, y = x / 256 ^ j ∧ a = .int .u64 y ∧ s = .string (strO (textv x j)) ∧ v = .int .i64 j ∧ Below w.heap.size w wr) (fun _ _ v _ => (K - (intOf v).toNat : Nat))
  case atStart => exact ⟨0, by omega, x, by simp, rfl, rfl, rfl, Below.refl _ _⟩
  case round =>
    obtain ⟨j, hj, y, hy, rfl, rfl, rfl, hb⟩ := hrel
    have hp2 : (0 : Int) < 256 ^ j := Int.pow_pos (by omega)
    have hy0 : 0 ≤ y := by rw [hy]; exact Int.ediv_nonneg hx (by omega)
    have hy1 : y < 18446744073709551616 := by rw [hy]; exact Int.lt_of_le_of_lt (Int.ediv_le_self _ hx) hx2
    have hs := strO_size (textv x j)
    rw [textv_len] at hs
    have HY := Lib.hid hy
    have HB := Lib.hid hb
    have HS := Lib.hid hs
    have hs8 : (strO (textv x j)).size ≤ 8 := by omega
    clear hy hp2 hb hs
    by_cases hlt : j < K
    · obtain ⟨S1, hS1⟩ : ∃ S : ByteArray, S = strO [UInt8.ofNat (y % 256).toNat] := ⟨_, rfl⟩
      have hconv : (convert 38 9 (.slice (some ⟨wr.heap.size, 0, none⟩) 1 1)).run Try.prog (wr.alloc (.cells #[.int .u8 (y % 256)] 5)) = .ok (.string S1) (wr.alloc (.cells #[.int .u8 (y % 256)] 5)) := by
        rw [hS1]
        exact run_convert_bytes_arg _ 38 5 Try.underlying38 Try.underlying5 _ 0 1 1 [y % 256] rfl (fun i hi => by
          obtain rfl : i = 0 := by omega
          rw [World.cell?_alloc_at _ _ _ _ rfl]; rfl) 9 Try.underlying9
      have hS1s : S1.size ≤ 1 := by rw [hS1, strO_size]; simp
      have happ : S1 ++ strO (textv x j) = strO (textv x (j + 1)) := by
        rw [hS1, strO_append, textv, ← HY.out]; rfl
      have HA := Lib.hid happ
      clear happ hS1
      go_wp2
      go_roundw
      case rel => exact ⟨j + 1, by omega, y / 256, by rw [HY.out, pow256_succ], rfl, by rw [HA.out], by go_num, HB.out.alloc HB.out.size _⟩
      case measure => simp [intOf]; omega
    · go_wp2
      go_ret
      obtain rfl : j = K := by omega
      exact ⟨rfl, HB.out⟩

set_option maxHeartbeats 800000 in
theorem back_any (s : ByteArray) (w : World) (h : s.size ≤ 8) :
    Calls Try.prog 32 #[.string s] w fun e w' => e = .returned (.string (strO (strL s).reverse)) ∧ Below w.heap.size w w' := by
  go_enter Try.func32, Try.ntmps32
  go_wp2
  go_loopw [3, 4] (fun a v wr => ∃ j : Nat, j ≤ s.size ∧ a = .string (strO ((strL s).take j).reverse) ∧ v = .int .i64 j ∧ Below w.heap.size w wr) (fun _ v _ => (s.size - (intOf v).toNat : Nat))
  case atStart => exact ⟨0, by omega, rfl, rfl, Below.refl _ _⟩
  case round =>
    obtain ⟨j, hj, rfl, rfl, hb⟩ := hrel
    have hs := strO_size ((strL s).take j).reverse
    have hs8 : (strO ((strL s).take j).reverse).size ≤ 8 := by rw [hs, List.length_reverse, List.length_take]; omega
    have HB := Lib.hid hb
    clear hs hb
    by_cases hlt : j < s.size
    · have hg : (strL s).getD j 0 = s[j] := by
        simp [strL, List.getD_eq_getElem?_getD, hlt]; rfl
      have htk := take_snoc' (strL s) j (by simpa using hlt)
      rw [hg] at htk
      clear hg
      obtain ⟨S1, hS1⟩ : ∃ S : ByteArray, S = strO [s[j]] := ⟨_, rfl⟩
      have hconv : (convert 38 9 (.slice (some ⟨wr.heap.size, 0, none⟩) 1 1)).run Try.prog (wr.alloc (.cells #[.int .u8 (s[j].toNat : Int)] 5)) = .ok (.string S1) (wr.alloc (.cells #[.int .u8 (s[j].toNat : Int)] 5)) := by
        rw [hS1]
        rw [run_convert_bytes_arg _ 38 5 Try.underlying38 Try.underlying5 _ 0 1 1 [(s[j].toNat : Int)] rfl (fun i hi => by
          obtain rfl : i = 0 := by omega
          rw [World.cell?_alloc_at _ _ _ _ rfl]; rfl) 9 Try.underlying9]
        simp [strOfNums, strO]
      have hS1s : S1.size ≤ 1 := by rw [hS1, strO_size]; simp
      have happ : S1 ++ strO ((strL s).take j).reverse = strO ((strL s).take (j + 1)).reverse := by
        rw [hS1, strO_append, htk, List.reverse_append]; rfl
      have HA := Lib.hid happ
      clear happ hS1 htk
      go_wp2
      go_roundw
      case rel => exact ⟨j + 1, by omega, by rw [HA.out], by go_num, HB.out.alloc HB.out.size _⟩
      case measure => simp [intOf]; omega
    · go_wp2
      go_ret
      exact ⟨ret_str (by rw [List.take_of_length_le (by simp; omega)]), HB.out⟩

end Go.Proofs.Ytfffacgihgkobaa
