/- Contracts of the word functions that read or make bytes: Put, Get, Low, and the reference's Text, Number, Back; the lengths are bounded as each theorem says. -/
import Derived.Test.YtocideolihbnaaaDoorSNum
import Derived.Lib.ConvBytes
import Derived.Laws.BytesArg
set_option linter.unusedVariables false
set_option linter.unusedSimpArgs false
namespace Go.Proofs.YtocideolihbnaaaDoor
open Go.RowKit
attribute [local go_sem] max2_num min2_num maxOf_two minOf_two

theorem infoU8 : (Tryd.prog.info? 5).map (fun i => (i.zero, i.size, i.bytes)) = some (some (.int .u8 0), 1, 1) := by kernel_rfl

/-- A byte of a number: the one that so many are behind. -/
def bytev (x : Int) (m : Nat) : Int := x / 2 ^ (8 * m) % 256

/-- What Put has written when j bytes are done. -/
def putRow (x : Int) (K j : Nat) : List Value := (List.range K).map fun i => if i < j then .int .u8 (bytev x (K - 1 - i)) else .int .u8 0

theorem putRow_zero (x : Int) (K : Nat) : putRow x K 0 = List.replicate K (.int .u8 0) := by
  unfold putRow
  apply List.ext_getElem
  · simp
  · intro i h1 h2; simp

theorem putRow_at (x : Int) (K j : Nat) (h : j < K) : (putRow x K j)[j]? = some (.int .u8 0) := by
  unfold putRow
  rw [List.getElem?_map, List.getElem?_range h]
  simp

theorem putRow_set (x : Int) (K j : Nat) (h : j < K) : (putRow x K j).set j (.int .u8 (bytev x (K - 1 - j))) = putRow x K (j + 1) := by
  unfold putRow
  apply List.ext_getElem
  · simp
  · intro i h1 h2
    rw [List.getElem_set]
    simp only [List.getElem_map, List.getElem_range]
    by_cases e : j = i
    · subst e; simp
    · rw [if_neg e]
      by_cases h3 : i < j
      · rw [if_pos h3, if_pos (by omega)]
      · rw [if_neg h3, if_neg (by omega)]

/-! ### Bytes that are read -/
/-- A slice of bytes, as it reads: nil, empty and other ones alike. -/
structure RdB (w : World) (A : Option Addr) (n : Nat) (l : List UInt8) : Prop where
  len : l.length = n
  le : n ≤ 9223372036854775807
  cell : 0 < n → ∃ b o, A = some ⟨b, o, none⟩ ∧ b < w.heap.size ∧ ∀ j, j < n → w.cell? ⟨b, o + j, none⟩ = some (.int .u8 ((l.getD j 0).toNat : Int))

/-- The number of bytes, the highest first. -/
def numv (l : List UInt8) : Nat := l.foldl (fun n c => n * 256 + c.toNat) 0
theorem numv_snoc (l : List UInt8) (c : UInt8) : numv (l ++ [c]) = numv l * 256 + c.toNat := by simp [numv]
theorem numv_from (l : List UInt8) : ∀ a : Nat, l.foldl (fun n c => n * 256 + c.toNat) a < (a + 1) * 256 ^ l.length := by
  induction l with
  | nil => intro a; simp
  | cons c r ih =>
    intro a
    have h1 := ih (a * 256 + c.toNat)
    have hc := c.toNat_lt
    have h2 : (a * 256 + c.toNat + 1) * 256 ^ r.length ≤ ((a + 1) * 256) * 256 ^ r.length := Nat.mul_le_mul_right _ (by omega)
    have h3 : ((a + 1) * 256) * 256 ^ r.length = (a + 1) * 256 ^ (r.length + 1) := by rw [Nat.pow_succ, Nat.mul_assoc, Nat.mul_comm 256]
    rw [List.foldl_cons, List.length_cons, ← h3]
    exact Nat.lt_of_lt_of_le h1 h2
theorem numv_lt (l : List UInt8) : numv l < 256 ^ l.length := by
  have := numv_from l 0
  simpa [numv] using this
theorem take_snoc' (l : List UInt8) (j : Nat) (h : j < l.length) : l.take (j + 1) = l.take j ++ [l.getD j 0] := by
  rw [List.take_succ_eq_append_getElem h]; simp [List.getD_eq_getElem?_getD, List.getElem?_eq_getElem h]
theorem numv_take (l : List UInt8) (j : Nat) (h : j < l.length) : numv (l.take (j + 1)) = numv (l.take j) * 256 + (l.getD j 0).toNat := by rw [take_snoc' l j h, numv_snoc]
theorem numv_take_lt (l : List UInt8) (j : Nat) (h : j ≤ 7) : numv (l.take j) < 72057594037927936 := by
  have h1 := numv_lt (l.take j)
  have h2 : (l.take j).length ≤ 7 := by rw [List.length_take]; omega
  have h3 : 256 ^ (l.take j).length ≤ 256 ^ 7 := Nat.pow_le_pow_right (by omega) h2
  have h4 : 256 ^ 7 = 72057594037927936 := by decide
  omega

/-- The number of bytes, the lowest first. -/
def lowv : List UInt8 → Nat
  | [] => 0
  | c :: r => c.toNat + 256 * lowv r
theorem lowv_lt (l : List UInt8) : lowv l < 256 ^ l.length := by
  induction l with
  | nil => simp [lowv]
  | cons c r ih =>
    rw [lowv, List.length_cons, Nat.pow_succ]
    have := c.toNat_lt
    omega
theorem lowv_drop (l : List UInt8) (j : Nat) (h : j < l.length) : lowv (l.drop j) = (l.getD j 0).toNat + 256 * lowv (l.drop (j + 1)) := by
  rw [List.drop_eq_getElem_cons h, lowv]; simp [List.getD_eq_getElem?_getD, List.getElem?_eq_getElem h]
theorem lowv_drop_lt (l : List UInt8) (j : Nat) (h : l.length ≤ j + 7) : lowv (l.drop j) < 72057594037927936 := by
  have h1 := lowv_lt (l.drop j)
  have h2 : (l.drop j).length ≤ 7 := by rw [List.length_drop]; omega
  have h3 : 256 ^ (l.drop j).length ≤ 256 ^ 7 := Nat.pow_le_pow_right (by omega) h2
  have h4 : 256 ^ 7 = 72057594037927936 := by decide
  omega

set_option maxHeartbeats 800000 in
theorem low_any (A : Option Addr) (n c : Nat) (l : List UInt8) (w : World) (h : RdB w A n l) :
    Calls Tryd.prog 19 #[.slice A n c] w fun e w' => e = .returned (.int .u64 (lowv (l.take 8) : Nat)) ∧ w = w' := by
  have hle := h.le
  have hlen := h.len
  obtain ⟨m, hm⟩ : ∃ m : Int, (if 8 < (n : Int) then 8 else (n : Int)) = m := ⟨_, rfl⟩
  have hmb : m ≤ 8 ∧ m ≤ n ∧ 0 ≤ m := by rw [← hm]; split <;> omega
  have hmb2 : m = 8 ∨ m = n := by rw [← hm]; split <;> omega
  have hml : m = (l.take 8).length := by rw [List.length_take]; omega
  have hget : ∀ j, j < (l.take 8).length → (l.take 8).getD j 0 = l.getD j 0 := by
    intro j hj
    rw [List.length_take] at hj
    simp only [List.getD_eq_getElem?_getD, List.getElem?_take]
    rw [if_pos (by omega)]
  have hl8 : (l.take 8).length ≤ 8 := by rw [List.length_take]; omega
  generalize l.take 8 = q at *
  have HC := Lib.hid h.cell
  have HQ := Lib.hid hml
  have HG := Lib.hid hget
  clear hlen h hmb2 hml hget
  obtain ⟨hm1, hm2, hm3⟩ := hmb
  go_enter Tryd.func19, Tryd.ntmps19
  go_wp2
  go_loop [3, 4] (fun a v => ∃ j : Nat, (j : Int) ≤ m ∧ a = .int .u64 (lowv (q.drop j) : Nat) ∧ v = .int .i64 ((j : Int) - 1)) (fun _ v => (intOf v + 1).toNat)
  case atStart => exact ⟨m.toNat, by omega, by rw [List.drop_of_length_le (by have := HQ.out; omega)]; rfl, by rw [show ((m.toNat : Nat) : Int) = m by omega]⟩
  case round =>
    obtain ⟨j, hj, rfl, rfl⟩ := hrel
    by_cases hlt : 0 < j
    · obtain ⟨i, rfl⟩ : ∃ i, j = i + 1 := ⟨j - 1, by omega⟩
      have ej : (((i + 1 : Nat) : Int) - 1) = (i : Int) := by omega
      rw [ej]
      obtain ⟨b, o, hA, _, hc⟩ := HC.out (by omega)
      subst hA
      have hcj := hc i (by omega)
      have hnum := lowv_drop q i (by have := HQ.out; omega)
      rw [HG.out i (by have := HQ.out; omega)] at hnum
      have hnl := lowv_drop_lt q (i + 1) (by omega)
      have hd := (l.getD i 0).toNat_lt
      generalize (l.getD i 0).toNat = d at *
      generalize lowv (q.drop (i + 1)) = a at *
      have HN := Lib.hid hnum
      have hlt' : (i : Int) < m := by omega
      clear hnum hc ej hlt hj
      go_wp2
      go_round
      case rel => exact ⟨i, by omega, by rw [HN.out]; go_num, rfl⟩
      case measure => simp [intOf]
    · obtain rfl : j = 0 := by omega
      rw [show (((0 : Nat) : Int) - 1) = -1 by omega]
      go_wp2
      go_ret
      exact ⟨rfl, rfl⟩

/-- A text's bytes. -/
abbrev strL (s : ByteArray) : List UInt8 := s.data.toList

theorem ret_str {a b : ByteArray} (h : a = b) : Ending.returned (.string a) = .returned (.string b) := by rw [h]

/-- A text of bytes. -/
def strO (l : List UInt8) : ByteArray := ⟨l.toArray⟩
theorem strO_append (a b : List UInt8) : strO a ++ strO b = strO (a ++ b) := by
  apply ByteArray.ext
  simp [strO, ByteArray.data_append]
theorem strO_size (l : List UInt8) : (strO l).size = l.length := by simp [strO, ByteArray.size]

/-- A number's lowest bytes, the highest first. -/
def textv (x : Int) : Nat → List UInt8
  | 0 => []
  | k + 1 => UInt8.ofNat (x / 256 ^ k % 256).toNat :: textv x k
theorem textv_len (x : Int) (k : Nat) : (textv x k).length = k := by induction k <;> simp [textv, *]

theorem pow256_succ (x : Int) (k : Nat) : x / 256 ^ k / 256 = x / 256 ^ (k + 1) := by
  rw [Int.pow_succ, Int.ediv_ediv_of_nonneg (by have : (0 : Int) < 256 ^ k := Int.pow_pos (by omega); omega)]

end Go.Proofs.YtocideolihbnaaaDoor
