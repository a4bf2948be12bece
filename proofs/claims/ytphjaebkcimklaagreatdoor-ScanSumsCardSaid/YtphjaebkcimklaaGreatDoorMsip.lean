/- Texts put together: FSipA FSipB FRows. -/
import Derived.Test.YtphjaebkcimklaaGreatDoorTMem
import Derived.Lib.ConvBytes
import Derived.Laws.BytesArg
import Derived.Deep.QuietTactic
import Derived.BigQuiet
import Derived.Deep.RegionHeld3
import Derived.Deep.DrawnRows
import Derived.Laws.Rows
import Derived.Laws.Tables
import Derived.Laws.CopyOwn
import Derived.RangeFuncRecord
import Derived.Deep.DeepCutAuto
import Derived.Deep.CutRange
import Derived.Deep.RegionWith
/- Contracts of the hash: Turn, Low, mix, Round, Take, End. -/
set_option linter.unusedVariables false
set_option linter.unusedSimpArgs false
namespace Go.Proofs.YtphjaebkcimklaaGreatDoor.Sip
open Go.RowKit


theorem max2_num (k k' : IntKind) (x y : Int) : Builtin.max2 (.int k x) (.int k' y) = pure (.int k (if x < y then y else x)) := by simp only [Builtin.max2, gt_iff_lt]
theorem min2_num (k k' : IntKind) (x y : Int) : Builtin.min2 (.int k x) (.int k' y) = pure (.int k (if y < x then y else x)) := by simp only [Builtin.min2]
theorem maxOf_two (ats : Array TypeId) (ty : TypeId) (a b : Value) : Builtin.max_ ats ty #[a, b] = (Builtin.max2 a b >>= fun s => pure s) := by simp only [Builtin.max_, List.foldlM_cons, List.foldlM_nil]
theorem minOf_two (ats : Array TypeId) (ty : TypeId) (a b : Value) : Builtin.min_ ats ty #[a, b] = (Builtin.min2 a b >>= fun s => pure s) := by simp only [Builtin.min_, List.foldlM_cons, List.foldlM_nil]
attribute [local go_sem] max2_num min2_num maxOf_two minOf_two

theorem ret_num {k : IntKind} {a b : Int} (h : a = b) : Ending.returned (.int k a) = .returned (.int k b) := by rw [h]

/-- A number within two bounds. -/
def cut3 (n lo hi : Int) : Int := if n < lo then lo else if n > hi then hi else n

/-- How many bits are meant, from 0 to 64. -/
def c64 (n : Int) : Nat := (cut3 n 0 64).toNat
theorem c64_le (n : Int) : c64 n ≤ 64 := by unfold c64 cut3; (repeat' split) <;> omega

theorem u64_wrap (x : Int) : IntKind.u64.wrap x = x % 18446744073709551616 := rfl

/-- A shift to the left and back leaves the lowest bits. -/
theorem shift_back (y : Int) (b : Nat) (hb : b ≤ 64) : IntKind.u64.wrap (y * 2 ^ (64 - b)) / 2 ^ (64 - b) = y % 2 ^ b := by
  rw [u64_wrap]
  have e : (18446744073709551616 : Int) = 2 ^ b * 2 ^ (64 - b) := by rw [← Int.pow_add, show b + (64 - b) = 64 by omega]; decide
  have hp : (0 : Int) < 2 ^ (64 - b) := Int.pow_pos (by omega)
  rw [e, Int.mul_comm y, Int.mul_comm (2 ^ b), Int.mul_emod_mul_of_pos _ _ hp]
  exact Int.mul_ediv_cancel_left _ (by omega)

/-- What is cut out of a number. -/
def cutv (x f n : Int) : Int := x / 2 ^ c64 f % 2 ^ c64 n



theorem half_half (x : Int) (k : Nat) : x / 2 ^ k / 2 = x / 2 ^ (k + 1) := by
  rw [Int.pow_succ, Int.ediv_ediv_of_nonneg (by have : (0 : Int) < 2 ^ k := Int.pow_pos (by omega); omega)]

/-- A number, turned to the left by so many bits. -/
def rotv (x k : Int) : Int := ((((x * 2 ^ (k % 64).toNat % 18446744073709551616).toNat) ||| (x / 2 ^ (64 - (k % 64).toNat)).toNat : Nat) : Int)

theorem rot_any (x k : Int) (w : World) (hx : 0 ≤ x) (hx2 : x < 18446744073709551616) :
    Calls Tryz.prog 140 #[.int .u64 x, .int .i64 k] w fun e w' => e = .returned (.int .u64 (rotv x k)) ∧ w = w' := by
  have hm : bits .and .u64 (IntKind.u64.wrap k) 63 = ((k % 64).toNat : Int) := by
    have h := bits_mask .u64 64 (by decide) (fun n h0 h1 => by rw [u64_wrap]; have : (2 : Int) ^ 64 = 18446744073709551616 := by decide
                                                               omega) 6 (by decide) (IntKind.u64.wrap k) (by rw [u64_wrap]; omega) (by rw [u64_wrap]; have : (2 : Int) ^ 64 = 18446744073709551616 := by decide
                                                                                                                                       omega)
    have e6 : (2 : Int) ^ 6 = 64 := by decide
    rw [e6] at h
    have e63 : (64 : Int) - 1 = 63 := by decide
    rw [e63, u64_wrap] at h
    rw [u64_wrap, h]
    omega
  have hs : (k % 64).toNat < 64 := by omega
  have hr : rotv x k = ((((x * 2 ^ (k % 64).toNat % 18446744073709551616).toNat) ||| (x / 2 ^ (64 - (k % 64).toNat)).toNat : Nat) : Int) := rfl
  have ho : ∀ s : Nat, bits .or .u64 (IntKind.u64.wrap (x * 2 ^ s)) (x / 2 ^ (64 - s)) = ((((x * 2 ^ s % 18446744073709551616).toNat) ||| (x / 2 ^ (64 - s)).toNat : Nat) : Int) := by
    intro s
    have h1 : 0 ≤ x / 2 ^ (64 - s) := Int.ediv_nonneg hx (by have : (0 : Int) < 2 ^ (64 - s) := Int.pow_pos (by omega); omega)
    have h2 : x / 2 ^ (64 - s) ≤ x := Int.ediv_le_self _ hx
    rw [u64_wrap]
    exact u64_or _ _ (by omega) (by omega) h1 (by omega)
  generalize (k % 64).toNat = s at *
  have HR := Lib.hid hr
  have HO := Lib.hid (ho s)
  clear hr ho
  go_enter Tryz.func140, Tryz.ntmps140
  go_wp2
  go_ret
  exact ⟨ret_num (by rw [HO.out, HR.out]), rfl⟩

theorem turn_any (x k : Int) (w : World) (hx : 0 ≤ x) (hx2 : x < 18446744073709551616) :
    Calls Tryz.prog 125 #[.int .u64 x, .int .i64 k] w fun e w' => e = .returned (.int .u64 (rotv x (Int.tmod k 64))) ∧ w = w' := by
  go_enter Tryz.func125, Tryz.ntmps125
  go_wp2_with (go_at_call 140; refine (rot_any _ _ _ hx hx2).mono ?_; rintro e w' ⟨rfl, rfl⟩)
  go_ret
  exact ⟨rfl, rfl⟩



/-! ### Bytes that are read -/
/-- A slice of bytes, as it reads: nil, empty and other ones alike. -/
structure RdB (w : World) (A : Option Addr) (n : Nat) (l : List UInt8) : Prop where
  len : l.length = n
  le : n ≤ 9223372036854775807
  cell : 0 < n → ∃ b o, A = some ⟨b, o, none⟩ ∧ b < w.heap.size ∧ ∀ j, j < n → w.cell? ⟨b, o + j, none⟩ = some (.int .u8 ((l.getD j 0).toNat : Int))

/-- The number of bytes, the highest first. -/
def numv (l : List UInt8) : Nat := l.foldl (fun n c => n * 256 + c.toNat) 0
theorem numv_snoc (l : List UInt8) (c : UInt8) : numv (l ++ [c]) = numv l * 256 + c.toNat := by simp [numv]
theorem numv_from (l : List UInt8) : ∀ a : Nat, l.foldl (fun n c => n * 256 + c.toNat) a < (a + 1) * 256 ^ l.length := by
  induction l with
  | nil => intro a; simp
  | cons c r ih =>
    intro a
    have h1 := ih (a * 256 + c.toNat)
    have hc := c.toNat_lt
    have h2 : (a * 256 + c.toNat + 1) * 256 ^ r.length ≤ ((a + 1) * 256) * 256 ^ r.length := Nat.mul_le_mul_right _ (by omega)
    have h3 : ((a + 1) * 256) * 256 ^ r.length = (a + 1) * 256 ^ (r.length + 1) := by rw [Nat.pow_succ, Nat.mul_assoc, Nat.mul_comm 256]
    rw [List.foldl_cons, List.length_cons, ← h3]
    exact Nat.lt_of_lt_of_le h1 h2
theorem numv_lt (l : List UInt8) : numv l < 256 ^ l.length := by
  have := numv_from l 0
  simpa [numv] using this
theorem take_snoc' (l : List UInt8) (j : Nat) (h : j < l.length) : l.take (j + 1) = l.take j ++ [l.getD j 0] := by
  rw [List.take_succ_eq_append_getElem h]; simp [List.getD_eq_getElem?_getD, List.getElem?_eq_getElem h]
theorem numv_take (l : List UInt8) (j : Nat) (h : j < l.length) : numv (l.take (j + 1)) = numv (l.take j) * 256 + (l.getD j 0).toNat := by rw [take_snoc' l j h, numv_snoc]
theorem numv_take_lt (l : List UInt8) (j : Nat) (h : j ≤ 7) : numv (l.take j) < 72057594037927936 := by
  have h1 := numv_lt (l.take j)
  have h2 : (l.take j).length ≤ 7 := by rw [List.length_take]; omega
  have h3 : 256 ^ (l.take j).length ≤ 256 ^ 7 := Nat.pow_le_pow_right (by omega) h2
  have h4 : 256 ^ 7 = 72057594037927936 := by decide
  omega

/-- The number of bytes, the lowest first. -/
def lowv : List UInt8 → Nat
  | [] => 0
  | c :: r => c.toNat + 256 * lowv r
theorem lowv_lt (l : List UInt8) : lowv l < 256 ^ l.length := by
  induction l with
  | nil => simp [lowv]
  | cons c r ih =>
    rw [lowv, List.length_cons, Nat.pow_succ]
    have := c.toNat_lt
    omega
theorem lowv_drop (l : List UInt8) (j : Nat) (h : j < l.length) : lowv (l.drop j) = (l.getD j 0).toNat + 256 * lowv (l.drop (j + 1)) := by
  rw [List.drop_eq_getElem_cons h, lowv]; simp [List.getD_eq_getElem?_getD, List.getElem?_eq_getElem h]
theorem lowv_drop_lt (l : List UInt8) (j : Nat) (h : l.length ≤ j + 7) : lowv (l.drop j) < 72057594037927936 := by
  have h1 := lowv_lt (l.drop j)
  have h2 : (l.drop j).length ≤ 7 := by rw [List.length_drop]; omega
  have h3 : 256 ^ (l.drop j).length ≤ 256 ^ 7 := Nat.pow_le_pow_right (by omega) h2
  have h4 : 256 ^ 7 = 72057594037927936 := by decide
  omega

set_option maxHeartbeats 800000 in
theorem low_any (A : Option Addr) (n c : Nat) (l : List UInt8) (w : World) (h : RdB w A n l) :
    Calls Tryz.prog 91 #[.slice A n c] w fun e w' => e = .returned (.int .u64 (lowv (l.take 8) : Nat)) ∧ w = w' := by
  have hle := h.le
  have hlen := h.len
  obtain ⟨m, hm⟩ : ∃ m : Int, (if 8 < (n : Int) then 8 else (n : Int)) = m := ⟨_, rfl⟩
  have hmb : m ≤ 8 ∧ m ≤ n ∧ 0 ≤ m := by rw [← hm]; split <;> omega
  have hmb2 : m = 8 ∨ m = n := by rw [← hm]; split <;> omega
  have hml : m = (l.take 8).length := by rw [List.length_take]; omega
  have hget : ∀ j, j < (l.take 8).length → (l.take 8).getD j 0 = l.getD j 0 := by
    intro j hj
    rw [List.length_take] at hj
    simp only [List.getD_eq_getElem?_getD, List.getElem?_take]
    rw [if_pos (by omega)]
  have hl8 : (l.take 8).length ≤ 8 := by rw [List.length_take]; omega
  generalize l.take 8 = q at *
  have HC := Lib.hid h.cell
  have HQ := Lib.hid hml
  have HG := Lib.hid hget
  clear hlen h hmb2 hml hget
  obtain ⟨hm1, hm2, hm3⟩ := hmb
  go_enter Tryz.func91, Tryz.ntmps91
  go_wp2
  go_loop [3, 4] (fun a v => ∃ j : Nat, (j : Int) ≤ m ∧ a = .int .u64 (lowv (q.drop j) : Nat) ∧ v = .int .i64 ((j : Int) - 1)) (fun _ v => (intOf v + 1).toNat)
  case atStart => exact ⟨m.toNat, by omega, by rw [List.drop_of_length_le (by have := HQ.out; omega)]; rfl, by rw [show ((m.toNat : Nat) : Int) = m by omega]⟩
  case round =>
    obtain ⟨j, hj, rfl, rfl⟩ := hrel
    by_cases hlt : 0 < j
    · obtain ⟨i, rfl⟩ : ∃ i, j = i + 1 := ⟨j - 1, by omega⟩
      have ej : (((i + 1 : Nat) : Int) - 1) = (i : Int) := by omega
      rw [ej]
      obtain ⟨b, o, hA, _, hc⟩ := HC.out (by omega)
      subst hA
      have hcj := hc i (by omega)
      have hnum := lowv_drop q i (by have := HQ.out; omega)
      rw [HG.out i (by have := HQ.out; omega)] at hnum
      have hnl := lowv_drop_lt q (i + 1) (by omega)
      have hd := (l.getD i 0).toNat_lt
      generalize (l.getD i 0).toNat = d at *
      generalize lowv (q.drop (i + 1)) = a at *
      have HN := Lib.hid hnum
      have hlt' : (i : Int) < m := by omega
      clear hnum hc ej hlt hj
      go_wp2
      go_round
      case rel => exact ⟨i, by omega, by rw [HN.out]; go_num, rfl⟩
      case measure => simp [intOf]
    · obtain rfl : j = 0 := by omega
      rw [show (((0 : Nat) : Int) - 1) = -1 by omega]
      go_wp2
      go_ret
      exact ⟨rfl, rfl⟩



theorem info31 : (Tryz.prog.info? 148).map (·.size) = some 4 := by kernel_rfl
theorem info23 : (Tryz.prog.info? 31).map (·.size) = some 16 := by kernel_rfl
theorem heap_new (w : World) (o : Obj) : (w.alloc o).heap[w.heap.size]? = some o := World.alloc_heap_new w o
theorem heap_old {w : World} {b : Nat} {o : Obj} (p : Obj) (h : w.heap[b]? = some o) : (w.alloc p).heap[b]? = some o := (Below.heap_alloc w p b (Array.getElem?_eq_some_iff.1 h).1).trans h

/-- A number turned to the left, by less than 64. -/
def rotN (x k : Nat) : Nat := (x * 2 ^ k % 18446744073709551616) ||| (x / 2 ^ (64 - k))
def addN (a b : Nat) : Nat := (a + b) % 18446744073709551616
theorem addN_lt (a b : Nat) : addN a b < 18446744073709551616 := Nat.mod_lt _ (by omega)
theorem rotN_lt (x k : Nat) (hx : x < 18446744073709551616) : rotN x k < 18446744073709551616 := by
  unfold rotN
  exact Nat.or_lt_two_pow (n := 64) (Nat.mod_lt _ (by decide)) (Nat.lt_of_le_of_lt (Nat.div_le_self _ _) hx)
theorem xorN_lt {a b : Nat} (ha : a < 18446744073709551616) (hb : b < 18446744073709551616) : a ^^^ b < 18446744073709551616 := Nat.xor_lt_two_pow (n := 64) ha hb

theorem turnN_any (x k : Nat) (w : World) (hx : x < 18446744073709551616) (hk : k < 64) :
    Calls Tryz.prog 125 #[.int .u64 (x : Int), .int .i64 (k : Int)] w fun e w' => e = .returned (.int .u64 (rotN x k : Nat)) ∧ w = w' := by
  refine (turn_any (x : Int) k w (by omega) (by omega)).mono fun e w' ⟨he, hw⟩ => ⟨?_, hw⟩
  rw [he]
  have e1 : Int.tmod (k : Int) 64 = k := by rw [Int.tmod_eq_emod_of_nonneg (by omega)]; omega
  have e2 : ((k : Int) % 64).toNat = k := by omega
  have e3 : ((x : Int) * 2 ^ k % 18446744073709551616).toNat = x * 2 ^ k % 18446744073709551616 := by
    rw [show (x : Int) * 2 ^ k % 18446744073709551616 = ((x * 2 ^ k % 18446744073709551616 : Nat) : Int) by simp]; rfl
  have e4 : ((x : Int) / 2 ^ (64 - k)).toNat = x / 2 ^ (64 - k) := by
    rw [show (x : Int) / 2 ^ (64 - k) = ((x / 2 ^ (64 - k) : Nat) : Int) by simp]; rfl
  unfold rotv rotN
  rw [e1, e2, e3, e4]

/-- Half a round. -/
def mixN (a b k : Nat) : Nat × Nat := (addN a b, rotN b k ^^^ addN a b)

theorem mix_any (a b k : Nat) (w : World) (ha : a < 18446744073709551616) (hb : b < 18446744073709551616) (hk : k < 64) :
    Calls Tryz.prog 124 #[.int .u64 (a : Int), .int .u64 (b : Int), .int .i64 (k : Int)] w fun e w' => e = .returned (.tuple #[.int .u64 ((mixN a b k).1 : Nat), .int .u64 ((mixN a b k).2 : Nat)]) ∧ w = w' := by
  have h1 : IntKind.u64.wrap ((a : Int) + b) = ((addN a b : Nat) : Int) := by rw [u64_wrap]; unfold addN; omega
  have h2 := u64_xor_nat (rotN b k) (addN a b) (rotN_lt b k hb) (addN_lt a b)
  have HM : Hid ((mixN a b k) = (addN a b, rotN b k ^^^ addN a b)) := rfl
  have HT := Lib.hid (turnN_any b k w hb hk)
  rw [HM.out]
  generalize addN a b = s at *
  generalize rotN b k = t at *
  generalize mixN a b k = mm at *
  clear HM
  go_enter Tryz.func124, Tryz.ntmps124
  go_wp2_with fail
  refine HT.out.mono ?_
  rintro e w' ⟨rfl, rfl⟩
  go_wp2_with fail
  go_ret2
  exact ⟨rfl, rfl⟩

theorem mixN_lt (a b k : Nat) (hb : b < 18446744073709551616) : (mixN a b k).1 < 18446744073709551616 ∧ (mixN a b k).2 < 18446744073709551616 :=
  ⟨addN_lt _ _, xorN_lt (rotN_lt _ _ hb) (addN_lt _ _)⟩

/-- Four numbers of 64 bits. -/
structure St where
  p : Nat
  q : Nat
  r : Nat
  s : Nat
  deriving DecidableEq
def St.ok (x : St) : Prop := x.p < 18446744073709551616 ∧ x.q < 18446744073709551616 ∧ x.r < 18446744073709551616 ∧ x.s < 18446744073709551616
/-- Its value. -/
def St.v (x : St) : Value := .agg #[.int .u64 (x.p : Int), .int .u64 (x.q : Int), .int .u64 (x.r : Int), .int .u64 (x.s : Int)]
/-- A round. -/
def roundN (x : St) : St :=
  let a := mixN x.p x.q 13
  let b := mixN x.r x.s 16
  let c := mixN (rotN a.1 32) b.2 21
  let d := mixN b.1 a.2 17
  ⟨c.1, d.2, rotN d.1 32, c.2⟩
theorem roundN_ok (x : St) (h : x.ok) : (roundN x).ok := by
  obtain ⟨h1, h2, h3, h4⟩ := h
  have a := mixN_lt x.p x.q 13 h2
  have b := mixN_lt x.r x.s 16 h4
  have c := mixN_lt (rotN (mixN x.p x.q 13).1 32) (mixN x.r x.s 16).2 21 b.2
  have d := mixN_lt (mixN x.r x.s 16).1 (mixN x.p x.q 13).2 17 a.2
  exact ⟨c.1, d.2, rotN_lt _ _ d.1, c.2⟩

set_option maxHeartbeats 1600000 in
theorem round_any (x : St) (w : World) (h : x.ok) :
    Calls Tryz.prog 108 #[x.v] w fun e w' => e = .returned (roundN x).v ∧ Below w.heap.size w w' := by
  obtain ⟨p, q, r, s⟩ := x
  obtain ⟨h1, h2, h3, h4⟩ := h
  dsimp only at h1 h2 h3 h4
  have e : (roundN ⟨p, q, r, s⟩) = ⟨(mixN (rotN (mixN p q 13).1 32) (mixN r s 16).2 21).1, (mixN (mixN r s 16).1 (mixN p q 13).2 17).2, rotN (mixN (mixN r s 16).1 (mixN p q 13).2 17).1 32, (mixN (rotN (mixN p q 13).1 32) (mixN r s 16).2 21).2⟩ := rfl
  rw [e]
  have a := mixN_lt p q 13 h2
  have b := mixN_lt r s 16 h4
  have c := mixN_lt (rotN (mixN p q 13).1 32) (mixN r s 16).2 21 b.2
  have d := mixN_lt (mixN r s 16).1 (mixN p q 13).2 17 a.2
  have t := rotN_lt (mixN p q 13).1 32 a.1
  have t2 := rotN_lt (mixN (mixN r s 16).1 (mixN p q 13).2 17).1 32 d.1
  have M1 := Lib.hid (fun w => mix_any p q 13 w h1 h2 (by omega))
  have M2 := Lib.hid (fun w => mix_any r s 16 w h3 h4 (by omega))
  have T1 := Lib.hid (fun w => turnN_any (mixN p q 13).1 32 w a.1 (by omega))
  have M3 := Lib.hid (fun w => mix_any (rotN (mixN p q 13).1 32) (mixN r s 16).2 21 w t b.2 (by omega))
  have M4 := Lib.hid (fun w => mix_any (mixN r s 16).1 (mixN p q 13).2 17 w b.1 a.2 (by omega))
  have T2 := Lib.hid (fun w => turnN_any (mixN (mixN r s 16).1 (mixN p q 13).2 17).1 32 w d.1 (by omega))
  generalize rotN (mixN (mixN r s 16).1 (mixN p q 13).2 17).1 32 = y8 at *
  generalize (mixN (mixN r s 16).1 (mixN p q 13).2 17).1 = y6 at *
  generalize (mixN (mixN r s 16).1 (mixN p q 13).2 17).2 = y7 at *
  generalize (mixN (rotN (mixN p q 13).1 32) (mixN r s 16).2 21).1 = y4 at *
  generalize (mixN (rotN (mixN p q 13).1 32) (mixN r s 16).2 21).2 = y5 at *
  generalize rotN (mixN p q 13).1 32 = y3 at *
  generalize (mixN p q 13).1 = y1 at *
  generalize (mixN p q 13).2 = y2 at *
  generalize (mixN r s 16).1 = z1 at *
  generalize (mixN r s 16).2 = z2 at *
  simp only [St.v]
  go_enter Tryz.func108, Tryz.ntmps108
  go_wp2_with fail
  refine (M1.out _).mono ?_
  rintro e w' ⟨rfl, rfl⟩
  go_wp2_with fail
  refine (M2.out _).mono ?_
  rintro e w' ⟨rfl, rfl⟩
  go_wp2_with fail
  refine (T1.out _).mono ?_
  rintro e w' ⟨rfl, rfl⟩
  go_wp2_with fail
  refine (M3.out _).mono ?_
  rintro e w' ⟨rfl, rfl⟩
  go_wp2_with fail
  refine (M4.out _).mono ?_
  rintro e w' ⟨rfl, rfl⟩
  go_wp2_with fail
  refine (T2.out _).mono ?_
  rintro e w' ⟨rfl, rfl⟩
  go_wp2_with fail
  have hf := heap_new (w.alloc (.cells #[.int .u64 (p : Int), .int .u64 (q : Int), .int .u64 (r : Int), .int .u64 (s : Int)] 148)) (.cells #[.int .u64 (y4 : Int), .int .u64 (y7 : Int), .int .u64 (y8 : Int), .int .u64 (y5 : Int)] 148)
  rw [World.size_alloc] at hf
  exact bodyPost_ret (results_cell_row rfl _ _ (w.heap.size + 1) 148 _ (0, 0) _ (by rfl) hf Tryz.underlying148 rfl info31) rfl ⟨rfl, ((Below.refl _ w).alloc (Nat.le_refl _) _).alloc (by simp) _⟩



theorem one4 (a b c d : Int) : (#[.int .u64 a, .int .u64 b, .int .u64 c, .int .u64 d] : Array Value).all (·.oneCell') = true := by simp [Value.oneCell']
theorem one2 (a b : Int) : (#[.int .u64 a, .int .u64 b] : Array Value).all (·.oneCell') = true := by simp [Value.oneCell']

def takeN (x : St) (m : Nat) : St :=
  let y := roundN (roundN ⟨x.p, x.q, x.r, x.s ^^^ m⟩)
  ⟨y.p ^^^ m, y.q, y.r, y.s⟩
theorem takeN_ok (x : St) (m : Nat) (h : x.ok) (hm : m < 18446744073709551616) : (takeN x m).ok := by
  have h2 := roundN_ok _ (roundN_ok ⟨x.p, x.q, x.r, x.s ^^^ m⟩ ⟨h.1, h.2.1, h.2.2.1, xorN_lt h.2.2.2 hm⟩)
  exact ⟨xorN_lt h2.1 hm, h2.2.1, h2.2.2.1, h2.2.2.2⟩

set_option maxHeartbeats 1600000 in
theorem take_any (x : St) (m : Nat) (w : World) (h : x.ok) (hm : m < 18446744073709551616) :
    Calls Tryz.prog 90 #[x.v, .int .u64 (m : Int)] w fun e w' => e = .returned (takeN x m).v ∧ Below w.heap.size w w' := by
  obtain ⟨p, q, r, s⟩ := x
  have hok1 : (St.mk p q r (s ^^^ m)).ok := ⟨h.1, h.2.1, h.2.2.1, xorN_lt h.2.2.2 hm⟩
  have hok2 := roundN_ok _ hok1
  have R1 := Lib.hid (fun w => round_any ⟨p, q, r, s ^^^ m⟩ w hok1)
  have R2 := Lib.hid (fun w => round_any _ w hok2)
  have hok3 := roundN_ok _ hok2
  have hx1 := u64_xor_nat s m h.2.2.2 hm
  have e : takeN ⟨p, q, r, s⟩ m = ⟨(roundN (roundN ⟨p, q, r, s ^^^ m⟩)).p ^^^ m, (roundN (roundN ⟨p, q, r, s ^^^ m⟩)).q, (roundN (roundN ⟨p, q, r, s ^^^ m⟩)).r, (roundN (roundN ⟨p, q, r, s ^^^ m⟩)).s⟩ := rfl
  rw [e]
  clear e
  generalize s ^^^ m = s1 at *
  generalize roundN (roundN ⟨p, q, r, s1⟩) = y at *
  obtain ⟨y1, y2, y3, y4⟩ := y
  have hx2 := u64_xor_nat y1 m hok3.1 hm
  dsimp only
  generalize y1 ^^^ m = y5 at *
  generalize roundN ⟨p, q, r, s1⟩ = z at *
  obtain ⟨z1, z2, z3, z4⟩ := z
  clear hok1 hok2 hok3 h
  simp only [St.v] at R1 R2 ⊢
  go_enter Tryz.func90, Tryz.ntmps90
  go_wp2_with fail
  refine (R1.out _).mono ?_
  rintro e w1 ⟨rfl, hb1⟩
  go_wp2_with fail
  refine (R2.out _).mono ?_
  rintro e w2 ⟨rfl, hb2⟩
  have hX := (((Below.refl _ w).alloc (Nat.le_refl _) (.cells #[.int .u64 (p : Int), .int .u64 (q : Int), .int .u64 (r : Int), .int .u64 (s1 : Int)] 148)).alloc (by simp) (.cells #[.int .u64 0, .int .u64 0, .int .u64 0, .int .u64 0] 148))
  have hA := heap_old (.cells #[.int .u64 0, .int .u64 0, .int .u64 0, .int .u64 0] 148) (heap_new w (.cells #[.int .u64 (p : Int), .int .u64 (q : Int), .int .u64 (r : Int), .int .u64 (s1 : Int)] 148))
  have hZ := heap_new (w.alloc (.cells #[.int .u64 (p : Int), .int .u64 (q : Int), .int .u64 (r : Int), .int .u64 (s1 : Int)] 148)) (.cells #[.int .u64 0, .int .u64 0, .int .u64 0, .int .u64 0] 148)
  generalize ((w.alloc (.cells #[.int .u64 (p : Int), .int .u64 (q : Int), .int .u64 (r : Int), .int .u64 (s1 : Int)] 148)).alloc (.cells #[.int .u64 0, .int .u64 0, .int .u64 0, .int .u64 0] 148)) = X at *
  rw [World.size_alloc] at hZ
  have hb := hb1.trans (hb2.mono hb1.size)
  have hltA := (Array.getElem?_eq_some_iff.1 hA).1
  have hltZ := (Array.getElem?_eq_some_iff.1 hZ).1
  have hA2 := (hb.block _ hltA).trans hA
  have hZ2 := (hb.block _ hltZ).trans hZ
  have hB2 := hX.trans (hb.mono hX.size)
  have HA := Lib.hid hA2
  have HZ := Lib.hid hZ2
  have HB := Lib.hid hB2
  clear hb1 hb2 hb hA hZ hX hA2 hZ2 hB2 hltA hltZ
  have hW := setRow_heap w2 w.heap.size _ #[.int .u64 (y1 : Int), .int .u64 (y2 : Int), .int .u64 (y3 : Int), .int .u64 (y4 : Int)] 148 _ HA.out
  have hWZ := (setRow_other w2 w.heap.size (w.heap.size + 1) #[.int .u64 (y1 : Int), .int .u64 (y2 : Int), .int .u64 (y3 : Int), .int .u64 (y4 : Int)] (by omega)).trans HZ.out
  have hWB := below_setRow HB.out (Nat.le_refl _) #[.int .u64 (y1 : Int), .int .u64 (y2 : Int), .int .u64 (y3 : Int), .int .u64 (y4 : Int)]
  have HW := Lib.hid hW
  have HWZ := Lib.hid hWZ
  have HWB := Lib.hid hWB
  clear hW hWZ hWB
  go_wp2_with (first
    | (refine wpList_store_row rfl 148 _ _ rfl w.heap.size #[.int .u64 (y1 : Int), .int .u64 (y2 : Int), .int .u64 (y3 : Int), .int .u64 (y4 : Int)] rfl rfl 148 _ HA.out info31 rfl (one4 _ _ _ _) ?_
       clear HA HZ HB
       generalize w2.setRow w.heap.size #[.int .u64 (y1 : Int), .int .u64 (y2 : Int), .int .u64 (y3 : Int), .int .u64 (y4 : Int)] = W at *
       have c0 := cell_of_row W w.heap.size 0 _ _ _ HW.out
       have c1 := cell_of_row W w.heap.size 1 _ _ _ HW.out
       have c2 := cell_of_row W w.heap.size 2 _ _ _ HW.out
       have c3 := cell_of_row W w.heap.size 3 _ _ _ HW.out
       have f0 := frozen_of_row W w.heap.size 0 _ _ HW.out
       dsimp at c0 c1 c2 c3)
    | (refine wpList_store_row rfl 148 _ _ rfl (w.heap.size + 1) #[.int .u64 (y5 : Int), .int .u64 (y2 : Int), .int .u64 (y3 : Int), .int .u64 (y4 : Int)] rfl rfl 148 _ ((Below.heap_setCell W ⟨w.heap.size, 0, none⟩ _ (w.heap.size + 1) (by simp)).trans HWZ.out) info31 rfl (one4 _ _ _ _) ?_))
  have hfin := setRow_heap (W.setCell ⟨w.heap.size, 0, none⟩ (.int .u64 (y5 : Int))) (w.heap.size + 1) _ #[.int .u64 (y5 : Int), .int .u64 (y2 : Int), .int .u64 (y3 : Int), .int .u64 (y4 : Int)] 148 _ ((Below.heap_setCell W ⟨w.heap.size, 0, none⟩ _ (w.heap.size + 1) (by simp)).trans HWZ.out)
  exact bodyPost_ret (results_cell_row rfl _ _ (w.heap.size + 1) 148 _ (0, 0) _ (by rfl) hfin Tryz.underlying148 rfl info31) rfl ⟨rfl, below_setRow (HWB.out.setCell (p := ⟨w.heap.size, 0, none⟩) (Nat.le_refl _) _) (by omega) _⟩



/-- So many rounds. -/
def itN : Nat → St → St
  | 0, x => x
  | n + 1, x => roundN (itN n x)
theorem itN_ok (x : St) (h : x.ok) : ∀ n, (itN n x).ok
  | 0 => h
  | n + 1 => roundN_ok _ (itN_ok x h n)

def endN (x : St) : Nat :=
  let y := itN 4 ⟨x.p, x.q, x.r ^^^ 255, x.s⟩
  y.p ^^^ y.q ^^^ y.r ^^^ y.s

/-- A state lies in a block. -/
def Lies (W : World) (b : Nat) (t : TypeId) (x : St) : Prop := W.heap[b]? = some (.cells #[.int .u64 (x.p : Int), .int .u64 (x.q : Int), .int .u64 (x.r : Int), .int .u64 (x.s : Int)] t (0, 0))
theorem Lies.cells {W : World} {b : Nat} {t : TypeId} {p q r s : Nat} (h : Lies W b t ⟨p, q, r, s⟩) :
    W.cell? ⟨b, 0, none⟩ = some (.int .u64 (p : Int)) ∧ W.cell? ⟨b, 1, none⟩ = some (.int .u64 (q : Int)) ∧ W.cell? ⟨b, 2, none⟩ = some (.int .u64 (r : Int)) ∧ W.cell? ⟨b, 3, none⟩ = some (.int .u64 (s : Int)) :=
  ⟨cell_of_row W b 0 _ _ _ h, cell_of_row W b 1 _ _ _ h, cell_of_row W b 2 _ _ _ h, cell_of_row W b 3 _ _ _ h⟩
theorem Lies.lt {W : World} {b : Nat} {t : TypeId} {x : St} (h : Lies W b t x) : b < W.heap.size := (Array.getElem?_eq_some_iff.1 h).1
theorem Lies.below {W W' : World} {b n : Nat} {t : TypeId} {x : St} (h : Lies W b t x) (hb : Below n W W') (hn : b < n) : Lies W' b t x := (hb.block b hn).trans h
theorem Lies.set {W : World} {b : Nat} {t : TypeId} {x : St} (y : St) (h : Lies W b t x) : Lies (W.setRow b #[.int .u64 (y.p : Int), .int .u64 (y.q : Int), .int .u64 (y.r : Int), .int .u64 (y.s : Int)]) b t y := setRow_heap W b _ _ t _ h

set_option maxHeartbeats 1600000 in
theorem end_any (x : St) (w : World) (h : x.ok) :
    Calls Tryz.prog 92 #[x.v] w fun e w' => e = .returned (.int .u64 (endN x : Nat)) ∧ Below w.heap.size w w' := by
  obtain ⟨p, q, r, s⟩ := x
  have hok1 : (St.mk p q (r ^^^ 255) s).ok := ⟨h.1, h.2.1, xorN_lt h.2.2.1 (by omega), h.2.2.2⟩
  have hx1 := u64_xor_nat r 255 h.2.2.1 (by omega)
  have HE : Hid (endN ⟨p, q, r, s⟩ = (itN 4 ⟨p, q, r ^^^ 255, s⟩).p ^^^ (itN 4 ⟨p, q, r ^^^ 255, s⟩).q ^^^ (itN 4 ⟨p, q, r ^^^ 255, s⟩).r ^^^ (itN 4 ⟨p, q, r ^^^ 255, s⟩).s) := rfl
  have e255 : ((255 : Nat) : Int) = 255 := rfl
  rw [e255] at hx1
  clear e255
  generalize r ^^^ 255 = r1 at *
  have HI := Lib.hid (itN_ok _ hok1)
  generalize endN ⟨p, q, r, s⟩ = en at *
  have hX0 := heap_new w (.cells #[.int .u64 (p : Int), .int .u64 (q : Int), .int .u64 (r1 : Int), .int .u64 (s : Int)] 148)
  have HX0 := Lib.hid (show Lies _ w.heap.size 148 (itN 0 ⟨p, q, r1, s⟩) from hX0)
  have HB0 := Lib.hid ((Below.refl _ w).alloc (Nat.le_refl _) (.cells #[.int .u64 (p : Int), .int .u64 (q : Int), .int .u64 (r1 : Int), .int .u64 (s : Int)] 148))
  clear hX0 h hok1
  simp only [St.v]
  go_enter Tryz.func92, Tryz.ntmps92
  go_wp2_with fail
  go_loopw [7] (fun v wr => ∃ j : Nat, j ≤ 4 ∧ v = .int .i64 j ∧ Lies wr w.heap.size 148 (itN j ⟨p, q, r1, s⟩) ∧ Below w.heap.size w wr) (fun v _ => 4 - (intOf v).toNat)
  case atStart => exact ⟨0, by omega, rfl, HX0.out, HB0.out⟩
  case round =>
    obtain ⟨j, hj, rfl, hl, hb⟩ := hrel
    have hoj := HI.out j
    have HNX : Hid (itN (j + 1) ⟨p, q, r1, s⟩ = roundN (itN j ⟨p, q, r1, s⟩)) := rfl
    by_cases hlt : j < 4
    · have hR := fun w => round_any _ w hoj
      have hok2 := roundN_ok _ hoj
      generalize itN j ⟨p, q, r1, s⟩ = y at *
      obtain ⟨y1, y2, y3, y4⟩ := y
      obtain ⟨c0, c1, c2, c3⟩ := hl.cells
      generalize roundN ⟨y1, y2, y3, y4⟩ = z at *
      have HL := Lib.hid hl
      have HB := Lib.hid hb
      have HR := Lib.hid hR
      clear hl hb hR hx1
      simp only [St.v] at HR
      go_wp2_with fail
      refine (HR.out _).mono ?_
      rintro e w2 ⟨rfl, hb2⟩
      have hl2 := HL.out.below hb2 HL.out.lt
      have hB2 := HB.out.trans (hb2.mono HB.out.size)
      have hl3 := hl2.set z
      have hB3 := below_setRow hB2 (Nat.le_refl _) #[.int .u64 (z.p : Int), .int .u64 (z.q : Int), .int .u64 (z.r : Int), .int .u64 (z.s : Int)]
      have HL2 := Lib.hid hl2
      have HL3 := Lib.hid hl3
      have HB3 := Lib.hid hB3
      clear hl2 hl3 hB3 hB2 hb2
      obtain ⟨z1, z2, z3, z4⟩ := z
      dsimp only at HL3 HB3
      go_wp2_with (refine wpList_store_row rfl 148 _ _ rfl w.heap.size #[.int .u64 (z1 : Int), .int .u64 (z2 : Int), .int .u64 (z3 : Int), .int .u64 (z4 : Int)] rfl rfl 148 _ HL2.out info31 rfl (one4 _ _ _ _) ?_)
      go_roundw
      case rel => exact ⟨j + 1, by omega, by go_num, by rw [HNX.out]; exact HL3.out, HB3.out⟩
      case measure => simp [intOf]; omega
    · obtain rfl : j = 4 := by omega
      have h1 := u64_xor_nat (itN 4 ⟨p, q, r1, s⟩).p (itN 4 ⟨p, q, r1, s⟩).q hoj.1 hoj.2.1
      have h2 := u64_xor_nat ((itN 4 ⟨p, q, r1, s⟩).p ^^^ (itN 4 ⟨p, q, r1, s⟩).q) (itN 4 ⟨p, q, r1, s⟩).r (xorN_lt hoj.1 hoj.2.1) hoj.2.2.1
      have h3 := u64_xor_nat ((itN 4 ⟨p, q, r1, s⟩).p ^^^ (itN 4 ⟨p, q, r1, s⟩).q ^^^ (itN 4 ⟨p, q, r1, s⟩).r) (itN 4 ⟨p, q, r1, s⟩).s (xorN_lt (xorN_lt hoj.1 hoj.2.1) hoj.2.2.1) hoj.2.2.2
      rw [← HE.out] at h3
      clear HNX HE HI
      generalize itN 4 ⟨p, q, r1, s⟩ = y at *
      obtain ⟨y1, y2, y3, y4⟩ := y
      obtain ⟨c0, c1, c2, c3⟩ := hl.cells
      dsimp only at h1 h2 h3
      generalize y1 ^^^ y2 = x1 at *
      generalize x1 ^^^ y3 = x2 at *
      have HB := Lib.hid hb
      clear hl hb hx1 hoj
      go_wp2_with fail
      go_ret
      exact ⟨rfl, HB.out⟩


end Go.Proofs.YtphjaebkcimklaaGreatDoor.Sip

/- Contracts of the hash: Begin, Hash: of any bytes under any seed. -/
set_option linter.unusedVariables false
set_option linter.unusedSimpArgs false
namespace Go.Proofs.YtphjaebkcimklaaGreatDoor.Sip
open Go.RowKit
attribute [local go_sem ↓] Go.wp_at_zero Go.wp_at_succ
attribute [local go_sem] max2_num min2_num maxOf_two minOf_two

theorem set4 {W : World} {b : Nat} {t : TypeId} {x : St} {a c d e : Value} (h : Lies W b t x) : ((((W.setCell ⟨b, 0, none⟩ a).setCell ⟨b, 1, none⟩ c).setCell ⟨b, 2, none⟩ d).setCell ⟨b, 3, none⟩ e).heap[b]? = some (.cells #[a, c, d, e] t (0, 0)) := by
  simp [World.setCell, Array.getElem?_modify, show W.heap[b]? = _ from h]


/-- The bytes as the cells of an array. -/
def rowOf (l : List UInt8) : Array Value := (l.map fun c => Value.int .u8 (c.toNat : Int)).toArray
theorem rowOf_size (l : List UInt8) : (rowOf l).size = l.length := by simp [rowOf]
theorem rowOf_one (l : List UInt8) : (rowOf l).all (·.oneCell') = true := by
  simp [rowOf, Value.oneCell']
theorem rowOf_at (l : List UInt8) (j : Nat) (h : j < l.length) : (rowOf l)[j]? = some (.int .u8 ((l.getD j 0).toNat : Int)) := by
  simp [rowOf, List.getElem?_map, List.getElem?_eq_getElem h, List.getD_eq_getElem?_getD]

/-- The table that a seed is laid over, where the program holds it. -/
def TabOK (w : World) : Prop := 0 < w.heap.size ∧ w.cell? ⟨0, 0, none⟩ = some (.int .u64 8317987319222330741) ∧ w.cell? ⟨0, 1, none⟩ = some (.int .u64 7237128888997146477) ∧ w.cell? ⟨0, 2, none⟩ = some (.int .u64 7816392313619706465) ∧ w.cell? ⟨0, 3, none⟩ = some (.int .u64 8387220255154660723)
theorem TabOK.below {w w1 : World} (h : TabOK w) (hb : Below w.heap.size w w1) : TabOK w1 :=
  ⟨Nat.lt_of_lt_of_le h.1 hb.size, (hb.cell h.1).trans h.2.1, (hb.cell h.1).trans h.2.2.1, (hb.cell h.1).trans h.2.2.2.1, (hb.cell h.1).trans h.2.2.2.2⟩

theorem rd_row {w : World} {b : Nat} {t : TypeId} {fr : Nat × Nat} (l : List UInt8) (o n : Nat) (hw : w.heap[b]? = some (.cells (rowOf l) t fr)) (hn : o + n ≤ l.length) (hs : n ≤ 9223372036854775807) : RdB w (some ⟨b, o, none⟩) n ((l.drop o).take n) := by
  refine ⟨by rw [List.length_take, List.length_drop]; omega, hs, fun _ => ⟨b, o, rfl, (Array.getElem?_eq_some_iff.1 hw).1, fun j hj => ?_⟩⟩
  rw [cell_of_row w b (o + j) _ _ _ hw, rowOf_at l _ (by omega)]
  simp only [List.getD_eq_getElem?_getD, List.getElem?_take, hj, if_true, List.getElem?_drop]

def beginN (l : List UInt8) : St :=
  ⟨8317987319222330741 ^^^ lowv (l.take 8), 7237128888997146477 ^^^ lowv ((l.drop 8).take 8), 7816392313619706465 ^^^ lowv (l.take 8), 8387220255154660723 ^^^ lowv ((l.drop 8).take 8)⟩
theorem lowv_take8 (l : List UInt8) : lowv (l.take 8) < 18446744073709551616 := by
  have h := lowv_lt (l.take 8)
  have h2 : (l.take 8).length ≤ 8 := by rw [List.length_take]; omega
  have h3 : 256 ^ (l.take 8).length ≤ 256 ^ 8 := Nat.pow_le_pow_right (by omega) h2
  have h4 : (256 : Nat) ^ 8 = 18446744073709551616 := by decide
  omega
theorem beginN_ok (l : List UInt8) : (beginN l).ok :=
  ⟨xorN_lt (by omega) (lowv_take8 _), xorN_lt (by omega) (lowv_take8 _), xorN_lt (by omega) (lowv_take8 _), xorN_lt (by omega) (lowv_take8 _)⟩

def bgP (l : List UInt8) : Nat → St
  | 0 => ⟨0, 0, 0, 0⟩
  | 1 => ⟨8317987319222330741 ^^^ lowv (l.take 8), 0, 0, 0⟩
  | 2 => ⟨8317987319222330741 ^^^ lowv (l.take 8), 7237128888997146477 ^^^ lowv ((l.drop 8).take 8), 0, 0⟩
  | 3 => ⟨8317987319222330741 ^^^ lowv (l.take 8), 7237128888997146477 ^^^ lowv ((l.drop 8).take 8), 7816392313619706465 ^^^ lowv (l.take 8), 0⟩
  | _ => ⟨8317987319222330741 ^^^ lowv (l.take 8), 7237128888997146477 ^^^ lowv ((l.drop 8).take 8), 7816392313619706465 ^^^ lowv (l.take 8), 8387220255154660723 ^^^ lowv ((l.drop 8).take 8)⟩
/-- So many places of the state are laid. -/
structure Begun (w W : World) (l : List UInt8) (j : Nat) : Prop where
  row : W.heap[w.heap.size]? = some (.cells (rowOf l) 31 (0, 0))
  res : Lies W (w.heap.size + 1) 148 ⟨0, 0, 0, 0⟩
  x : Lies W (w.heap.size + 1 + 1) 148 (bgP l j)
  bel : Below w.heap.size w W
theorem lies_set {W : World} {b : Nat} {t : TypeId} {p q r s : Nat} (i : Nat) (v : Nat) (y : St) (h : Lies W b t ⟨p, q, r, s⟩)
    (hy : (#[.int .u64 (p : Int), .int .u64 (q : Int), .int .u64 (r : Int), .int .u64 (s : Int)] : Array Value).setIfInBounds i (.int .u64 (v : Int)) = #[.int .u64 (y.p : Int), .int .u64 (y.q : Int), .int .u64 (y.r : Int), .int .u64 (y.s : Int)]) :
    Lies (W.setCell ⟨b, i, none⟩ (.int .u64 (v : Int))) b t y := by
  rw [setCell_eq_setRow W b i _ _ _ _ h, hy]
  exact setRow_heap W b _ _ t _ h
theorem Begun.set {w W : World} {l : List UInt8} {j : Nat} (h : Begun w W l j) (i v : Nat) (j' : Nat) (hx : Lies (W.setCell ⟨w.heap.size + 1 + 1, i, none⟩ (.int .u64 (v : Int))) (w.heap.size + 1 + 1) 148 (bgP l j')) :
    Begun w (W.setCell ⟨w.heap.size + 1 + 1, i, none⟩ (.int .u64 (v : Int))) l j' :=
  ⟨(heap_setCell_other W _ _ _ (by simp only; omega)).trans h.row, (heap_setCell_other W _ _ _ (by simp)).trans h.res, hx, h.bel.setCell (by simp only; omega) _⟩
theorem Begun.step0 {w W : World} {l : List UInt8} (h : Begun w W l 0) : Begun w (W.setCell ⟨w.heap.size + 1 + 1, 0, none⟩ (.int .u64 ((8317987319222330741 ^^^ lowv (l.take 8) : Nat) : Int))) l 1 := h.set _ _ _ (lies_set 0 _ (bgP l 1) h.x rfl)
theorem Begun.step1 {w W : World} {l : List UInt8} (h : Begun w W l 1) : Begun w (W.setCell ⟨w.heap.size + 1 + 1, 1, none⟩ (.int .u64 ((7237128888997146477 ^^^ lowv ((l.drop 8).take 8) : Nat) : Int))) l 2 := h.set _ _ _ (lies_set 1 _ (bgP l 2) h.x rfl)
theorem Begun.step2 {w W : World} {l : List UInt8} (h : Begun w W l 2) : Begun w (W.setCell ⟨w.heap.size + 1 + 1, 2, none⟩ (.int .u64 ((7816392313619706465 ^^^ lowv (l.take 8) : Nat) : Int))) l 3 := h.set _ _ _ (lies_set 2 _ (bgP l 3) h.x rfl)
theorem Begun.step3 {w W : World} {l : List UInt8} (h : Begun w W l 3) : Begun w (W.setCell ⟨w.heap.size + 1 + 1, 3, none⟩ (.int .u64 ((8387220255154660723 ^^^ lowv ((l.drop 8).take 8) : Nat) : Int))) l 4 := h.set _ _ _ (lies_set 3 _ (bgP l 4) h.x rfl)
theorem Begun.tab {w W : World} {l : List UInt8} {j : Nat} (h : Begun w W l j) (hT : TabOK w) : W.cell? ⟨0, 0, none⟩ = some (.int .u64 8317987319222330741) ∧ W.cell? ⟨0, 1, none⟩ = some (.int .u64 7237128888997146477) ∧ W.cell? ⟨0, 2, none⟩ = some (.int .u64 7816392313619706465) ∧ W.cell? ⟨0, 3, none⟩ = some (.int .u64 8387220255154660723) := (hT.below h.bel).2
theorem Begun.lt {w W : World} {l : List UInt8} {j : Nat} (h : Begun w W l j) : w.heap.size + 1 + 1 < W.heap.size := h.x.lt
theorem Begun.drewN' {w W : World} {l : List UInt8} {j : Nat} {b i : Nat} {v : Value} (h : Begun w (W.setCell ⟨b, i, none⟩ v) l j) (n : Nat) : Begun w ((W.drewN n).setCell ⟨b, i, none⟩ v) l j :=
  ⟨h.row, h.res, h.x, ⟨h.bel.os, h.bel.tape, h.bel.output, h.bel.size, h.bel.block⟩⟩

theorem info23b : (Tryz.prog.info? 31).map (·.size) = some 16 := by kernel_rfl

set_option maxHeartbeats 1600000 in
theorem begin_any (l : List UInt8) (hl : l.length = 16) (w : World) (hT : TabOK w) :
    Calls Tryz.prog 89 #[.agg (rowOf l)] w fun e w' => e = .returned (beginN l).v ∧ Below w.heap.size w w' := by
  go_enter Tryz.func89, Tryz.ntmps89
  go_wp2_with fail
  have hX := ((((Below.refl _ w).alloc (Nat.le_refl _) (.cells (rowOf l) 31)).alloc (by simp) (.cells #[.int .u64 0, .int .u64 0, .int .u64 0, .int .u64 0] 148)).alloc (by simp; omega) (.cells #[.int .u64 0, .int .u64 0, .int .u64 0, .int .u64 0] 148))
  have hA := heap_old (.cells #[.int .u64 0, .int .u64 0, .int .u64 0, .int .u64 0] 148) (heap_old (.cells #[.int .u64 0, .int .u64 0, .int .u64 0, .int .u64 0] 148) (heap_new w (.cells (rowOf l) 31)))
  have hZ1 := heap_old (.cells #[.int .u64 0, .int .u64 0, .int .u64 0, .int .u64 0] 148) (heap_new (w.alloc (.cells (rowOf l) 31)) (.cells #[.int .u64 0, .int .u64 0, .int .u64 0, .int .u64 0] 148))
  have hZ2 := heap_new ((w.alloc (.cells (rowOf l) 31)).alloc (.cells #[.int .u64 0, .int .u64 0, .int .u64 0, .int .u64 0] 148)) (.cells #[.int .u64 0, .int .u64 0, .int .u64 0, .int .u64 0] 148)
  generalize hWX : (((w.alloc (.cells (rowOf l) 31)).alloc (.cells #[.int .u64 0, .int .u64 0, .int .u64 0, .int .u64 0] 148)).alloc (.cells #[.int .u64 0, .int .u64 0, .int .u64 0, .int .u64 0] 148)) = X at *
  simp only [World.size_alloc] at hZ1 hZ2
  have HB0 : Hid (Begun w X l 0) := ⟨hA, hZ1, hZ2, hX⟩
  have HT := Lib.hid hT
  clear hA hZ1 hZ2 hX hWX hT
  have al23 : Tryz.prog.arrayLen 31 = 16 := by kernel_rfl
  have w8 : IntKind.i64.wrap 8 = 8 := by rfl
  have w16 : IntKind.i64.wrap 16 = 16 := by rfl
  go_wp2_with fail
  go_loopw [6] (fun v wr => ∃ j : Nat, j ≤ 4 ∧ v = .int .i64 j ∧ Begun w wr l j) (fun v _ => 4 - (intOf v).toNat)
  case atStart => exact ⟨0, by omega, rfl, HB0.out⟩
  case round =>
    obtain ⟨j, hj, rfl, hb⟩ := hrel
    obtain ⟨q0, q1, q2, q3⟩ := hb.tab HT.out
    have HB := Lib.hid hb
    have hw := hb.lt
    clear hb HB0
    rcases (show j = 0 ∨ j = 1 ∨ j = 2 ∨ j = 3 ∨ j = 4 by omega) with rfl | rfl | rfl | rfl | rfl
    · have hL := fun n => low_any (some ⟨w.heap.size, 0, none⟩) 8 16 _ (wr.drewN n) (rd_row l 0 8 (show (wr.drewN n).heap[w.heap.size]? = _ from HB.out.row) (by omega) (by omega))
      have ht : ((l.drop 0).take 8).take 8 = (l.take 8) := by rw [List.take_take]; simp
      rw [ht] at hL
      have HL := Lib.hid hL
      have hx := u64_xor_nat 8317987319222330741 (lowv (l.take 8)) (by omega) (lowv_take8 _)
      have HN := Lib.hid (HB.out.step0)
      generalize 8317987319222330741 ^^^ lowv (l.take 8) = z at *
      generalize lowv (l.take 8) = y at *
      obtain ⟨c0, c1, c2, c3⟩ := Lies.cells HB.out.x
      have f0 := frozen_of_row _ _ 0 _ _ HB.out.x
      clear ht hL
      rw [show ((8317987319222330741 : Nat) : Int) = 8317987319222330741 from rfl] at hx
      go_wp2_with fail
      go_region_held3 (fun w' => w'.cell? ⟨0, 0, none⟩ = some (.int .u64 8317987319222330741)) (first | exact q0 | go_keep) ((go_at_call 91; refine (HL.out 1).mono ?_; rintro e w1 ⟨rfl, rfl⟩))
      go_wp2_with fail
      go_roundw
      case rel => exact ⟨1, by omega, by go_num, HN.out.drewN' 1⟩
      case measure => simp [intOf]
    · have hL := fun n => low_any (some ⟨w.heap.size, 8, none⟩) 8 8 _ (wr.drewN n) (rd_row l 8 8 (show (wr.drewN n).heap[w.heap.size]? = _ from HB.out.row) (by omega) (by omega))
      have ht : ((l.drop 8).take 8).take 8 = ((l.drop 8).take 8) := by rw [List.take_take]; simp
      rw [ht] at hL
      have HL := Lib.hid hL
      have hx := u64_xor_nat 7237128888997146477 (lowv ((l.drop 8).take 8)) (by omega) (lowv_take8 _)
      have HN := Lib.hid (HB.out.step1)
      generalize 7237128888997146477 ^^^ lowv ((l.drop 8).take 8) = z at *
      generalize lowv ((l.drop 8).take 8) = y at *
      obtain ⟨c0, c1, c2, c3⟩ := Lies.cells HB.out.x
      have f0 := frozen_of_row _ _ 1 _ _ HB.out.x
      clear ht hL
      rw [show ((7237128888997146477 : Nat) : Int) = 7237128888997146477 from rfl] at hx
      go_wp2_with fail
      go_region_held3 (fun w' => w'.cell? ⟨0, 1, none⟩ = some (.int .u64 7237128888997146477)) (first | exact q1 | go_keep) ((go_at_call 91; refine (HL.out 1).mono ?_; rintro e w1 ⟨rfl, rfl⟩))
      go_wp2_with fail
      go_roundw
      case rel => exact ⟨2, by omega, by go_num, HN.out.drewN' 1⟩
      case measure => simp [intOf]
    · have hL := fun n => low_any (some ⟨w.heap.size, 0, none⟩) 8 16 _ (wr.drewN n) (rd_row l 0 8 (show (wr.drewN n).heap[w.heap.size]? = _ from HB.out.row) (by omega) (by omega))
      have ht : ((l.drop 0).take 8).take 8 = (l.take 8) := by rw [List.take_take]; simp
      rw [ht] at hL
      have HL := Lib.hid hL
      have hx := u64_xor_nat 7816392313619706465 (lowv (l.take 8)) (by omega) (lowv_take8 _)
      have HN := Lib.hid (HB.out.step2)
      generalize 7816392313619706465 ^^^ lowv (l.take 8) = z at *
      generalize lowv (l.take 8) = y at *
      obtain ⟨c0, c1, c2, c3⟩ := Lies.cells HB.out.x
      have f0 := frozen_of_row _ _ 2 _ _ HB.out.x
      clear ht hL
      rw [show ((7816392313619706465 : Nat) : Int) = 7816392313619706465 from rfl] at hx
      go_wp2_with fail
      go_region_held3 (fun w' => w'.cell? ⟨0, 2, none⟩ = some (.int .u64 7816392313619706465)) (first | exact q2 | go_keep) ((go_at_call 91; refine (HL.out 1).mono ?_; rintro e w1 ⟨rfl, rfl⟩))
      go_wp2_with fail
      go_roundw
      case rel => exact ⟨3, by omega, by go_num, HN.out.drewN' 1⟩
      case measure => simp [intOf]
    · have hL := fun n => low_any (some ⟨w.heap.size, 8, none⟩) 8 8 _ (wr.drewN n) (rd_row l 8 8 (show (wr.drewN n).heap[w.heap.size]? = _ from HB.out.row) (by omega) (by omega))
      have ht : ((l.drop 8).take 8).take 8 = ((l.drop 8).take 8) := by rw [List.take_take]; simp
      rw [ht] at hL
      have HL := Lib.hid hL
      have hx := u64_xor_nat 8387220255154660723 (lowv ((l.drop 8).take 8)) (by omega) (lowv_take8 _)
      have HN := Lib.hid (HB.out.step3)
      generalize 8387220255154660723 ^^^ lowv ((l.drop 8).take 8) = z at *
      generalize lowv ((l.drop 8).take 8) = y at *
      obtain ⟨c0, c1, c2, c3⟩ := Lies.cells HB.out.x
      have f0 := frozen_of_row _ _ 3 _ _ HB.out.x
      clear ht hL
      rw [show ((8387220255154660723 : Nat) : Int) = 8387220255154660723 from rfl] at hx
      go_wp2_with fail
      go_region_held3 (fun w' => w'.cell? ⟨0, 3, none⟩ = some (.int .u64 8387220255154660723)) (first | exact q3 | go_keep) ((go_at_call 91; refine (HL.out 1).mono ?_; rintro e w1 ⟨rfl, rfl⟩))
      go_wp2_with fail
      go_roundw
      case rel => exact ⟨4, by omega, by go_num, HN.out.drewN' 1⟩
      case measure => simp [intOf]
    · obtain ⟨c0, c1, c2, c3⟩ := Lies.cells HB.out.x
      obtain ⟨z0, z1, z2, z3⟩ := Lies.cells HB.out.res
      have f0 := frozen_of_row _ _ 0 _ _ HB.out.res
      have f1 := frozen_of_row _ _ 1 _ _ HB.out.res
      have f2 := frozen_of_row _ _ 2 _ _ HB.out.res
      have f3 := frozen_of_row _ _ 3 _ _ HB.out.res
      have hfin := set4 (a := .int .u64 ((8317987319222330741 ^^^ lowv (l.take 8) : Nat) : Int)) (c := .int .u64 ((7237128888997146477 ^^^ lowv ((l.drop 8).take 8) : Nat) : Int)) (d := .int .u64 ((7816392313619706465 ^^^ lowv (l.take 8) : Nat) : Int)) (e := .int .u64 ((8387220255154660723 ^^^ lowv ((l.drop 8).take 8) : Nat) : Int)) HB.out.res
      have HF := Lib.hid hfin
      clear hfin q0 q1 q2 q3
      have HV : Hid ((beginN l).v = .agg #[.int .u64 ((8317987319222330741 ^^^ lowv (l.take 8) : Nat) : Int), .int .u64 ((7237128888997146477 ^^^ lowv ((l.drop 8).take 8) : Nat) : Int), .int .u64 ((7816392313619706465 ^^^ lowv (l.take 8) : Nat) : Int), .int .u64 ((8387220255154660723 ^^^ lowv ((l.drop 8).take 8) : Nat) : Int)]) := rfl
      generalize 8317987319222330741 ^^^ lowv (l.take 8) = x0 at *
      generalize 7237128888997146477 ^^^ lowv ((l.drop 8).take 8) = x1 at *
      generalize 7816392313619706465 ^^^ lowv (l.take 8) = x2 at *
      generalize 8387220255154660723 ^^^ lowv ((l.drop 8).take 8) = x3 at *
      go_wp2_with fail
      exact bodyPost_ret (results_cell_row rfl _ _ (w.heap.size + 1) 148 _ (0, 0) _ (by rfl) HF.out Tryz.underlying148 rfl info31) rfl ⟨by rw [HV.out], (((HB.out.bel.setCell (p := ⟨w.heap.size + 1, 0, none⟩) (by simp) _).setCell (p := ⟨w.heap.size + 1, 1, none⟩) (by simp) _).setCell (p := ⟨w.heap.size + 1, 2, none⟩) (by simp) _).setCell (p := ⟨w.heap.size + 1, 3, none⟩) (by simp) _⟩



def eat (k : List UInt8) : Nat → St → St
  | 0, x => x
  | j + 1, x => takeN (eat k j x) (lowv ((k.drop (8 * j)).take 8))
theorem eat_ok (k : List UInt8) (x : St) (h : x.ok) : ∀ j, (eat k j x).ok
  | 0 => h
  | j + 1 => takeN_ok _ _ (eat_ok k x h j) (lowv_take8 _)
/-- The number of the length. -/
def lenN (k : List UInt8) : Nat := k.length % 256 * 72057594037927936
def lastN (k : List UInt8) : Nat := lenN k ||| lowv ((k.drop (8 * (k.length / 8))).take 8)
theorem lastN_lt (k : List UInt8) : lastN k < 18446744073709551616 := by
  unfold lastN lenN
  exact Nat.or_lt_two_pow (n := 64) (by omega) (lowv_take8 _)
def hashN (s k : List UInt8) : Nat := endN (takeN (eat k (k.length / 8) (beginN s)) (lastN k))

theorem lies_put {W : World} {b : Nat} {t : TypeId} {x : St} (h : Lies W b t x) (y : St) : Lies ((((W.setCell ⟨b, 0, none⟩ (.int .u64 (y.p : Int))).setCell ⟨b, 1, none⟩ (.int .u64 (y.q : Int))).setCell ⟨b, 2, none⟩ (.int .u64 (y.r : Int))).setCell ⟨b, 3, none⟩ (.int .u64 (y.s : Int))) b t y := set4 h
def sliceLen : Value → Nat
  | .slice _ n _ => n
  | _ => 0
theorem RdB.below {w w1 : World} {A : Option Addr} {n : Nat} {l : List UInt8} (h : RdB w A n l) (hb : Below w.heap.size w w1) : RdB w1 A n l := by
  refine ⟨h.len, h.le, fun hn => ?_⟩
  obtain ⟨b, o, e, hlt, hc⟩ := h.cell hn
  exact ⟨b, o, e, Nat.lt_of_lt_of_le hlt hb.size, fun j hj => (hb.cell (p := ⟨b, o + j, none⟩) hlt).trans (hc j hj)⟩
theorem RdB.belowN {w w1 : World} {A : Option Addr} {n N : Nat} {l : List UInt8} (h : RdB w A n l) (hN : w.heap.size ≤ N) {w0 : World} (hb : Below N w0 w1) (h0 : Below w.heap.size w w0) : RdB w1 A n l :=
  h.below (h0.trans (hb.mono hN))
theorem RdB.drew {w : World} {A : Option Addr} {n : Nat} {l : List UInt8} (h : RdB w A n l) : RdB w.drew A n l := ⟨h.len, h.le, h.cell⟩
theorem RdB.next {w : World} {b o n : Nat} {l : List UInt8} (h : RdB w (some ⟨b, o, none⟩) n l) (A : Option Addr) (hA : 8 < n → A = some ⟨b, o + 8, none⟩) (hn : 8 ≤ n) : RdB w A (n - 8) (l.drop 8) := by
  have := h.len
  have := h.le
  refine ⟨by rw [List.length_drop]; omega, by omega, fun h0 => ?_⟩
  obtain ⟨b', o', e, hlt, hc⟩ := h.cell (by omega)
  obtain ⟨rfl, rfl⟩ : b = b' ∧ o = o' := by injection e with e; injection e with e1 e2; exact ⟨e1, e2⟩
  refine ⟨b, o + 8, hA (by omega), hlt, fun j hj => ?_⟩
  rw [Nat.add_assoc, hc _ (by omega)]
  simp only [List.getD_eq_getElem?_getD, List.getElem?_drop]

set_option maxRecDepth 100000 in
set_option maxHeartbeats 3200000 in
theorem hash_any (s : List UInt8) (hs : s.length = 16) (A : Option Addr) (n c : Nat) (k : List UInt8) (w : World) (hT : TabOK w) (hR : RdB w A n k) (hc : n ≤ c) :
    Calls Tryz.prog 76 #[.agg (rowOf s), .slice A n c] w fun e w' => e = .returned (.int .u64 (hashN s k : Nat)) ∧ Below w.heap.size w w' := by
  have hlen := hR.len
  have hle := hR.le
  have HL : Hid (((n : Int) % 256 * 72057594037927936) = (lenN k : Nat)) := (by unfold lenN; rw [hlen]; simp : ((n : Int) % 256 * 72057594037927936) = (lenN k : Nat))
  have HSZ : Hid ((Tryz.prog.info? 31).map (·.size) = some (rowOf s).size) := info23b.trans (by rw [rowOf_size, hs])
  have X0 := heap_new w (.cells (rowOf s) 31)
  have HX := Lib.hid X0
  have HBX := Lib.hid ((Below.refl _ w).alloc (Nat.le_refl _) (.cells (rowOf s) 31))
  have HBG := Lib.hid (begin_any s hs _ (hT.below ((Below.refl _ w).alloc (Nat.le_refl _) (.cells (rowOf s) 31))))
  have HRd := Lib.hid hR
  clear X0 hT hR
  go_enter Tryz.func76, Tryz.ntmps76
  go_wp2_with (refine wpList_load_row rfl 31 _ rfl w.heap.size (by rfl) 31 (rowOf s) (0, 0) _ HX.out Tryz.underlying31 rfl HSZ.out ?_)
  refine HBG.out.mono ?_
  rintro e w1 ⟨rfl, hb1⟩
  have hbw := HBX.out.trans (hb1.mono HBX.out.size)
  have hsw := hbw.size
  have hsw := hbw.size
  have hsw := hbw.size
  have hx1 : Lies (w1.alloc (.cells #[.int .u64 ((beginN s).p : Int), .int .u64 ((beginN s).q : Int), .int .u64 ((beginN s).r : Int), .int .u64 ((beginN s).s : Int)] 148)) w1.heap.size 148 (beginN s) := heap_new w1 _
  have hbx := hbw.alloc hsw (.cells #[.int .u64 ((beginN s).p : Int), .int .u64 ((beginN s).q : Int), .int .u64 ((beginN s).r : Int), .int .u64 ((beginN s).s : Int)] 148)
  have HX2 := Lib.hid hx1
  have HBX2 := Lib.hid hbx
  have HSW := Lib.hid hsw
  have HOK := Lib.hid (fun j => eat_ok k (beginN s) (beginN_ok s) j)
  clear hx1 hbx hb1 hbw
  simp only [St.v]
  go_wp2_with fail
  rw [HL.out]
  go_loopw [1] (fun v wr => ∃ (j : Nat) (A' : Option Addr) (n' c' : Nat), v = .slice A' n' c' ∧ n' ≤ c' ∧ 8 * j + n' = n ∧ RdB w A' n' (k.drop (8 * j)) ∧ Lies wr w1.heap.size 148 (eat k j (beginN s)) ∧ Below w.heap.size w wr) (fun v _ => sliceLen v)
  case atStart => exact ⟨0, A, n, c, rfl, hc, by omega, HRd.out, HX2.out, HBX2.out⟩
  case round =>
    obtain ⟨j, A', n', c', rfl, hc', hjn, hR, hl, hb⟩ := hrel
    have hok := HOK.out j
    have HNX : Hid (eat k (j + 1) (beginN s) = takeN (eat k j (beginN s)) (lowv ((k.drop (8 * j)).take 8))) := rfl
    have hLow := fun w2 (h : Below w.heap.size w w2) => low_any A' n' c' _ w2 (hR.below h)
    have hm := lowv_take8 (k.drop (8 * j))
    have hle' := hR.le
    by_cases hlt : 8 ≤ n'
    · have hTk := fun w => take_any _ _ w hok hm
      have hok2 := takeN_ok _ _ hok hm
      generalize eat k j (beginN s) = y at *
      generalize lowv ((k.drop (8 * j)).take 8) = m at *
      generalize hz : takeN y m = z at *
      obtain ⟨y1, y2, y3, y4⟩ := y
      obtain ⟨z1, z2, z3, z4⟩ := z
      obtain ⟨b, o, rfl, hbl, hcell⟩ := hR.cell (by omega)
      obtain ⟨c0, c1, c2, c3⟩ := hl.cells
      have HL1 := Lib.hid hl
      have HB1 := Lib.hid hb
      have HR1 := Lib.hid hR
      have HTk := Lib.hid hTk
      have HLow := Lib.hid hLow
      have HJ := Lib.hid hjn
      clear hl hb hR hTk hcell hok hok2 hLow hlen hz HX2 HBX2 HOK hjn
      simp only [St.v] at HTk
      go_wp2_with fail
      go_region_with (first
          | (go_at_call 91; refine (HLow.out _ HB1.out.drew).mono ?_; rintro e wa ⟨rfl, rfl⟩)
          | (go_at_call 90; refine (HTk.out _).mono ?_; rintro e wb ⟨rfl, hb2⟩; have HL2 : Hid (Lies wb w1.heap.size 148 ⟨y1, y2, y3, y4⟩) := (HL1.out.below (W' := wb) ⟨hb2.os, hb2.tape, hb2.output, hb2.size, hb2.block⟩ HL1.out.lt); have HB2 : Hid (Below w.heap.size w wb) := (HB1.out.trans ((⟨hb2.os, hb2.tape, hb2.output, hb2.size, hb2.block⟩ : Below wr.heap.size wr wb).mono HB1.out.size)); clear hb2; obtain ⟨d0, d1, d2, d3⟩ := HL2.out.cells; have f0 := frozen_of_row _ _ 0 _ _ HL2.out; have f1 := frozen_of_row _ _ 1 _ _ HL2.out; have f2 := frozen_of_row _ _ 2 _ _ HL2.out; have f3 := frozen_of_row _ _ 3 _ _ HL2.out))
      all_goals (go_wp2_with fail)
      all_goals (
        go_roundw
        case rel =>
          have hN := HR1.out.next (if c' = 8 then some ⟨b, o, none⟩ else some ⟨b, o + 8, none⟩) (fun h8 => by rw [if_neg (by omega)]) hlt
          rw [List.drop_drop, show 8 * j + 8 = 8 * (j + 1) by omega] at hN
          exact ⟨j + 1, _, n' - 8, c' - 8, rfl, by omega, by have := HJ.out; omega, hN, by rw [HNX.out]; exact lies_put HL2.out ⟨z1, z2, z3, z4⟩,
            (((HB2.out.setCell (p := ⟨w1.heap.size, 0, none⟩) HSW.out _).setCell (p := ⟨w1.heap.size, 1, none⟩) HSW.out _).setCell (p := ⟨w1.heap.size, 2, none⟩) HSW.out _).setCell (p := ⟨w1.heap.size, 3, none⟩) HSW.out _⟩
        case measure => simp only [sliceLen]; omega)
    · obtain rfl : j = n / 8 := by omega
      have hHN : hashN s k = endN (takeN (eat k (n / 8) (beginN s)) (lastN k)) := by unfold hashN; rw [hlen]
      have hLN : lastN k = lenN k ||| lowv ((k.drop (8 * (n / 8))).take 8) := by unfold lastN; rw [hlen]
      have hor := u64_or_nat (lenN k) (lowv ((k.drop (8 * (n / 8))).take 8)) (by unfold lenN; omega) hm
      rw [← hLN] at hor
      have hlk := lastN_lt k
      have hTk := fun w => take_any _ _ w hok hlk
      have hok2 := takeN_ok _ _ hok hlk
      have hEn := fun w => end_any _ w hok2
      rw [← hHN] at hEn
      have HHN := Lib.hid hHN
      generalize eat k (n / 8) (beginN s) = y at *
      generalize lastN k = lk at *
      generalize hz : takeN y lk = z at *
      obtain ⟨y1, y2, y3, y4⟩ := y
      obtain ⟨z1, z2, z3, z4⟩ := z
      obtain ⟨c0, c1, c2, c3⟩ := hl.cells
      have HL1 := Lib.hid hl
      have HB1 := Lib.hid hb
      have HTk := Lib.hid hTk
      have HLow := Lib.hid hLow
      have HEn := Lib.hid hEn
      clear hl hb hR hTk hok hok2 hLow hlen hz HX2 HBX2 HOK hjn hHN hLN hEn HNX
      generalize lowv ((k.drop (8 * (n / 8))).take 8) = m at *
      simp only [St.v] at HTk HEn
      go_wp2_with fail
      go_region_held3 (fun w' => w'.cell? ⟨w1.heap.size, 0, none⟩ = some (.int .u64 (y1 : Int)) ∧ w'.cell? ⟨w1.heap.size, 1, none⟩ = some (.int .u64 (y2 : Int)) ∧ w'.cell? ⟨w1.heap.size, 2, none⟩ = some (.int .u64 (y3 : Int)) ∧ w'.cell? ⟨w1.heap.size, 3, none⟩ = some (.int .u64 (y4 : Int)))
        (first | exact ⟨c0, c1, c2, c3⟩ | with_reducible exact HL3.out.cells | with_reducible exact HL2.out.cells | go_keep)
        (first
          | (go_at_call 91; refine (HLow.out _ HB1.out.drew).mono ?_; rintro e wa ⟨rfl, rfl⟩)
          | (go_at_call 90; refine (HTk.out _).mono ?_; rintro e wb ⟨rfl, hb2⟩; have HL2 : Hid (Lies wb w1.heap.size 148 ⟨y1, y2, y3, y4⟩) := (HL1.out.below (W' := wb) ⟨hb2.os, hb2.tape, hb2.output, hb2.size, hb2.block⟩ HL1.out.lt); have HB2 : Hid (Below w.heap.size w wb) := (HB1.out.trans ((⟨hb2.os, hb2.tape, hb2.output, hb2.size, hb2.block⟩ : Below wr.heap.size wr wb).mono HB1.out.size)); clear hb2)
          | (go_at_call 92; refine (HEn.out _).mono ?_; rintro e wd ⟨rfl, hb3⟩; have HL3 : Hid (Lies wd w1.heap.size 148 ⟨y1, y2, y3, y4⟩) := (HL2.out.below hb3 HL2.out.lt); have HB3 : Hid (Below w.heap.size w wd) := (HB2.out.trans (hb3.mono HB2.out.size)); clear hb3))
      go_wp2_with fail
      go_ret
      exact ⟨rfl, HB3.out⟩


end Go.Proofs.YtphjaebkcimklaaGreatDoor.Sip

/- Rows of cells: a part of a row is read, written; a struct is built of two parts. -/
set_option linter.unusedVariables false
set_option linter.unusedSimpArgs false
namespace Go.Proofs.YtphjaebkcimklaaGreatDoor
open Go.RowKit

section
variable {P : Program}
theorem addA (g off i : Nat) : (⟨g, off, none⟩ : Addr).add i = ⟨g, off + i, none⟩ := by unfold Addr.add; split <;> simp_all
theorem run_loadVar_sub (w : World) (g off n : Nat) (t ty : TypeId) (cs sub : Array Value) (fr : Nat × Nat) (d : TypeDesc) (hg : w.heap[g]? = some (.cells cs t fr))
    (hu : P.underlying ty = some d) (hd : (match d with | .struct _ | .array _ _ => true | _ => false) = true) (hi : (P.info? ty).map (·.size) = some n) (hn : sub.size = n) (hs : ∀ j, j < n → cs[off + j]? = sub[j]?) :
    (loadVar ty ⟨g, off, none⟩).run P w = .ok (.agg sub) w := by
  have hl : (loadCells ⟨g, off, none⟩ sub.toList.length).run P w = .ok sub.toList.toArray w :=
    run_loadCells_list (P := P) w ⟨g, off, none⟩ sub.toList (fun j v hv => by
      rw [Array.getElem?_toList] at hv
      have hj : j < n := by rw [← hn]; exact (Array.getElem?_eq_some_iff.1 hv).1
      rw [addA, cell_of_row w g (off + j) _ _ _ hg, hs j hj, hv])
  cases hq : P.info? ty with
  | none => simp [hq] at hi
  | some i =>
    have hs : i.size = sub.size := by rw [hq] at hi; simp at hi; omega
    have hagg : (isAgg ty).run P w = .ok true w := by
      unfold isAgg
      rw [Sem.run_bind, run_underlying hu w]
      cases d <;> simp_all
    simp only [Array.length_toList, Array.toArray_toList] at hl
    simp [loadVar, Sem.run_bind, hagg, sizeOf, typeInfo, hq, hs, hl]

/-- Cells written one by one. -/
def setL (cur : Array Value) (k : Nat) : List Value → Array Value
  | [] => cur
  | v :: vs => setL (cur.setIfInBounds k v) (k + 1) vs
theorem setL_size : ∀ (vs : List Value) (cur : Array Value) (k : Nat), (setL cur k vs).size = cur.size
  | [], _, _ => rfl
  | v :: vs, cur, k => by rw [setL, setL_size vs]; simp
theorem setL_get : ∀ (vs : List Value) (cur : Array Value) (k j : Nat), k + vs.length ≤ cur.size → (setL cur k vs)[j]? = if k ≤ j ∧ j < k + vs.length then vs[j - k]? else cur[j]?
  | [], cur, k, j, _ => by rw [setL, if_neg (by simp only [List.length_nil]; omega)]
  | v :: vs, cur, k, j, h => by
    simp only [List.length_cons] at h ⊢
    rw [setL, setL_get vs _ _ _ (by simp; omega)]
    by_cases h1 : k + 1 ≤ j ∧ j < k + 1 + vs.length
    · rw [if_pos h1, if_pos (by omega)]
      rw [show j - k = (j - (k + 1)) + 1 by omega, List.getElem?_cons_succ]
    · rw [if_neg h1]
      by_cases h2 : j = k
      · subst h2
        rw [if_pos (by omega), Array.getElem?_setIfInBounds, if_pos rfl, if_pos (by omega)]
        simp
      · rw [if_neg (by omega), Array.getElem?_setIfInBounds, if_neg (by omega)]
theorem setRow_same (w : World) (g : Nat) (cur : Array Value) (t : TypeId) (fr : Nat × Nat) (hg : w.heap[g]? = some (.cells cur t fr)) : w.setRow g cur = w := by
  have hlt : g < w.heap.size := (Array.getElem?_eq_some_iff.1 hg).1
  have hv : w.heap[g] = .cells cur t fr := (Array.getElem?_eq_some_iff.1 hg).2
  unfold World.setRow
  cases w with
  | mk heap tape drawn os output =>
    congr 1
    apply Array.ext
    · simp
    · intro k h1 h2
      simp only [Array.getElem_modify]
      split
      · rename_i hk; subst hk; simp at hv; simp [hv]
      · rfl
theorem run_storeCells_sub (g off : Nat) (t : TypeId) : ∀ (vs : List Value) (i : Nat) (cur : Array Value) (w : World), w.heap[g]? = some (.cells cur t (0, 0)) → off + i + vs.length ≤ cur.size → (∀ v ∈ vs, v.oneCell' = true) →
    (storeCells ⟨g, off, none⟩ vs i).run P w = .ok () (w.setRow g (setL cur (off + i) vs))
  | [], i, cur, w, hg, hl, _ => by
    simp only [storeCells, setL]
    rw [setRow_same w g cur t _ hg]
    rfl
  | v :: rest, i, cur, w, hg, hl, h1 => by
    have hi : off + i < cur.size := by simp at hl; omega
    have hcell : w.cell? ⟨g, off + i, none⟩ = some cur[off + i] := by simp [World.cell?, hg, hi]
    have hfro : w.frozen? ⟨g, off + i, none⟩ = false := by simp [World.frozen?, hg]
    have hst : (store ((⟨g, off, none⟩ : Addr).add i) v).run P w = .ok () (w.setRow g (cur.setIfInBounds (off + i) v)) := by
      rw [addA, run_store P w _ v _ (h1 v (by simp)), hcell]
      simp [hfro, setCell_eq_setRow w g (off + i) cur t (0, 0) v hg]
    have ih := run_storeCells_sub g off t rest (i + 1) (cur.setIfInBounds (off + i) v) (w.setRow g (cur.setIfInBounds (off + i) v)) (setRow_heap w g cur _ t _ hg) (by simp at hl ⊢; first | done | omega) (fun x hx => h1 x (by simp [hx]))
    simp only [storeCells, Sem.run_bind, hst, Result.andThen_ok, ih, setRow_setRow, setL, Nat.add_assoc]
theorem run_storeVar_sub (w : World) (g off : Nat) (t ty : TypeId) (old cells : Array Value) (hg : w.heap[g]? = some (.cells old t (0, 0))) (hi : (P.info? ty).map (·.size) = some cells.size)
    (ho : off + cells.size ≤ old.size) (h1 : cells.all (·.oneCell') = true) :
    (storeVar ty ⟨g, off, none⟩ (.agg cells)).run P w = .ok () (w.setRow g (setL old off cells.toList)) := by
  have := run_storeCells_sub (P := P) g off t cells.toList 0 old w hg (by simp; omega) (fun v hv => (Array.all_eq_true_iff_forall_mem.1 h1) v (by simpa using hv))
  cases hq : P.info? ty with
  | none => simp [hq] at hi
  | some i =>
    have hs : cells.size = i.size := by simp [hq] at hi; omega
    simp [storeVar, sizeOf, typeInfo, hq, Value.cells, hs, this]

/-- An operation whose run is known: that yields a value; that writes. -/
theorem wp_run {o : Oper} {a : Act} {w w1 : World} {v : Value} {K : Act → World → Prop} {Q : Exit → Act → World → Prop} (hrun : (execOp a.eval o).run P w = .ok (.value v) w1) (h : K (a.put o.dst v) w1) : o.wp P a w K Q := by
  unfold Oper.wp; rw [hrun]; exact h
theorem wp_skip {o : Oper} {a : Act} {w w1 : World} {K : Act → World → Prop} {Q : Exit → Act → World → Prop} (hrun : (execOp a.eval o).run P w = .ok .skip w1) (h : K (a.put o.dst undef) w1) : o.wp P a w K Q := by
  unfold Oper.wp; rw [hrun]; exact h
theorem exec_load {o : Oper} {a : Act} {w : World} {v : Value} {A : Addr} (ty : TypeId) (x : Operand) (ho : o.op = .load ty x) (hx : a.eval x = .pointer (some A)) (hr : (loadVar ty A).run P w = .ok v w) : (execOp a.eval o).run P w = .ok (.value v) w := by
  unfold execOp
  simp only [ho, hx, Instr.loadAt, Instr.sureAddr, Sem.run_bind, Sem.run_pure, Result.andThen_ok, hr]
theorem exec_store {o : Oper} {a : Act} {w w1 : World} {A : Addr} (ty : TypeId) (x y : Operand) (ho : o.op = .store ty x y) (hx : a.eval x = .pointer (some A)) (hr : (storeVar ty A (a.eval y)).run P w = .ok () w1) : (execOp a.eval o).run P w = .ok .skip w1 := by
  unfold execOp
  simp only [ho, hx, Instr.storeAt, Instr.sureAddr, Sem.run_bind, Sem.run_pure, Result.andThen_ok, hr]
theorem exec_build {o : Oper} {a : Act} {w : World} {cells : Array Value} (t : TypeId) (parts : Array (Nat × Operand)) (L : List (Nat × Value)) (ho : o.op = .build t parts)
    (hL : parts.toList.map (fun p => (p.1, a.eval p.2)) = L) (hb : P.built t L = some cells) : (execOp a.eval o).run P w = .ok (.value (.agg cells)) w := by
  have hb2 : P.built t (parts.map fun (i, x) => (i, a.eval x)).toList = some cells := by
    rw [Array.toList_map]
    rw [← hL] at hb
    exact hb
  unfold execOp
  simp only [ho, Sem.run_bind, Sem.run_pure, run_build w t _ cells hb2, Result.andThen_ok]
theorem wpList_run {ops : Array Oper} {rest : List Oper} {o : Oper} {a : Act} {w w1 : World} {v : Value} {Q : Exit → Act → World → Prop} (hgd : o.guard = none) (hrun : (execOp a.eval o).run P w = .ok (.value v) w1) (h : wpList P ops Q rest (a.put o.dst v) w1) : wpList P ops Q (o :: rest) a w :=
  wpList_plain hgd fun _ hK => wp_run hrun (hK _ _ h)
theorem wpList_skip {ops : Array Oper} {rest : List Oper} {o : Oper} {a : Act} {w w1 : World} {Q : Exit → Act → World → Prop} (hgd : o.guard = none) (hrun : (execOp a.eval o).run P w = .ok .skip w1) (h : wpList P ops Q rest (a.put o.dst undef) w1) : wpList P ops Q (o :: rest) a w :=
  wpList_plain hgd fun _ hK => wp_skip hrun (hK _ _ h)
theorem step_run {ops : Array Oper} {o : Oper} {a : Act} {w w1 : World} {v : Value} {K : Act → World → Prop} {Q : Exit → Act → World → Prop} {E : Prop} (hgd : o.guard = none) (hrun : (execOp a.eval o).run P w = .ok (.value v) w1) (h : K (a.put o.dst v) w1) :
    if Region.wanted o (yielded ops a.tmps) = true then Oper.wp P o a w K Q else E := by
  have hw : Region.wanted o (yielded ops a.tmps) = true := by simp [Region.wanted, hgd]
  rw [if_pos hw]
  exact wp_run hrun h
theorem step_skip {ops : Array Oper} {o : Oper} {a : Act} {w w1 : World} {K : Act → World → Prop} {Q : Exit → Act → World → Prop} {E : Prop} (hgd : o.guard = none) (hrun : (execOp a.eval o).run P w = .ok .skip w1) (h : K (a.put o.dst undef) w1) :
    if Region.wanted o (yielded ops a.tmps) = true then Oper.wp P o a w K Q else E := by
  have hw : Region.wanted o (yielded ops a.tmps) = true := by simp [Region.wanted, hgd]
  rw [if_pos hw]
  exact wp_skip hrun h
end

/-! ### Tries and charts as values -/
abbrev z35 : Array Value := #[.int .u8 0, .int .u8 0, .int .u8 0, .int .u8 0, .int .u8 0, .int .u8 0, .int .u8 0, .int .u8 0, .int .u8 0, .int .u8 0, .int .u8 0, .int .u8 0, .int .u8 0, .int .u8 0, .int .u8 0, .int .u8 0, .nilIface]
abbrev z38 : Array Value := #[.int .u8 0, .int .u8 0, .int .u8 0, .int .u8 0, .int .u8 0, .int .u8 0, .int .u8 0, .int .u8 0, .int .u8 0, .int .u8 0, .int .u8 0, .int .u8 0, .int .u8 0, .int .u8 0, .int .u8 0, .int .u8 0, .nilIface, .pointer none]
theorem built35_eq (parts : List (Nat × Value)) : Tryz.prog.built 35 parts = Instr.fill ((#[(0, 16), (16, 1)] : Array (Nat × Nat))[·]?) z35 parts := by kernel_rfl
theorem built38_eq (parts : List (Nat × Value)) : Tryz.prog.built 38 parts = Instr.fill ((#[(0, 17), (17, 1)] : Array (Nat × Nat))[·]?) z38 parts := by kernel_rfl

theorem fold_set : ∀ (l : List Value) (off k : Nat) (cells : Array Value), ((l.zipIdx k).foldl (fun cs (x : Value × Nat) => cs.setIfInBounds (off + x.2) x.1) cells) = setL cells (off + k) l
  | [], _, _, _ => rfl
  | v :: l, off, k, cells => by
    rw [List.zipIdx_cons, List.foldl_cons, setL]
    exact fold_set l off (k + 1) _

theorem fill_eq (place : Nat → Option (Nat × Nat)) (cells c : Array Value) (i : Nat) (v : Value) (rest : List (Nat × Value)) (off : Nat) (hc : v.cells = c) (hp : place i = some (off, c.size)) (hs : off + c.size ≤ cells.size) :
    Instr.fill place cells ((i, v) :: rest) = Instr.fill place (setL cells off c.toList) rest := by
  subst hc
  conv => lhs; unfold Instr.fill
  rw [hp]
  simp only [ne_eq, not_true_eq_false, decide_false, Bool.false_or, gt_iff_lt, decide_eq_true_eq]
  rw [if_neg (by omega), ← Array.foldl_toList, Array.toList_zipIdx, fold_set]
  rfl
theorem fill_nil (place : Nat → Option (Nat × Nat)) (cells : Array Value) : Instr.fill place cells [] = some cells := rfl
theorem fill_one (place : Nat → Option (Nat × Nat)) (z A : Array Value) (n : Nat) (x : Value) (hA : A.size = n) (hz : z.size = n + 1) (hx : z[n]? = some x) (hp : place 0 = some (0, n)) : Instr.fill place z [(0, .agg A)] = some (A.push x) := by
  subst hA
  rw [fill_eq place z A 0 (.agg A) [] 0 rfl hp (by omega), fill_nil]
  congr 1
  apply Array.ext_getElem?
  intro j
  rw [setL_get _ _ _ _ (by rw [Array.length_toList]; omega), Array.getElem?_push, Array.length_toList]
  by_cases h1 : j < A.size
  · rw [if_pos (by omega), if_neg (by omega), Nat.sub_zero, Array.getElem?_toList]
  · rw [if_neg (by omega)]
    by_cases h2 : j = A.size
    · subst h2; rw [if_pos rfl, hx]
    · rw [if_neg h2, Array.getElem?_eq_none (by omega), Array.getElem?_eq_none (by omega)]
theorem fill_two (place : Nat → Option (Nat × Nat)) (z A : Array Value) (n : Nat) (v : Value) (hA : A.size = n) (hz : z.size = n + 1) (hv : v.cells = #[v]) (hp : place 0 = some (0, n)) (hp1 : place 1 = some (n, 1)) : Instr.fill place z [(0, .agg A), (1, v)] = some (A.push v) := by
  subst hA
  rw [fill_eq place z A 0 (.agg A) [(1, v)] 0 rfl hp (by omega), fill_eq place (setL z 0 A.toList) #[v] 1 v [] A.size hv hp1 (by rw [setL_size]; show A.size + 1 ≤ _; omega), fill_nil]
  congr 1
  apply Array.ext_getElem?
  intro j
  rw [setL_get _ _ _ _ (by rw [setL_size]; show A.size + 1 ≤ _; omega), setL_get _ _ _ _ (by rw [Array.length_toList]; omega), Array.getElem?_push]
  simp only [Array.length_toList]
  show (if A.size ≤ j ∧ j < A.size + 1 then [v][j - A.size]? else _) = _
  by_cases h2 : j = A.size
  · subst h2; rw [if_pos (by omega), if_pos rfl]; simp
  · rw [if_neg (by omega), if_neg h2]
    by_cases h1 : j < A.size
    · rw [if_pos (by omega), Nat.sub_zero, Array.getElem?_toList]
    · rw [if_neg (by omega), Array.getElem?_eq_none (by omega), Array.getElem?_eq_none (by omega)]

def trA (sd : Array Value) (u : Value) : Array Value := sd.push u
def chA (sd : Array Value) (u p : Value) : Array Value := (sd.push u).push p
theorem trA_size {sd : Array Value} {u : Value} (h : sd.size = 16) : (trA sd u).size = 17 := by simp [trA, h]
theorem chA_size {sd : Array Value} {u p : Value} (h : sd.size = 16) : (chA sd u p).size = 18 := by simp [chA, h]
theorem trA_get {sd : Array Value} {u : Value} (h : sd.size = 16) : (trA sd u)[16]? = some u := by rw [trA, Array.getElem?_push, if_pos h.symm]
theorem chA_get {sd : Array Value} {u p : Value} (h : sd.size = 16) : (chA sd u p)[16]? = some u ∧ (chA sd u p)[17]? = some p := by
  constructor
  · rw [chA, Array.getElem?_push, if_neg (by simp; omega), Array.getElem?_push, if_pos h.symm]
  · rw [chA, Array.getElem?_push, if_pos (by simp; omega)]
theorem trA_sub {sd : Array Value} {u : Value} (h : sd.size = 16) (j : Nat) (hj : j < 16) : (trA sd u)[0 + j]? = sd[j]? := by rw [Nat.zero_add, trA, Array.getElem?_push, if_neg (by omega)]
theorem chA_sub {sd : Array Value} {u p : Value} (h : sd.size = 16) (j : Nat) (hj : j < 17) : (chA sd u p)[0 + j]? = (trA sd u)[j]? := by rw [Nat.zero_add, chA, Array.getElem?_push, if_neg (by simp; omega)]; rfl

theorem built35 (sd : Array Value) (u : Value) (h : sd.size = 16) (hu : u.cells = #[u]) : Tryz.prog.built 35 [(0, .agg sd), (1, u)] = some (trA sd u) := by
  rw [built35_eq]; exact fill_two _ _ _ 16 u h rfl hu rfl rfl
theorem built35_one (sd : Array Value) (h : sd.size = 16) : Tryz.prog.built 35 [(0, .agg sd)] = some (trA sd .nilIface) := by
  rw [built35_eq]; exact fill_one _ _ _ 16 _ h rfl rfl rfl
theorem built38 (sd : Array Value) (u p : Value) (h : sd.size = 16) (hp : p.cells = #[p]) : Tryz.prog.built 38 [(0, .agg (trA sd u)), (1, p)] = some (chA sd u p) := by
  rw [built38_eq]; exact fill_two _ _ _ 17 p (trA_size h) rfl hp rfl rfl
theorem built38_one (sd : Array Value) (u : Value) (h : sd.size = 16) : Tryz.prog.built 38 [(0, .agg (trA sd u))] = some (chA sd u (.pointer none)) := by
  rw [built38_eq]; exact fill_one _ _ _ 17 _ (trA_size h) rfl rfl rfl

theorem info31 : (Tryz.prog.info? 31).map (·.size) = some 16 := by kernel_rfl
theorem info35 : (Tryz.prog.info? 35).map (·.size) = some 17 := by kernel_rfl
theorem info38 : (Tryz.prog.info? 38).map (·.size) = some 18 := by kernel_rfl

end Go.Proofs.YtphjaebkcimklaaGreatDoor
