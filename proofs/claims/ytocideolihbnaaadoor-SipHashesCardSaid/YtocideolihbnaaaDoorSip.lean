/- Contracts of the hash's steps: mix, Round, Take, End; each speaks of numbers of 64 bits. -/
import Derived.Test.YtocideolihbnaaaDoorSMem
import Derived.Deep.QuietTactic
import Derived.BigQuiet
import Derived.Deep.RegionHeld3
import Derived.Deep.DrawnRows
import Derived.Laws.Rows
import Derived.Laws.Tables
import Derived.RangeFuncRecord
set_option linter.unusedVariables false
set_option linter.unusedSimpArgs false
namespace Go.Proofs.YtocideolihbnaaaDoor
open Go.RowKit

theorem info31 : (Tryd.prog.info? 31).map (·.size) = some 4 := by kernel_rfl
theorem info30 : (Tryd.prog.info? 30).map (·.size) = some 4 := by kernel_rfl
theorem info52 : (Tryd.prog.info? 52).map (·.size) = some 2 := by kernel_rfl
theorem info23 : (Tryd.prog.info? 23).map (·.size) = some 16 := by kernel_rfl
theorem info22 : (Tryd.prog.info? 22).map (·.size) = some 16 := by kernel_rfl
theorem heap_new (w : World) (o : Obj) : (w.alloc o).heap[w.heap.size]? = some o := World.alloc_heap_new w o
theorem heap_old {w : World} {b : Nat} {o : Obj} (p : Obj) (h : w.heap[b]? = some o) : (w.alloc p).heap[b]? = some o := (Below.heap_alloc w p b (Array.getElem?_eq_some_iff.1 h).1).trans h

/-- A number turned to the left, by less than 64. -/
def rotN (x k : Nat) : Nat := (x * 2 ^ k % 18446744073709551616) ||| (x / 2 ^ (64 - k))
def addN (a b : Nat) : Nat := (a + b) % 18446744073709551616
theorem addN_lt (a b : Nat) : addN a b < 18446744073709551616 := Nat.mod_lt _ (by omega)
theorem rotN_lt (x k : Nat) (hx : x < 18446744073709551616) : rotN x k < 18446744073709551616 := by
  unfold rotN
  exact Nat.or_lt_two_pow (n := 64) (Nat.mod_lt _ (by decide)) (Nat.lt_of_le_of_lt (Nat.div_le_self _ _) hx)
theorem xorN_lt {a b : Nat} (ha : a < 18446744073709551616) (hb : b < 18446744073709551616) : a ^^^ b < 18446744073709551616 := Nat.xor_lt_two_pow (n := 64) ha hb

theorem turnN_any (x k : Nat) (w : World) (hx : x < 18446744073709551616) (hk : k < 64) :
    Calls Tryd.prog 22 #[.int .u64 (x : Int), .int .i64 (k : Int)] w fun e w' => e = .returned (.int .u64 (rotN x k : Nat)) ∧ w = w' := by
  refine (turn_any (x : Int) k w (by omega) (by omega)).mono fun e w' ⟨he, hw⟩ => ⟨?_, hw⟩
  rw [he]
  have e1 : Int.tmod (k : Int) 64 = k := by rw [Int.tmod_eq_emod_of_nonneg (by omega)]; omega
  have e2 : ((k : Int) % 64).toNat = k := by omega
  have e3 : ((x : Int) * 2 ^ k % 18446744073709551616).toNat = x * 2 ^ k % 18446744073709551616 := by
    rw [show (x : Int) * 2 ^ k % 18446744073709551616 = ((x * 2 ^ k % 18446744073709551616 : Nat) : Int) by simp]; rfl
  have e4 : ((x : Int) / 2 ^ (64 - k)).toNat = x / 2 ^ (64 - k) := by
    rw [show (x : Int) / 2 ^ (64 - k) = ((x / 2 ^ (64 - k) : Nat) : Int) by simp]; rfl
  unfold rotv rotN
  rw [e1, e2, e3, e4]

/-- Half a round. -/
def mixN (a b k : Nat) : Nat × Nat := (addN a b, rotN b k ^^^ addN a b)

theorem mix_any (a b k : Nat) (w : World) (ha : a < 18446744073709551616) (hb : b < 18446744073709551616) (hk : k < 64) :
    Calls Tryd.prog 21 #[.int .u64 (a : Int), .int .u64 (b : Int), .int .i64 (k : Int)] w fun e w' => e = .returned (.tuple #[.int .u64 ((mixN a b k).1 : Nat), .int .u64 ((mixN a b k).2 : Nat)]) ∧ w = w' := by
  have h1 : IntKind.u64.wrap ((a : Int) + b) = ((addN a b : Nat) : Int) := by rw [u64_wrap]; unfold addN; omega
  have h2 := u64_xor_nat (rotN b k) (addN a b) (rotN_lt b k hb) (addN_lt a b)
  have HM : Hid ((mixN a b k) = (addN a b, rotN b k ^^^ addN a b)) := rfl
  have HT := Lib.hid (turnN_any b k w hb hk)
  rw [HM.out]
  generalize addN a b = s at *
  generalize rotN b k = t at *
  generalize mixN a b k = mm at *
  clear HM
  go_enter Tryd.func21, Tryd.ntmps21
  go_wp2_with fail
  refine HT.out.mono ?_
  rintro e w' ⟨rfl, rfl⟩
  go_wp2_with fail
  go_ret2
  exact ⟨rfl, rfl⟩

theorem mixN_lt (a b k : Nat) (hb : b < 18446744073709551616) : (mixN a b k).1 < 18446744073709551616 ∧ (mixN a b k).2 < 18446744073709551616 :=
  ⟨addN_lt _ _, xorN_lt (rotN_lt _ _ hb) (addN_lt _ _)⟩

/-- Four numbers of 64 bits. -/
structure St where
  p : Nat
  q : Nat
  r : Nat
  s : Nat
  deriving DecidableEq
def St.ok (x : St) : Prop := x.p < 18446744073709551616 ∧ x.q < 18446744073709551616 ∧ x.r < 18446744073709551616 ∧ x.s < 18446744073709551616
/-- Its value. -/
def St.v (x : St) : Value := .agg #[.int .u64 (x.p : Int), .int .u64 (x.q : Int), .int .u64 (x.r : Int), .int .u64 (x.s : Int)]
/-- A round. -/
def roundN (x : St) : St :=
  let a := mixN x.p x.q 13
  let b := mixN x.r x.s 16
  let c := mixN (rotN a.1 32) b.2 21
  let d := mixN b.1 a.2 17
  ⟨c.1, d.2, rotN d.1 32, c.2⟩
theorem roundN_ok (x : St) (h : x.ok) : (roundN x).ok := by
  obtain ⟨h1, h2, h3, h4⟩ := h
  have a := mixN_lt x.p x.q 13 h2
  have b := mixN_lt x.r x.s 16 h4
  have c := mixN_lt (rotN (mixN x.p x.q 13).1 32) (mixN x.r x.s 16).2 21 b.2
  have d := mixN_lt (mixN x.r x.s 16).1 (mixN x.p x.q 13).2 17 a.2
  exact ⟨c.1, d.2, rotN_lt _ _ d.1, c.2⟩

set_option maxHeartbeats 1600000 in
theorem round_any (x : St) (w : World) (h : x.ok) :
    Calls Tryd.prog 11 #[x.v] w fun e w' => e = .returned (roundN x).v ∧ Below w.heap.size w w' := by
  obtain ⟨p, q, r, s⟩ := x
  obtain ⟨h1, h2, h3, h4⟩ := h
  dsimp only at h1 h2 h3 h4
  have e : (roundN ⟨p, q, r, s⟩) = ⟨(mixN (rotN (mixN p q 13).1 32) (mixN r s 16).2 21).1, (mixN (mixN r s 16).1 (mixN p q 13).2 17).2, rotN (mixN (mixN r s 16).1 (mixN p q 13).2 17).1 32, (mixN (rotN (mixN p q 13).1 32) (mixN r s 16).2 21).2⟩ := rfl
  rw [e]
  have a := mixN_lt p q 13 h2
  have b := mixN_lt r s 16 h4
  have c := mixN_lt (rotN (mixN p q 13).1 32) (mixN r s 16).2 21 b.2
  have d := mixN_lt (mixN r s 16).1 (mixN p q 13).2 17 a.2
  have t := rotN_lt (mixN p q 13).1 32 a.1
  have t2 := rotN_lt (mixN (mixN r s 16).1 (mixN p q 13).2 17).1 32 d.1
  have M1 := Lib.hid (fun w => mix_any p q 13 w h1 h2 (by omega))
  have M2 := Lib.hid (fun w => mix_any r s 16 w h3 h4 (by omega))
  have T1 := Lib.hid (fun w => turnN_any (mixN p q 13).1 32 w a.1 (by omega))
  have M3 := Lib.hid (fun w => mix_any (rotN (mixN p q 13).1 32) (mixN r s 16).2 21 w t b.2 (by omega))
  have M4 := Lib.hid (fun w => mix_any (mixN r s 16).1 (mixN p q 13).2 17 w b.1 a.2 (by omega))
  have T2 := Lib.hid (fun w => turnN_any (mixN (mixN r s 16).1 (mixN p q 13).2 17).1 32 w d.1 (by omega))
  generalize rotN (mixN (mixN r s 16).1 (mixN p q 13).2 17).1 32 = y8 at *
  generalize (mixN (mixN r s 16).1 (mixN p q 13).2 17).1 = y6 at *
  generalize (mixN (mixN r s 16).1 (mixN p q 13).2 17).2 = y7 at *
  generalize (mixN (rotN (mixN p q 13).1 32) (mixN r s 16).2 21).1 = y4 at *
  generalize (mixN (rotN (mixN p q 13).1 32) (mixN r s 16).2 21).2 = y5 at *
  generalize rotN (mixN p q 13).1 32 = y3 at *
  generalize (mixN p q 13).1 = y1 at *
  generalize (mixN p q 13).2 = y2 at *
  generalize (mixN r s 16).1 = z1 at *
  generalize (mixN r s 16).2 = z2 at *
  simp only [St.v]
  go_enter Tryd.func11, Tryd.ntmps11
  go_wp2_with fail
  refine (M1.out _).mono ?_
  rintro e w' ⟨rfl, rfl⟩
  go_wp2_with fail
  refine (M2.out _).mono ?_
  rintro e w' ⟨rfl, rfl⟩
  go_wp2_with fail
  refine (T1.out _).mono ?_
  rintro e w' ⟨rfl, rfl⟩
  go_wp2_with fail
  refine (M3.out _).mono ?_
  rintro e w' ⟨rfl, rfl⟩
  go_wp2_with fail
  refine (M4.out _).mono ?_
  rintro e w' ⟨rfl, rfl⟩
  go_wp2_with fail
  refine (T2.out _).mono ?_
  rintro e w' ⟨rfl, rfl⟩
  go_wp2_with fail
  have hf := heap_new (w.alloc (.cells #[.int .u64 (p : Int), .int .u64 (q : Int), .int .u64 (r : Int), .int .u64 (s : Int)] 31)) (.cells #[.int .u64 (y4 : Int), .int .u64 (y7 : Int), .int .u64 (y8 : Int), .int .u64 (y5 : Int)] 31)
  rw [World.size_alloc] at hf
  exact bodyPost_ret (results_cell_row rfl _ _ (w.heap.size + 1) 31 _ (0, 0) _ (by rfl) hf Tryd.underlying31 rfl info31) rfl ⟨rfl, ((Below.refl _ w).alloc (Nat.le_refl _) _).alloc (by simp) _⟩

end Go.Proofs.YtocideolihbnaaaDoor
