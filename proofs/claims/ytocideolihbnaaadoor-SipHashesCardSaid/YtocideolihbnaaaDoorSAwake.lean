/- The reference's Hash: the same number as the program's; and the laws' fixed example. -/
import Derived.Test.YtocideolihbnaaaDoorSRef
set_option linter.unusedVariables false
set_option linter.unusedSimpArgs false
namespace Go.Proofs.YtocideolihbnaaaDoor
open Go.RowKit

/-- A slice of numbers, as it reads: nil, empty and other ones alike. -/
structure RdU (w : World) (A : Option Addr) (n : Nat) (l : List Nat) : Prop where
  len : l.length = n
  le : n ≤ 9223372036854775807
  cell : 0 < n → ∃ b o, A = some ⟨b, o, none⟩ ∧ b < w.heap.size ∧ ∀ j, j < n → w.cell? ⟨b, o + j, none⟩ = some (.int .u64 (l.getD j 0 : Nat))
theorem RdU.below {w w1 : World} {A : Option Addr} {n : Nat} {l : List Nat} (h : RdU w A n l) (hb : Below w.heap.size w w1) : RdU w1 A n l :=
  ⟨h.len, h.le, fun hn => by
    obtain ⟨b, o, e, hlt, hc⟩ := h.cell hn
    exact ⟨b, o, e, Nat.lt_of_lt_of_le hlt hb.size, fun j hj => (hb.cell (p := ⟨b, o + j, none⟩) hlt).trans (hc j hj)⟩⟩
theorem RdU.setCell {w : World} {A : Option Addr} {n : Nat} {l : List Nat} (h : RdU w A n l) (g i : Nat) (u : Value) (hne : ∀ b o, A = some ⟨b, o, none⟩ → b ≠ g) : RdU (w.setCell ⟨g, i, none⟩ u) A n l :=
  ⟨h.len, h.le, fun hn => by
    obtain ⟨b, o, e, hlt, hc⟩ := h.cell hn
    exact ⟨b, o, e, by simpa using hlt, fun j hj => (World.cell?_setCell_far w _ _ _ (by simpa using Ne.symm (hne b o e))).trans (hc j hj)⟩⟩
theorem RdU.owned {w : World} {base : Nat} {v : Value} {l : List Nat} {e : TypeId} (h : w.ownsRow base e 1 v l.length (vals l)) :
    ∃ A c, v = .slice A l.length c ∧ RdU w A l.length l ∧ ∀ b o, A = some ⟨b, o, none⟩ → base ≤ b := by
  rcases h.2 with ⟨rfl, hn⟩ | ⟨g, cap, cur, rfl, hb, hg, hc, hm, hs, ht⟩
  · rw [hn]; exact ⟨none, 0, rfl, ⟨hn, by omega, fun h => by omega⟩, fun b o h => by cases h⟩
  · refine ⟨_, cap, rfl, ⟨rfl, by unfold maxLen at hm; omega, fun hn => ⟨g, 0, rfl, (Array.getElem?_eq_some_iff.1 hg).1, fun j hj => ?_⟩⟩, fun b o h => by injection h with h; injection h with h1 _; omega⟩
    rw [Nat.zero_add, h.cellAt j (by omega), vals, List.getElem?_map, List.getElem?_eq_getElem hj, List.getD_eq_getElem?_getD, List.getElem?_eq_getElem hj]
    rfl

/-- Numbers taken one by one. -/
def eatL (x : St) (l : List Nat) : Nat → St
  | 0 => x
  | j + 1 => takeN (eatL x l j) (l.getD j 0)
theorem eatL_ok (x : St) (h : x.ok) (l : List Nat) (hl : ∀ j, l.getD j 0 < 18446744073709551616) : ∀ j, (eatL x l j).ok
  | 0 => h
  | j + 1 => takeN_ok _ _ (eatL_ok x h l hl j) (hl j)
theorem eatL_num (x : St) (k : List UInt8) (m n : Nat) : ∀ j, j ≤ n → eatL x (numL k n ++ [m]) j = eat k j x := by
  intro j
  induction j with
  | zero => intro _; rfl
  | succ j ih =>
    intro hj
    rw [eatL, eat, ih (by omega)]
    congr 1
    rw [List.getD_eq_getElem?_getD, List.getElem?_append_left (by rw [numL_len]; omega)]
    simp [numL, List.getElem?_map, List.getElem?_range (show j < n by omega)]
theorem eatL_all (x : St) (k : List UInt8) (m n : Nat) : eatL x (numL k n ++ [m]) (n + 1) = takeN (eat k n x) m := by
  rw [eatL, eatL_num _ _ _ _ _ (Nat.le_refl _)]
  congr 1
  rw [List.getD_eq_getElem?_getD, List.getElem?_append_right (by rw [numL_len]; omega)]
  simp [numL_len]
theorem numL_lt (k : List UInt8) (m n : Nat) (hm : m < 18446744073709551616) (j : Nat) : (numL k n ++ [m]).getD j 0 < 18446744073709551616 := by
  rcases Nat.lt_trichotomy j n with h | rfl | h
  · rw [List.getD_eq_getElem?_getD, List.getElem?_append_left (by rw [numL_len]; omega)]
    simp [numL, List.getElem?_map, List.getElem?_range h]
    exact lowv_take8 _
  · rw [List.getD_eq_getElem?_getD, List.getElem?_append_right (by rw [numL_len]; omega)]
    simpa [numL_len] using hm
  · rw [List.getD_eq_getElem?_getD, List.getElem?_eq_none (by rw [List.length_append, numL_len]; simp; omega)]
    simp

set_option maxHeartbeats 3200000 in
theorem refHash_any (s : List UInt8) (hs : s.length = 16) (k : ByteArray) (w : World) (hk : k.size ≤ 100000) :
    Calls Tryd.prog 10 #[.agg (rowOf s), .string k] w fun e w' => e = .returned (.int .u64 (hashN s (strL k) : Nat)) ∧ Below w.heap.size w w' := by
  have HSZ : Hid ((Tryd.prog.info? 22).map (·.size) = some (rowOf s).size) := info22b.trans (by rw [rowOf_size, hs])
  have X0 := heap_new w (.cells (rowOf s) 22)
  have HX := Lib.hid X0
  have HBX := Lib.hid ((Below.refl _ w).alloc (Nat.le_refl _) (.cells (rowOf s) 22))
  have HBG := Lib.hid (fun w => refBegin_any s hs w)
  have HNUM := Lib.hid (fun w => numbers_any k w hk)
  clear X0
  go_enter Tryd.func10, Tryd.ntmps10
  go_wp2_with (refine wpList_load_row rfl 22 _ rfl w.heap.size (by rfl) 22 (rowOf s) (0, 0) _ HX.out Tryd.underlying22 rfl HSZ.out ?_)
  refine (HBG.out _).mono ?_
  rintro e w1 ⟨rfl, hb1⟩
  have hbw := HBX.out.trans (hb1.mono HBX.out.size)
  have hsw := hbw.size
  have hx1 : Lies (w1.alloc (.cells #[.int .u64 ((beginN s).p : Int), .int .u64 ((beginN s).q : Int), .int .u64 ((beginN s).r : Int), .int .u64 ((beginN s).s : Int)] 30)) w1.heap.size 30 (beginN s) := heap_new w1 _
  have hbx := hbw.alloc hsw (.cells #[.int .u64 ((beginN s).p : Int), .int .u64 ((beginN s).q : Int), .int .u64 ((beginN s).r : Int), .int .u64 ((beginN s).s : Int)] 30)
  have HX2 := Lib.hid hx1
  have HBX2 := Lib.hid hbx
  have HSW := Lib.hid hsw
  clear hx1 hbx hb1 hbw
  simp only [St.v]
  go_wp2_with fail
  refine (HNUM.out _).mono ?_
  rintro e w2 ⟨v, rfl, hown, hb2⟩
  have hln : (numL (strL k) (k.size / 8) ++ [lastN (strL k)]).length = k.size / 8 + 1 := by rw [List.length_append, numL_len]; rfl
  rw [← hln] at hown
  obtain ⟨A, c, rfl, hR, hAB⟩ := RdU.owned hown
  have HNE := Lib.hid (fun b o (h : A = some ⟨b, o, none⟩) => (show b ≠ w1.heap.size by have := hAB b o h; simp at this; omega))
  clear hAB
  have hlies := HX2.out.below hb2 HX2.out.lt
  have hbw2 := HBX2.out.trans (hb2.mono HBX2.out.size)
  have hHN : hashN s (strL k) = endN (eatL (beginN s) (numL (strL k) (k.size / 8) ++ [lastN (strL k)]) (k.size / 8 + 1)) := by rw [eatL_all]; unfold hashN; rw [show (strL k).length = k.size by simp]
  have hok := eatL_ok (beginN s) (beginN_ok s) _ (numL_lt (strL k) (lastN (strL k)) (k.size / 8) (lastN_lt _))
  have hlt64 := numL_lt (strL k) (lastN (strL k)) (k.size / 8) (lastN_lt _)
  have HHN := Lib.hid hHN
  have HW2 := Lib.hid hbw2
  have HLI : Hid (Lies w2 w1.heap.size 30 (eatL (beginN s) (numL (strL k) (k.size / 8) ++ [lastN (strL k)]) 0)) := hlies
  have HOK := Lib.hid hok
  have H64 := Lib.hid hlt64
  have HRU := Lib.hid hR
  have hN : k.size / 8 + 1 ≤ 100000 := by omega
  clear hHN hbw2 hlies hok hown hb2 hlt64 hR
  rw [hln] at HRU
  rw [hln]
  clear hln
  generalize numL (strL k) (k.size / 8) ++ [lastN (strL k)] = L at *
  generalize k.size / 8 + 1 = N at *
  generalize hq : hashN s (strL k) = HH at *
  have HQ := Lib.hid hq
  clear hq
  go_wp2_with fail
  go_loopw [13] (fun v wr => ∃ j : Nat, j ≤ N ∧ v = .int .i64 j ∧ Lies wr w1.heap.size 30 (eatL (beginN s) L j) ∧ Below w.heap.size w wr ∧ RdU wr A N L) (fun v _ => N - (intOf v).toNat)
  case atStart => exact ⟨0, by omega, rfl, HLI.out, HW2.out, HRU.out⟩
  case round =>
    obtain ⟨j, hj, rfl, hl, hb, hR⟩ := hrel
    have hokj := HOK.out j
    by_cases hlt : j < N
    · have HNX : Hid (eatL (beginN s) L (j + 1) = takeN (eatL (beginN s) L j) (L.getD j 0)) := rfl
      have hm := H64.out j
      have hTk := fun w => refTake_any _ _ w hokj hm
      obtain ⟨b, o, rfl, hbl, hc⟩ := hR.cell (by omega)
      have hcj := hc j hlt
      generalize eatL (beginN s) L j = y at *
      generalize L.getD j 0 = m at *
      generalize hz : takeN y m = z at *
      obtain ⟨y1, y2, y3, y4⟩ := y
      obtain ⟨z1, z2, z3, z4⟩ := z
      obtain ⟨c0, c1, c2, c3⟩ := hl.cells
      have HL1 := Lib.hid hl
      have HB1 := Lib.hid hb
      have HR1 := Lib.hid hR
      have HTk := Lib.hid hTk
      clear hl hb hR hTk hc hokj hz HLI HOK H64 HRU
      simp only [St.v] at HTk
      go_wp2_with fail
      refine (HTk.out _).mono ?_
      rintro e w3 ⟨rfl, hb3⟩
      have HL2 := Lib.hid (HL1.out.below hb3 HL1.out.lt)
      have HB2 := Lib.hid (HB1.out.trans (hb3.mono HB1.out.size))
      have HR2 := Lib.hid (HR1.out.below hb3)
      clear hb3
      obtain ⟨d0, d1, d2, d3⟩ := HL2.out.cells
      have f0 := frozen_of_row _ _ 0 _ _ HL2.out
      have f1 := frozen_of_row _ _ 1 _ _ HL2.out
      have f2 := frozen_of_row _ _ 2 _ _ HL2.out
      have f3 := frozen_of_row _ _ 3 _ _ HL2.out
      go_wp2_with fail
      go_roundw
      case rel =>
        exact ⟨j + 1, by omega, by go_num, by rw [HNX.out]; exact lies_put HL2.out ⟨z1, z2, z3, z4⟩,
          (((HB2.out.setCell (p := ⟨w1.heap.size, 0, none⟩) HSW.out _).setCell (p := ⟨w1.heap.size, 1, none⟩) HSW.out _).setCell (p := ⟨w1.heap.size, 2, none⟩) HSW.out _).setCell (p := ⟨w1.heap.size, 3, none⟩) HSW.out _,
          (((HR2.out.setCell _ _ _ HNE.out).setCell _ _ _ HNE.out).setCell _ _ _ HNE.out).setCell _ _ _ HNE.out⟩
      case measure => simp [intOf]; omega
    · obtain rfl : j = N := by omega
      have hEn := fun w => refEnd_any _ w hokj
      rw [← HHN.out] at hEn
      clear HHN HLI HOK
      generalize eatL (beginN s) L j = y at *
      obtain ⟨y1, y2, y3, y4⟩ := y
      obtain ⟨c0, c1, c2, c3⟩ := hl.cells
      have HEn := Lib.hid hEn
      have HB1 := Lib.hid hb
      clear hl hb hR hokj hEn
      simp only [St.v] at HEn
      go_wp2_with fail
      refine (HEn.out _).mono ?_
      rintro e w3 ⟨rfl, hb3⟩
      have HB2 := Lib.hid (HB1.out.trans (hb3.mono HB1.out.size))
      clear hb3
      go_wp2_with fail
      go_ret
      exact ⟨by rw [HQ.out]; rfl, HB2.out⟩

/-! ### The fixed example -/
def seed16 : List UInt8 := [0, 1, 2, 3, 4, 5, 6, 7, 8, 9, 10, 11, 12, 13, 14, 15]
theorem example_hash : hashN seed16 (seed16.take 15) = 11613035633349379557 := by decide +kernel

set_option maxHeartbeats 3200000 in
theorem awake_any (w : World) (hT : TabOK w) : Calls Tryd.prog 8 #[] w fun e w' => e = .returned (.bool true) ∧ Below w.heap.size w w' := by
  have hX : (w.alloc (.cells (rowOf seed16) 23)).drew.heap[w.heap.size]? = some (.cells (rowOf seed16) 23 (0, 0)) := heap_new w (.cells (rowOf seed16) 23)
  have hb0 := (Below.refl _ w).alloc (Nat.le_refl _) (.cells (rowOf seed16) 23)
  have hb : Below w.heap.size w (w.alloc (.cells (rowOf seed16) 23)).drew := ⟨hb0.os, hb0.tape, hb0.output, hb0.size, hb0.block⟩
  have hH := hash_any seed16 rfl (some ⟨w.heap.size, 0, none⟩) 15 16 (seed16.take 15) (w.alloc (.cells (rowOf seed16) 23)).drew (hT.below hb) (rd_row seed16 0 15 hX (by decide) (by omega)) (by omega)
  rw [example_hash] at hH
  have al23 : Tryd.prog.arrayLen 23 = 16 := by kernel_rfl
  have HH := Lib.hid hH
  have HB := Lib.hid hb
  have HX := Lib.hid hX
  have HSZ : Hid ((Tryd.prog.info? 23).map (·.size) = some (rowOf seed16).size) := info23b
  clear hX hb hH hb0
  go_enter Tryd.func8, Tryd.ntmps8
  go_wp2_with fail
  go_region_with (first
    | (refine wp_load_row 23 _ rfl w.heap.size (by rfl) 23 (rowOf seed16) (0, 0) _ HX.out Tryd.underlying23 rfl HSZ.out ?_)
    | (go_at_call 9; refine HH.out.mono ?_; rintro e w1 ⟨rfl, hb1⟩; have HB1 := Lib.hid (HB.out.trans (hb1.mono HB.out.size)); clear hb1))
  go_wp2_with fail
  go_ret
  exact ⟨rfl, HB1.out⟩

end Go.Proofs.YtocideolihbnaaaDoor
