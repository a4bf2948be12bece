/- The reference's low and Begin: the same numbers as the program's. -/
import Derived.Test.YtocideolihbnaaaDoorSHash
import Derived.Maps.AppendAt
set_option linter.unusedVariables false
set_option linter.unusedSimpArgs false
namespace Go.Proofs.YtocideolihbnaaaDoor
open Go.RowKit

theorem rlow_any (s : ByteArray) (w : World) (h : s.size ≤ 8) :
    Calls Tryd.prog 26 #[.string s] w fun e w' => e = .returned (.int .u64 (lowv (strL s) : Nat)) ∧ w = w' := by
  go_enter Tryd.func26, Tryd.ntmps26
  go_wp2
  go_loop [3, 4] (fun a v => ∃ j : Nat, j ≤ s.size ∧ a = .int .u64 (lowv ((strL s).drop j) : Nat) ∧ v = .int .i64 ((j : Int) - 1)) (fun _ v => (intOf v + 1).toNat)
  case atStart => exact ⟨s.size, by omega, by rw [List.drop_of_length_le (by simp)]; rfl, rfl⟩
  case round =>
    obtain ⟨j, hj, rfl, rfl⟩ := hrel
    by_cases hlt : 0 < j
    · obtain ⟨i, rfl⟩ : ∃ i, j = i + 1 := ⟨j - 1, by omega⟩
      have ej : (((i + 1 : Nat) : Int) - 1) = (i : Int) := by omega
      rw [ej]
      have hnum := lowv_drop (strL s) i (by simp; omega)
      have hnl := lowv_drop_lt (strL s) (i + 1) (by simp; omega)
      have hi : i < s.size := by omega
      have hg : ((strL s).getD i 0).toNat = s[i].toNat := by
        simp [strL, List.getD_eq_getElem?_getD, hi]; rfl
      rw [hg] at hnum
      have hd := s[i].toNat_lt
      generalize lowv ((strL s).drop (i + 1)) = a at *
      have HN := Lib.hid hnum
      clear hnum hg ej hlt hj
      go_wp2
      go_round
      case rel => exact ⟨i, by omega, by rw [HN.out]; go_num, rfl⟩
      case measure => simp [intOf]
    · obtain rfl : j = 0 := by omega
      rw [show (((0 : Nat) : Int) - 1) = -1 by omega]
      go_wp2
      go_ret
      exact ⟨rfl, rfl⟩

theorem strOfNums_strO (l : List UInt8) : strOfNums (l.map fun c => (c.toNat : Int)) = strO l := by
  apply ByteArray.ext
  apply Array.toList_inj.1
  rw [strOfNums_data]
  simp [strO, Function.comp_def]

theorem rconv (w : World) (A : Option Addr) (n c : Nat) (l : List UInt8) (hR : RdB w A n l) : (convert 24 9 (.slice A n c)).run Tryd.prog w = .ok (.string (strO l)) w := by
  by_cases hn : n = 0
  · have := hR.len
    subst hn
    obtain rfl : l = [] := List.eq_nil_of_length_eq_zero this
    rw [run_convert_bytes_string w 24 9 5 _ 0 c Tryd.underlying24 Tryd.underlying5 Tryd.underlying9]
    cases A with
    | none => simp [Conv.bytesToString, strO]; rfl
    | some a => rw [run_bytesToString w a 0 c [] (by rfl)]; rfl
  · obtain ⟨b, o, rfl, hlt, hc⟩ := hR.cell (by omega)
    have hl := hR.len
    rw [← strOfNums_strO]
    refine run_convert_bytes_arg w 24 5 Tryd.underlying24 Tryd.underlying5 b o n c _ (by simpa using hl) (fun i hi => ?_) 9 Tryd.underlying9
    rw [hc i hi]
    simp [List.getD_eq_getElem?_getD, List.getElem?_map, List.getElem?_eq_getElem (show i < l.length by omega)]

theorem strO_strL (l : List UInt8) : strL (strO l) = l := by simp [strL, strO]

theorem rlow_same (s : ByteArray) (w : World) (h : s.size ≤ 8) : Calls Tryd.prog 26 #[.string s] w fun e w' => e = .returned (.int .u64 (lowv (strL s) : Nat)) ∧ w' = w :=
  (rlow_any s w h).mono fun _ _ h => ⟨h.1, h.2.symm⟩
theorem drewN_heap (w : World) (n : Nat) : (w.drewN n).heap = w.heap := rfl
theorem info22b : (Tryd.prog.info? 22).map (·.size) = some 16 := by kernel_rfl

set_option maxHeartbeats 1600000 in
theorem refBegin_any (l : List UInt8) (hl : l.length = 16) (w : World) :
    Calls Tryd.prog 14 #[.agg (rowOf l)] w fun e w' => e = .returned (beginN l).v ∧ Below w.heap.size w w' := by
  have h1 := u64_xor_nat (lowv (l.take 8)) 8317987319222330741 (lowv_take8 _) (by omega)
  have h2 := u64_xor_nat (lowv ((l.drop 8).take 8)) 7237128888997146477 (lowv_take8 _) (by omega)
  have h3 := u64_xor_nat (lowv (l.take 8)) 7816392313619706465 (lowv_take8 _) (by omega)
  have h4 := u64_xor_nat (lowv ((l.drop 8).take 8)) 8387220255154660723 (lowv_take8 _) (by omega)
  rw [show ((8317987319222330741 : Nat) : Int) = 8317987319222330741 from rfl, Nat.xor_comm] at h1
  rw [show ((7237128888997146477 : Nat) : Int) = 7237128888997146477 from rfl, Nat.xor_comm] at h2
  rw [show ((7816392313619706465 : Nat) : Int) = 7816392313619706465 from rfl, Nat.xor_comm] at h3
  rw [show ((8387220255154660723 : Nat) : Int) = 8387220255154660723 from rfl, Nat.xor_comm] at h4
  have HV : Hid ((beginN l).v = .agg #[.int .u64 ((8317987319222330741 ^^^ lowv (l.take 8) : Nat) : Int), .int .u64 ((7237128888997146477 ^^^ lowv ((l.drop 8).take 8) : Nat) : Int), .int .u64 ((7816392313619706465 ^^^ lowv (l.take 8) : Nat) : Int), .int .u64 ((8387220255154660723 ^^^ lowv ((l.drop 8).take 8) : Nat) : Int)]) := rfl
  have X0 := heap_old (.cells #[.int .u64 0, .int .u64 0, .int .u64 0, .int .u64 0] 30) (heap_new w (.cells (rowOf l) 22))
  have X1 := heap_new (w.alloc (.cells (rowOf l) 22)) (.cells #[.int .u64 0, .int .u64 0, .int .u64 0, .int .u64 0] 30)
  have hb := ((Below.refl _ w).alloc (Nat.le_refl _) (.cells (rowOf l) 22)).alloc (by simp) (.cells #[.int .u64 0, .int .u64 0, .int .u64 0, .int .u64 0] 30)
  rw [World.size_alloc] at X1
  have hc1 : ∀ n, (convert 24 9 (.slice (some ⟨w.heap.size, 0, none⟩) 8 16)).run Tryd.prog (((w.alloc (.cells (rowOf l) 22)).alloc (.cells #[.int .u64 0, .int .u64 0, .int .u64 0, .int .u64 0] 30)).drewN n) = .ok (.string (strO (l.take 8))) (((w.alloc (.cells (rowOf l) 22)).alloc (.cells #[.int .u64 0, .int .u64 0, .int .u64 0, .int .u64 0] 30)).drewN n) := by
    intro n
    have := rconv (((w.alloc (.cells (rowOf l) 22)).alloc (.cells #[.int .u64 0, .int .u64 0, .int .u64 0, .int .u64 0] 30)).drewN n) (some ⟨w.heap.size, 0, none⟩) 8 16 _ (rd_row l 0 8 X0 (by omega) (by omega))
    simpa using this
  have hc2 : ∀ n, (convert 24 9 (.slice (some ⟨w.heap.size, 8, none⟩) 8 8)).run Tryd.prog (((w.alloc (.cells (rowOf l) 22)).alloc (.cells #[.int .u64 0, .int .u64 0, .int .u64 0, .int .u64 0] 30)).drewN n) = .ok (.string (strO ((l.drop 8).take 8))) (((w.alloc (.cells (rowOf l) 22)).alloc (.cells #[.int .u64 0, .int .u64 0, .int .u64 0, .int .u64 0] 30)).drewN n) := by
    intro n
    exact rconv (((w.alloc (.cells (rowOf l) 22)).alloc (.cells #[.int .u64 0, .int .u64 0, .int .u64 0, .int .u64 0] 30)).drewN n) (some ⟨w.heap.size, 8, none⟩) 8 8 _ (rd_row l 8 8 X0 (by omega) (by omega))
  have L1 := Lib.hid (fun w => rlow_same (strO (l.take 8)) w (by rw [strO_size, List.length_take]; omega))
  have L2 := Lib.hid (fun w => rlow_same (strO ((l.drop 8).take 8)) w (by rw [strO_size, List.length_take]; omega))
  rw [strO_strL] at L1 L2
  have al22 : Tryd.prog.arrayLen 22 = 16 := by kernel_rfl
  have HX1 := Lib.hid X1
  have HB := Lib.hid hb
  clear X0 X1 hb
  generalize strO (l.take 8) = S1 at *
  generalize strO ((l.drop 8).take 8) = S2 at *
  go_enter Tryd.func14, Tryd.ntmps14
  go_wp2_with fail
  go_quiet (first | (go_at_call_of 26 (Value.string S1); exact Calls.quiet_of_same (L1.out _)) | (go_at_call_of 26 (Value.string S2); exact Calls.quiet_of_same (L2.out _)))
  generalize 8317987319222330741 ^^^ lowv (l.take 8) = x0 at *
  generalize 7237128888997146477 ^^^ lowv ((l.drop 8).take 8) = x1 at *
  generalize 7816392313619706465 ^^^ lowv (l.take 8) = x2 at *
  generalize 8387220255154660723 ^^^ lowv ((l.drop 8).take 8) = x3 at *
  go_wp2_with fail
  have hfin := set4 (W := (((w.alloc (.cells (rowOf l) 22)).alloc (.cells #[.int .u64 0, .int .u64 0, .int .u64 0, .int .u64 0] 30)).drewN nq)) (b := w.heap.size + 1) (t := 30) (x := ⟨0, 0, 0, 0⟩) (a := .int .u64 (x0 : Int)) (c := .int .u64 (x1 : Int)) (d := .int .u64 (x2 : Int)) (e := .int .u64 (x3 : Int)) HX1.out
  exact bodyPost_ret (results_cell_row rfl _ _ (w.heap.size + 1) 30 _ (0, 0) _ (by rfl) hfin Tryd.underlying30 rfl info30) rfl ⟨by rw [HV.out], ((((below_drewN HB.out nq).setCell (p := ⟨w.heap.size + 1, 0, none⟩) (by simp) _).setCell (p := ⟨w.heap.size + 1, 1, none⟩) (by simp) _).setCell (p := ⟨w.heap.size + 1, 2, none⟩) (by simp) _).setCell (p := ⟨w.heap.size + 1, 3, none⟩) (by simp) _⟩

theorem info26 : (Tryd.prog.info? 26).map (fun i => (i.zero, i.size, i.bytes)) = some (some (.int .u64 0), 1, 8) := by kernel_rfl
def strSz : Value → Nat
  | .string s => s.size
  | _ => 0
def numL (k : List UInt8) (j : Nat) : List Nat := (List.range j).map fun i => lowv ((k.drop (8 * i)).take 8)
theorem numL_len (k : List UInt8) (j : Nat) : (numL k j).length = j := by simp [numL]
theorem numL_succ (k : List UInt8) (j : Nat) : numL k (j + 1) = numL k j ++ [lowv ((k.drop (8 * j)).take 8)] := by simp [numL, List.range_succ]
def vals (l : List Nat) : List Value := l.map fun x : Nat => Value.int .u64 (x : Int)
theorem vals_append (a b : List Nat) : vals (a ++ b) = vals a ++ vals b := by simp [vals]
theorem lowv_zeros (l : List UInt8) (i : Nat) : lowv (l ++ List.replicate i 0) = lowv l := by
  induction l with
  | nil => induction i with
    | zero => rfl
    | succ i ih => simp only [List.nil_append, List.replicate_succ, lowv] at ih ⊢; rw [ih]; rfl
  | cons c r ih => simp only [List.cons_append, lowv, ih]
theorem strL_append (a b : ByteArray) : strL (a ++ b) = strL a ++ strL b := by simp [strL, ByteArray.data_append]
theorem one_cellU (x : Int) : ∀ u ∈ [Value.int .u64 x], u.oneCell' = true := by intro u hu; simp at hu; subst hu; rfl

theorem strL_to (S : ByteArray) (n : Nat) : strL (S.extract 0 n) = (strL S).take n := by simp [strL, ByteArray.data_extract]
theorem strL_from (S : ByteArray) (n : Nat) : strL (S.extract n S.size) = (strL S).drop n := by
  simp only [strL, ByteArray.data_extract, Array.toList_extract, List.extract_eq_take_drop]
  rw [List.take_of_length_le (by simp)]

set_option maxHeartbeats 1600000 in
theorem numbers_any (s : ByteArray) (w : World) (hs : s.size ≤ 100000) :
    Calls Tryd.prog 20 #[.string s] w fun e w' => ∃ v, e = .returned v ∧ w'.ownsRow w.heap.size 26 1 v (s.size / 8 + 1) (vals (numL (strL s) (s.size / 8) ++ [lastN (strL s)])) ∧ Below w.heap.size w w' := by
  obtain ⟨i0, hi, hz0, hz1, hz2⟩ := info_parts info26
  go_enter Tryd.func20, Tryd.ntmps20
  go_wp2_with fail
  go_loopw [0, 3] (fun s' v wr => ∃ (j : Nat) (S : ByteArray), s' = .string S ∧ strL S = (strL s).drop (8 * j) ∧ 8 * j + S.size = s.size ∧ wr.ownsRow w.heap.size 26 1 v j (vals (numL (strL s) j)) ∧ Below w.heap.size w wr) (fun s' _ _ => strSz s')
  case atStart => exact ⟨0, s, rfl, rfl, by omega, World.ownsRow_nil _ _ _ _, Below.refl _ _⟩
  case round =>
    obtain ⟨j, S, rfl, hS, hj, hown, hb⟩ := hrel
    have hsz := hb.size
    by_cases hlt : 8 ≤ S.size
    · have hnw := numL_succ (strL s) j
      have hL := fun w => rlow_any (S.extract 0 8) w (by simp; omega)
      rw [strL_to, hS] at hL
      have hd : strL (S.extract 8 S.size) = (strL s).drop (8 * (j + 1)) := by rw [strL_from, hS, List.drop_drop, Nat.mul_succ]
      have hds : (S.extract 8 S.size).size = S.size - 8 := by simp
      have HNW := Lib.hid hnw
      have HL := Lib.hid hL
      have HD := Lib.hid hd
      have HB := Lib.hid hb
      have HDS := Lib.hid hds
      have HJ := Lib.hid hj
      clear hnw hL hd hb hS hds
      generalize lowv (((strL s).drop (8 * j)).take 8) = m at *
      go_wp2_with fail
      refine (HL.out _).mono ?_
      rintro e w' ⟨rfl, rfl⟩
      go_wp2_with (at_builtin; refine wpList_append_own _ rfl _ _ 42 rfl w.heap.size 26 i0 (.int .u64 0) 1 8 Tryd.underlying42 hi hz0 hz1 hz2 rfl (by decide) _ _ _ rfl (hown.alloc _) ⟨wr.heap.size, 0, none⟩ 1 1 [.int .u64 (m : Int)] rfl rfl (cell_one_new _ _ _) (one_cellU _) ?c3 ?c4 ?c5 ?_)
      case c3 => unfold maxLen; omega
      case c4 => omega
      case c5 => simp; omega
      intro v' w1 hown1 hgrow _
      have hb1 : Below w.heap.size w w1 := (HB.out.alloc hsz _).grown hgrow (by simp; omega) (fun k e => (hown.lt k e).1)
      have ho2 : w1.ownsRow w.heap.size 26 1 v' (j + 1) (vals (numL (strL s) (j + 1))) := by
        rw [HNW.out, vals_append]; exact hown1
      have HO2 := Lib.hid ho2
      have HB1 := Lib.hid hb1
      clear hown1 hgrow ho2 hb1 hown
      go_wp2_with fail
      go_roundw
      case rel => exact ⟨j + 1, _, rfl, HD.out, by rw [HDS.out]; omega, HO2.out, HB1.out⟩
      case measure => simp only [strSz]; rw [HDS.out]; omega
    · obtain rfl : j = s.size / 8 := by omega
      have HO := Lib.hid hown
      have HB := Lib.hid hb
      have hlast : lowv (strL S) + s.size % 256 * 72057594037927936 = lastN (strL s) := by
        have hlt := lowv_drop_lt (strL S) 0 (by simp; omega)
        have e : lastN (strL s) = lenN (strL s) ||| lowv (strL S) := by
          unfold lastN
          rw [show (strL s).length = s.size by simp, ← hS, List.take_of_length_le (by simp; omega)]
        rw [e]
        unfold lenN
        rw [show (strL s).length = s.size by simp, Nat.add_comm]
        have := Nat.two_pow_add_eq_or_of_lt (i := 56) (b := lowv (strL S)) (by simpa using hlt) (s.size % 256)
        rw [show (2 : Nat) ^ 56 = 72057594037927936 from by decide, Nat.mul_comm] at this
        exact this
      have HLAST := Lib.hid hlast
      clear hown hb hlast
      go_wp2_with fail
      go_loopw [0] (fun s' wr2 => wr2 = wr ∧ ∃ (i : Nat) (S2 : ByteArray), s' = .string S2 ∧ strL S2 = strL S ++ List.replicate i 0 ∧ S2.size = S.size + i ∧ S2.size ≤ 7) (fun s' _ => 7 - strSz s')
      case atStart => exact ⟨rfl, 0, S, rfl, by simp, by omega, by omega⟩
      case round =>
        obtain ⟨rfl, i, S2, rfl, hS2, hs2, h7⟩ := hrel
        by_cases hlt2 : S2.size < 7
        · go_wp2_with fail
          have h0s : (ByteArray.mk #[0]).size = 1 := rfl
          go_roundw
          case rel => exact ⟨trivial, i + 1, _, rfl, by rw [strL_append, hS2, List.append_assoc, List.replicate_succ'], by rw [ByteArray.size_append, hs2, h0s]; omega, by rw [ByteArray.size_append, h0s]; omega⟩
          case measure => simp only [strSz]; rw [ByteArray.size_append, h0s]; omega
        · have hL := fun w => rlow_any S2 w (by omega)
          rw [hS2, lowv_zeros] at hL
          have HL := Lib.hid hL
          have hm : lowv (strL S) < 72057594037927936 := lowv_drop_lt (strL S) 0 (by simp; omega)
          generalize lowv (strL S) = m at *
          clear hL hS2
          go_wp2_with fail
          refine (HL.out _).mono ?_
          rintro e w' ⟨rfl, rfl⟩
          have HN : Hid ((m : Int) + (s.size : Int) % 256 * 72057594037927936 = ((lastN (strL s) : Nat) : Int)) := (by rw [← HLAST.out]; simp : ((m : Int) + (s.size : Int) % 256 * 72057594037927936 = ((lastN (strL s) : Nat) : Int)))
          have hown := HO.out
          go_wp2_with (at_builtin; refine wpList_append_own _ rfl _ _ 42 rfl w.heap.size 26 i0 (.int .u64 0) 1 8 Tryd.underlying42 hi hz0 hz1 hz2 rfl (by decide) _ _ _ rfl (hown.alloc _) ⟨wr.heap.size, 0, none⟩ 1 1 [.int .u64 ((m : Int) + (s.size : Int) % 256 * 72057594037927936)] rfl rfl (cell_one_new _ _ _) (one_cellU _) ?c3 ?c4 ?c5 ?_)
          case c3 => unfold maxLen; omega
          case c4 => omega
          case c5 => simp; omega
          intro v' w1 hown1 hgrow _
          have hb1 : Below w.heap.size w w1 := (HB.out.alloc hsz _).grown hgrow (by simp; omega) (fun k e => (hown.lt k e).1)
          have ho2 : w1.ownsRow w.heap.size 26 1 v' (s.size / 8 + 1) (vals (numL (strL s) (s.size / 8) ++ [lastN (strL s)])) := by
            rw [vals_append]
            rw [HN.out] at hown1
            exact hown1
          have HO2 := Lib.hid ho2
          have HB1 := Lib.hid hb1
          clear hown1 hgrow ho2 hb1 hown
          go_wp2_with fail
          go_ret
          exact ⟨_, rfl, HO2.out, HB1.out⟩

end Go.Proofs.YtocideolihbnaaaDoor
