/- Walk of the law WordGets: it returns true, for every slice of bytes. -/
import Derived.Test.YtfffacgihgkobaaAwake
set_option linter.unusedVariables false
set_option linter.unusedSimpArgs false
namespace Go.Proofs.Ytfffacgihgkobaa
open Go.RowKit
attribute [local go_sem] max2_num min2_num maxOf_two minOf_two

theorem loadCells_zero {P : Program} (w : World) (ad : Addr) : (loadCells ad 0).run P w = .ok #[] w := by
  first | rfl | simp [loadCells] | (unfold loadCells; rfl)

theorem conv_take {w : World} {A : Option Addr} {n : Nat} {l : List UInt8} (h : RdB w A n l) (m c : Nat) (hm : m ≤ n) :
    (convert 38 9 (.slice A m c)).run Try.prog w = .ok (.string (strO (l.take m))) w := by
  rcases Nat.eq_zero_or_pos m with h0 | h0
  · subst h0
    rw [run_convert_bytes_string w 38 9 5 _ 0 c Try.underlying38 Try.underlying5 Try.underlying9]
    cases A with
    | none => simp [Conv.bytesToString, strO]; rfl
    | some ad => rw [run_bytesToString w ad 0 c [] (loadCells_zero w ad)]; rfl
  · obtain ⟨b, o, rfl, _, hc⟩ := h.cell (by omega)
    have hl := h.len
    rw [run_convert_bytes_arg w 38 5 Try.underlying38 Try.underlying5 b o m c ((l.take m).map fun c => (c.toNat : Int)) (by simp; omega) (fun i hi => by
      rw [hc i (by omega)]
      simp [List.getD_eq_getElem?_getD, List.getElem?_take, hi]
      rw [List.getElem?_eq_getElem (by omega)]; simp) 9 Try.underlying9]
    simp [strOfNums, strO, Function.comp_def]

theorem numv_reverse (l : List UInt8) : numv l.reverse = lowv l := by
  induction l with
  | nil => rfl
  | cons c r ih => rw [List.reverse_cons, numv_snoc, ih, lowv]; omega

set_option maxHeartbeats 800000 in
theorem gets_any (A : Option Addr) (n c : Nat) (l : List UInt8) (w : World) (h : RdB w A n l) (hc : n ≤ c) (hcm : c ≤ 9223372036854775807) :
    Calls Try.prog 12 #[.slice A n c] w fun e w' => e = .returned (.bool true) ∧ Below w.heap.size w w' := by
  have HR := Lib.hid h
  have hle := h.le
  clear h
  by_cases hbig : 100 < n
  · go_enter Try.func12, Try.ntmps12
    go_wp2_with (go_at_call 25; refine (awake_any _).mono ?_; rintro e w1 ⟨rfl, hb⟩; have HB := Lib.hid hb; clear hb)
    go_ret
    exact ⟨rfl, HB.out⟩
  · obtain ⟨m, hm⟩ : ∃ m : Nat, (if 8 < (n : Int) then 8 else (n : Int)) = (m : Int) := ⟨min n 8, by split <;> omega⟩
    have hmb : m ≤ 8 ∧ m ≤ n := by
      constructor
      · split at hm <;> omega
      · split at hm <;> omega
    obtain ⟨hm8, hmn⟩ := hmb
    have hconv := conv_take HR.out m c hmn
    have hl := HR.out.len
    have e8 : l.take m = l.take 8 := by
      by_cases h8 : m = 8
      · rw [h8]
      · have : m = n := by split at hm <;> omega
        rw [List.take_of_length_le (by omega), List.take_of_length_le (by omega)]
    rw [e8] at hconv
    have hs8 : (strO (l.take 8)).size ≤ 8 := by rw [strO_size, List.length_take]; omega
    have hr8 : (strO (l.take 8).reverse).size ≤ 8 := by rw [strO_size, List.length_reverse, List.length_take]; omega
    have HG := Lib.hid (show numv (strL (strO (l.take 8))) = numv (l.take 8) from rfl)
    have HK := Lib.hid (show (strL (strO (l.take 8))).reverse = (l.take 8).reverse from rfl)
    have HN := Lib.hid (show numv (strL (strO (l.take 8).reverse)) = lowv (l.take 8) from numv_reverse _)
    clear hl e8
    go_enter Try.func12, Try.ntmps12
    go_wp2_with fail
    refine (get_any _ _ _ _ _ HR.out).mono ?_
    rintro e w1 ⟨rfl, rfl⟩
    go_wp2_with fail
    refine (number_any _ _ hs8).mono ?_
    rintro e w1 ⟨rfl, rfl⟩
    rw [HG.out]
    go_wp2_with fail
    refine (low_any _ _ _ _ _ HR.out).mono ?_
    rintro e w1 ⟨rfl, rfl⟩
    go_wp2_with fail
    refine (back_any _ _ hs8).mono ?_
    rintro e w2 ⟨rfl, hb2⟩
    have HB2 := Lib.hid hb2
    clear hb2
    rw [HK.out]
    go_wp2_with fail
    refine (number_any _ _ hr8).mono ?_
    rintro e w3 ⟨rfl, rfl⟩
    rw [HN.out]
    go_wp2_with fail
    refine (awake_any _).mono ?_
    rintro e w4 ⟨rfl, hb4⟩
    have HB4 := Lib.hid hb4
    clear hb4
    go_wp2
    go_ret
    exact ⟨rfl, HB2.out.trans (HB4.out.mono HB2.out.size)⟩

end Go.Proofs.Ytfffacgihgkobaa
