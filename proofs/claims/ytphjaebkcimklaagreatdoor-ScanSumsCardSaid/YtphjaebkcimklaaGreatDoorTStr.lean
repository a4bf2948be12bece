/- Texts: the order of bytes; Less; a map's row of texts. -/
import Derived.Test.YtphjaebkcimklaaGreatDoorTDel
set_option linter.unusedVariables false
set_option linter.unusedSimpArgs false
namespace Go.Proofs.YtphjaebkcimklaaGreatDoor
open Go.RowKit

abbrev cmp := Lib.compareBytes

/-! ### The order -/
theorem cmp_eq0 : ∀ a b : Bytes, cmp a b = 0 ↔ a = b
  | [], [] => by simp [Lib.compareBytes]
  | [], y :: ys => by simp [Lib.compareBytes]
  | x :: xs, [] => by simp [Lib.compareBytes]
  | x :: xs, y :: ys => by
    have ih := cmp_eq0 xs ys
    show Lib.compareBytes (x :: xs) (y :: ys) = 0 ↔ _
    rw [Lib.compareBytes]
    by_cases h : x < y
    · rw [if_pos h]
      constructor
      · intro h'; exact absurd h' (by decide)
      · intro h'; cases h'; exact absurd h (UInt8.lt_irrefl x)
    · rw [if_neg h]
      by_cases h2 : y < x
      · rw [if_pos h2]
        constructor
        · intro h'; exact absurd h' (by decide)
        · intro h'; cases h'; exact absurd h2 (UInt8.lt_irrefl x)
      · rw [if_neg h2]
        have e : x = y := UInt8.le_antisymm (UInt8.not_lt.1 h2) (UInt8.not_lt.1 h)
        subst e
        rw [List.cons.injEq, ← ih]
        simp
theorem cmp_self (a : Bytes) : cmp a a = 0 := (cmp_eq0 a a).2 rfl
theorem cmp_neg : ∀ a b : Bytes, cmp b a = - cmp a b
  | [], [] => by simp [Lib.compareBytes]
  | [], y :: ys => by simp [Lib.compareBytes]
  | x :: xs, [] => by simp [Lib.compareBytes]
  | x :: xs, y :: ys => by
    have ih := cmp_neg xs ys
    show Lib.compareBytes (y :: ys) (x :: xs) = - Lib.compareBytes (x :: xs) (y :: ys)
    rw [Lib.compareBytes, Lib.compareBytes]
    by_cases h : x < y
    · rw [if_pos h, if_neg (UInt8.lt_asymm h)]; simp [h]
    · rw [if_neg h]
      by_cases h2 : y < x
      · simp [h, h2]
      · simp only [h, h2, if_false]; exact ih
theorem cmp_lt_trans : ∀ a b c : Bytes, cmp a b = -1 → cmp b c = -1 → cmp a c = -1
  | a, [], c, h, _ => by cases a <;> simp [Lib.compareBytes] at h
  | a, y :: ys, [], _, h => by simp [Lib.compareBytes] at h
  | [], y :: ys, z :: zs, _, _ => by simp [Lib.compareBytes]
  | x :: xs, y :: ys, z :: zs, h1, h2 => by
    have ih := cmp_lt_trans xs ys zs
    show Lib.compareBytes (x :: xs) (z :: zs) = -1
    change Lib.compareBytes (x :: xs) (y :: ys) = -1 at h1
    change Lib.compareBytes (y :: ys) (z :: zs) = -1 at h2
    rw [Lib.compareBytes] at h1 h2 ⊢
    by_cases hxy : x < y
    · by_cases hyz : y < z
      · rw [if_pos (UInt8.lt_trans hxy hyz)]
      · rw [if_neg hyz] at h2
        by_cases hzy : z < y
        · rw [if_pos hzy] at h2; exact absurd h2 (by decide)
        · have e : y = z := UInt8.le_antisymm (UInt8.not_lt.1 hzy) (UInt8.not_lt.1 hyz)
          subst e; rw [if_pos hxy]
    · rw [if_neg hxy] at h1
      by_cases hyx : y < x
      · rw [if_pos hyx] at h1; exact absurd h1 (by decide)
      · rw [if_neg hyx] at h1
        have e : x = y := UInt8.le_antisymm (UInt8.not_lt.1 hyx) (UInt8.not_lt.1 hxy)
        subst e
        by_cases hyz : x < z
        · rw [if_pos hyz]
        · rw [if_neg hyz] at h2 ⊢
          by_cases hzy : z < x
          · rw [if_pos hzy] at h2; exact absurd h2 (by decide)
          · rw [if_neg hzy] at h2 ⊢; exact ih h1 h2
theorem cmp_lt_asymm {a b : Bytes} (h : cmp a b = -1) : cmp b a = 1 := by rw [cmp_neg, h]; rfl
theorem cmp_gt {a b : Bytes} (h : cmp a b = 1) : cmp b a = -1 := by rw [cmp_neg, h]

/-- The first place where two differ. -/
theorem cmp_at : ∀ (j : Nat) (a b : Bytes), j ≤ a.length → j ≤ b.length → a.take j = b.take j → cmp a b = cmp (a.drop j) (b.drop j)
  | 0, a, b, _, _, _ => by simp
  | j + 1, [], b, h, _, _ => by simp at h
  | j + 1, a :: u, [], _, h, _ => by simp at h
  | j + 1, a :: u, b :: bs, h1, h2, h3 => by
    simp only [List.take_succ_cons, List.cons.injEq] at h3
    obtain ⟨rfl, h3⟩ := h3
    rw [List.drop_succ_cons, List.drop_succ_cons, ← cmp_at j u bs (by simpa using h1) (by simpa using h2) h3]
    show Lib.compareBytes (a :: u) (a :: bs) = _
    rw [Lib.compareBytes, if_neg (UInt8.lt_irrefl a), if_neg (UInt8.lt_irrefl a)]

/-! ### Texts -/
def strO (l : Bytes) : ByteArray := ⟨l.toArray⟩
abbrev strL (s : ByteArray) : Bytes := s.data.toList
theorem strO_size (l : Bytes) : (strO l).size = l.length := by simp [strO, ByteArray.size]
theorem strL_strO (l : Bytes) : strL (strO l) = l := by unfold strO; rfl
theorem strO_strL (s : ByteArray) : strO (strL s) = s := by apply ByteArray.ext; show (strL s).toArray = s.data; exact Array.toArray_toList
theorem strO_inj {a b : Bytes} : strO a = strO b ↔ a = b := ⟨fun h => by rw [← strL_strO a, h, strL_strO], fun h => by rw [h]⟩
theorem strL_size (s : ByteArray) : (strL s).length = s.size := Array.length_toList
theorem strL_get (s : ByteArray) (j : Nat) (h : j < s.size) : (strL s)[j]'(by rw [strL_size]; exact h) = s[j] := by
  show s.data.toList[j]'_ = s.data[j]
  rw [Array.getElem_toList]

theorem strOfNums_strO (l : List UInt8) : strOfNums (l.map fun c => (c.toNat : Int)) = strO l := by
  apply ByteArray.ext
  apply Array.toList_inj.1
  rw [strOfNums_data]
  simp [strO, Function.comp_def]

theorem conv_bytes {S : Nat → Prop} {w : World} {A : Option Addr} {n c : Nat} {l : Bytes} (h : BIn S w (.slice A n c) l) : (convert 23 9 (.slice A n c)).run Tryz.prog w = .ok (.string (strO l)) w := by
  obtain ⟨A', n', c', e, _, hR, _⟩ := h
  cases e
  by_cases hn : n = 0
  · have := hR.len
    subst hn
    obtain rfl : l = [] := List.eq_nil_of_length_eq_zero this
    rw [run_convert_bytes_string w 23 9 5 _ 0 c Tryz.underlying23 Tryz.underlying5 Tryz.underlying9]
    cases A with
    | none => simp [Conv.bytesToString, strO]; rfl
    | some a => rw [run_bytesToString w a 0 c [] (by rfl)]; rfl
  · obtain ⟨b, o, rfl, hlt, hc⟩ := hR.cell (by omega)
    have hl := hR.len
    rw [← strOfNums_strO]
    refine run_convert_bytes_arg w 23 5 Tryz.underlying23 Tryz.underlying5 b o n c _ (by simpa using hl) (fun i hi => ?_) 9 Tryz.underlying9
    rw [hc i hi]
    simp [List.getD_eq_getElem?_getD, List.getElem?_map, List.getElem?_eq_getElem (show i < l.length by omega)]

theorem below_drewN' {w : World} (n : Nat) : Below w.heap.size w (w.drewN n) := below_drewN (Below.refl _ _) n

theorem less_last {s t : ByteArray} (j : Nat) (h1 : j ≤ s.size) (h2 : j ≤ t.size) (h : (strL s).take j = (strL t).take j) (hs : j = s.size ∨ j = t.size) :
    decide (s.size < t.size) = decide (cmp (strL s) (strL t) = -1) := by
  rw [cmp_at j (strL s) (strL t) (by rw [strL_size]; exact h1) (by rw [strL_size]; exact h2) h]
  rcases hs with rfl | rfl
  · rw [List.drop_of_length_le (by rw [strL_size]; exact Nat.le_refl _)]
    have hl := strL_size t
    cases hd : (strL t).drop s.size with
    | nil =>
      have := congrArg List.length hd
      rw [List.length_drop, strL_size] at this
      simp only [List.length_nil] at this
      simp [Lib.compareBytes]; omega
    | cons y ys =>
      have := congrArg List.length hd
      rw [List.length_drop, strL_size] at this
      simp only [List.length_cons] at this
      simp [Lib.compareBytes]; omega
  · rw [List.drop_of_length_le (l := strL t) (by rw [strL_size]; exact Nat.le_refl _)]
    have : ¬ s.size < t.size := by omega
    rw [decide_eq_false this]
    symm
    rw [decide_eq_false_iff_not]
    cases (strL s).drop t.size <;> simp [Lib.compareBytes]

theorem less_at {s t : ByteArray} (j : Nat) (h1 : j < s.size) (h2 : j < t.size) (h : (strL s).take j = (strL t).take j) (hne : s[j] ≠ t[j]) :
    decide (s[j] < t[j]) = decide (cmp (strL s) (strL t) = -1) := by
  rw [cmp_at j (strL s) (strL t) (by rw [strL_size]; omega) (by rw [strL_size]; omega) h]
  rw [List.drop_eq_getElem_cons (l := strL s) (by rw [strL_size]; exact h1), List.drop_eq_getElem_cons (l := strL t) (by rw [strL_size]; exact h2), strL_get s j h1, strL_get t j h2]
  show _ = decide (Lib.compareBytes _ _ = -1)
  rw [Lib.compareBytes]
  by_cases hlt : s[j] < t[j]
  · rw [if_pos hlt, decide_eq_true hlt]; rfl
  · rw [if_neg hlt, decide_eq_false hlt]
    by_cases hgt : t[j] < s[j]
    · rw [if_pos hgt]; rfl
    · exact absurd (UInt8.le_antisymm (UInt8.not_lt.1 hgt) (UInt8.not_lt.1 hlt)) hne

theorem take_snoc {s t : ByteArray} (j : Nat) (h1 : j < s.size) (h2 : j < t.size) (h : (strL s).take j = (strL t).take j) (he : s[j] = t[j]) : (strL s).take (j + 1) = (strL t).take (j + 1) := by
  rw [List.take_succ_eq_append_getElem (by rw [strL_size]; exact h1), List.take_succ_eq_append_getElem (by rw [strL_size]; exact h2), h, strL_get s j h1, strL_get t j h2, he]

set_option maxHeartbeats 3200000 in
theorem less_any (s t : ByteArray) (w : World) (hs0 : s.size ≤ 1000000) : Calls Tryz.prog 46 #[.string s, .string t] w fun e w' => e = .returned (.bool (decide (cmp (strL s) (strL t) = -1))) ∧ ∃ q, w' = w.drewN q := by
  go_enter Tryz.func46, Tryz.ntmps46
  go_wp2_with fail
  go_loopw [5] (fun v wr => ∃ j : Nat, v = .int .i64 (j : Int) ∧ j ≤ s.size ∧ j ≤ t.size ∧ Hid ((strL s).take j = (strL t).take j) ∧ ∃ q, wr = w.drewN q) (fun v _ => s.size - (intOf v).toNat)
  case atStart => exact ⟨0, rfl, by omega, by omega, Lib.hid (by simp), 0, rfl⟩
  case round =>
    obtain ⟨j, rfl, hs, ht, htk, q, rfl⟩ := hrel
    by_cases hb : j < s.size ∧ j < t.size
    · obtain ⟨h1, h2⟩ := hb
      have hd1 := s[j].toNat_lt
      have hd2 := t[j].toNat_lt
      by_cases he : s[j] = t[j]
      · have HN : Hid ((strL s).take (j + 1) = (strL t).take (j + 1)) := take_snoc j h1 h2 htk.out he
        have HE := Lib.hid he
        have he' : (s[j].toNat : Int) = t[j].toNat := by rw [he]
        clear he
        go_wp2_with fail
        go_quiet (fail)
        go_wp2_with fail
        go_roundw
        case rel => exact ⟨j + 1, by go_num, by omega, by omega, HN, q + nq, rfl⟩
        case measure => simp [intOf]; omega
      · have HN : Hid (decide (s[j] < t[j]) = decide (cmp (strL s) (strL t) = -1)) := less_at j h1 h2 htk.out he
        have he' : ¬ (s[j].toNat : Int) = t[j].toNat := fun h => he (UInt8.toNat_inj.1 (by omega))
        go_wp2_with fail
        go_quiet (fail)
        go_wp2_with fail
        go_quiet (fail)
        go_wp2_with fail
        go_ret
        rw [← HN.out]
        refine ⟨?_, _, by rw [World.drewN_drewN, World.drewN_drewN]⟩
        congr 2
    · have HN : Hid (decide (s.size < t.size) = decide (cmp (strL s) (strL t) = -1)) := less_last j hs ht htk.out (by omega)
      by_cases h1 : j < s.size
      · have h2 : ¬ j < t.size := fun h => hb ⟨h1, h⟩
        clear hb
        go_wp2_with fail
        go_ret
        exact ⟨by rw [← HN.out]; simp, q, rfl⟩
      · clear hb
        go_wp2_with fail
        go_ret
        exact ⟨by rw [← HN.out]; simp, q, rfl⟩

end Go.Proofs.YtphjaebkcimklaaGreatDoor
