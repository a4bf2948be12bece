/- Walk of the law WordPuts: it returns true; no conditions but that the numbers are of their kinds. -/
import Derived.Test.YtfffacgihgkobaaAwake
import Derived.Deep.RegionWith
import Derived.Deep.DrawnRows
set_option linter.unusedVariables false
set_option linter.unusedSimpArgs false
namespace Go.Proofs.Ytfffacgihgkobaa
open Go.RowKit
attribute [local go_sem ↓] Go.wp_at_zero Go.wp_at_succ

theorem own_below {w w1 : World} {base : Nat} {e : TypeId} {size n : Nat} {v : Value} {xs : List Value} (h : w.ownsRow base e size v n xs) (hb : Below w.heap.size w w1) : w1.ownsRow base e size v n xs :=
  h.kept (row := none) ⟨hb.os, hb.tape, hb.output, hb.size, fun i hi _ => hb.block i hi⟩ (by cases v.ownBlock <;> simp)

theorem below_step {w w1 w2 : World} (h : Below w.heap.size w w1) (k : Below w1.heap.size w1 w2) : Below w.heap.size w w2 := h.trans (k.mono h.size)

theorem RdB.below {w w1 : World} {A : Option Addr} {n : Nat} {l : List UInt8} (h : RdB w A n l) (hb : Below w.heap.size w w1) : RdB w1 A n l :=
  ⟨h.len, h.le, fun hn => by
    obtain ⟨b, o, e, hlt, hc⟩ := h.cell hn
    exact ⟨b, o, e, Nat.lt_of_lt_of_le hlt hb.size, fun j hj => (hb.cell hlt).trans (hc j hj)⟩⟩

theorem pow256 (m : Nat) : (256 : Int) ^ m = 2 ^ (8 * m) := by rw [Int.pow_mul]; rfl

theorem textv_get (x : Int) (K : Nat) : ∀ j, j < K → (((textv x K).getD j 0).toNat : Int) = bytev x (K - 1 - j) := by
  induction K with
  | zero => intro j hj; omega
  | succ k ih =>
    intro j hj
    cases j with
    | zero =>
      have h0 : 0 ≤ x / 256 ^ k % 256 := Int.emod_nonneg _ (by omega)
      have h1 : x / 256 ^ k % 256 < 256 := Int.emod_lt_of_pos _ (by omega)
      simp only [textv, List.getD_cons_zero]
      unfold bytev
      rw [show k + 1 - 1 - 0 = k by omega, ← pow256]
      generalize x / 256 ^ k % 256 = q at *
      rw [UInt8.toNat_ofNat_of_lt' (by show q.toNat < 256; omega)]
      omega
    | succ j =>
      simp only [textv, List.getD_cons_succ]
      rw [ih j (by omega), show k + 1 - 1 - (j + 1) = k - 1 - j by omega]

theorem put_reads {w : World} {base : Nat} {x : Int} {K : Nat} (h : w.ownsRow base 5 1 (.slice (some ⟨base, 0, none⟩) K K) K (putRow x K K)) (hK : K ≤ 8) : RdB w (some ⟨base, 0, none⟩) K (textv x K) :=
  ⟨textv_len x K, by omega, fun hn => ⟨base, 0, rfl, (h.lt base rfl).2, fun j hj => by
    rw [Nat.zero_add, h.cellAt j (by omega), putRow_nums, List.getElem?_map, textv_get x K j hj]
    simp [putNums, hj]⟩⟩

theorem put_str (x : Int) (K : Nat) : strOfNums (putNums x K) = strO (textv x K) := by
  unfold strOfNums strO
  congr 2
  apply List.ext_getElem
  · simp [putNums, textv_len]
  · intro j h1 h2
    rw [textv_len] at h2
    have h3 := textv_get x K j h2
    have h4 : (textv x K).getD j 0 = (textv x K)[j]'(by rw [textv_len]; exact h2) := by
      simp [List.getD_eq_getElem?_getD, textv_len, h2]
    rw [h4] at h3
    simp only [putNums, List.getElem_map, List.getElem_range]
    rw [← h3]
    simp

theorem emod_mul_eq (x b : Int) (hb : 0 < b) : x % (b * 256) = x % b + b * (x / b % 256) := by
  have h1 := Int.emod_def x (b * 256)
  have h2 := Int.emod_def x b
  have h3 := Int.emod_def (x / b) 256
  rw [Int.ediv_ediv_of_nonneg (by omega)] at h3
  rw [h1, h2, h3, Int.mul_sub, Int.mul_assoc]
  omega

/-- Of the lowest bytes comes the rest. -/
theorem numv_textv (x : Int) (hx : 0 ≤ x) (K : Nat) : (numv (textv x K) : Int) = x % 256 ^ K := by
  have gen : ∀ K a, (((textv x K).foldl (fun n c => n * 256 + c.toNat) a : Nat) : Int) = a * 256 ^ K + x % 256 ^ K := by
    intro K
    induction K with
    | zero => intro a; simp [textv]
    | succ k ih =>
      intro a
      have h0 : 0 ≤ x / 256 ^ k % 256 := Int.emod_nonneg _ (by omega)
      have h1 : x / 256 ^ k % 256 < 256 := Int.emod_lt_of_pos _ (by omega)
      have e : (UInt8.ofNat (x / 256 ^ k % 256).toNat).toNat = (x / 256 ^ k % 256).toNat := by
        rw [UInt8.toNat_ofNat_of_lt' (by show (x / 256 ^ k % 256).toNat < 256; omega)]
      rw [textv, List.foldl_cons, ih, e]
      have h2 : x % 256 ^ (k + 1) = x % 256 ^ k + 256 ^ k * (x / 256 ^ k % 256) := by
        rw [Int.pow_succ]; exact emod_mul_eq x (256 ^ k) (Int.pow_pos (by omega))
      rw [h2]
      have h3 : (((a * 256 + (x / 256 ^ k % 256).toNat : Nat)) : Int) = a * 256 + x / 256 ^ k % 256 := by omega
      rw [h3, Int.pow_succ, Int.add_mul]
      have h4 : (a : Int) * 256 * 256 ^ k = a * (256 ^ k * 256) := by rw [Int.mul_assoc, Int.mul_comm 256]
      rw [h4, Int.mul_comm (x / 256 ^ k % 256)]
      omega
  have := gen K 0
  simpa [numv] using this

set_option maxHeartbeats 1600000 in
theorem puts_any (x n : Int) (w : World) (hx : 0 ≤ x) (hx2 : x < 18446744073709551616) :
    Calls Try.prog 11 #[.int .u64 x, .int .i64 n] w fun e w' => e = .returned (.bool true) ∧ Below w.heap.size w w' := by
  obtain ⟨K, hK, hK2, hK8⟩ : ∃ K : Nat, cut3 n 0 8 = (K : Int) ∧ (if 8 < (if n < 0 then 0 else n) then 8 else (if n < 0 then 0 else n)) = (K : Int) ∧ K ≤ 8 :=
    ⟨(cut3 n 0 8).toNat, by unfold cut3; (repeat' split) <;> omega, by unfold cut3; (repeat' split) <;> omega, by unfold cut3; (repeat' split) <;> omega⟩
  have HK := Lib.hid hK
  have HK2 := Lib.hid hK2
  have HN := Lib.hid (numv_textv x hx K)
  clear hK hK2
  obtain ⟨S, hS⟩ : ∃ S, S = strO (textv x K) := ⟨_, rfl⟩
  have HS := Lib.hid hS
  have HS2 := Lib.hid ((put_str x K).trans hS.symm)
  have hl8 : (textv x K).take 8 = textv x K := List.take_of_length_le (by rw [textv_len]; exact hK8)
  rw [← hl8] at HN
  have hM0 : (0 : Int) < 256 ^ K := Int.pow_pos (by omega)
  obtain ⟨M, hM⟩ : ∃ M : Int, M = 256 ^ K := ⟨_, rfl⟩
  rw [← hM] at HN hM0
  have hw : K < 8 → IntKind.u64.wrap (2 ^ (8 * K)) = M := by
    intro h
    rw [u64_wrap, hM, ← pow256]
    have h3 : (256 : Nat) ^ K ≤ 256 ^ 7 := Nat.pow_le_pow_right (by omega) (by omega)
    have h4 : (256 : Nat) ^ 7 = 72057594037927936 := by decide
    have h5 : ((256 ^ K : Nat) : Int) = 256 ^ K := by simp
    omega
  have hx8 : ¬ K < 8 → x % M = x := by
    intro h
    obtain rfl : K = 8 := by omega
    have : (256 : Int) ^ 8 = 18446744073709551616 := by decide
    rw [hM, this]; omega
  clear hM hS hl8
  by_cases h : K < 8
  · have hw' := hw h
    clear hw hx8
    go_enter Try.func11, Try.ntmps11
    go_wp2_with fail
    refine (held_any _ _ _ _).mono ?_
    rintro e w1 ⟨rfl, rfl⟩
    rw [HK.out]
    go_wp2_with fail
    refine (put_any x n _ K HK2.out hK8).mono ?_
    rintro e w1 ⟨rfl, hown, hb⟩
    have hconv := put_text hown.drew
    rw [HS2.out] at hconv
    have HO := Lib.hid hown.drew
    have HB := Lib.hid hb
    clear hown hb
    go_wp2_with fail
    go_region_with (first | (go_at_call 28; refine (text_any x K _ hx hx2 hK8).mono ?_; rintro e w2 ⟨rfl, hb2⟩; rw [← HS.out]; have hconv2 := put_text (own_below HO.out hb2); rw [HS2.out] at hconv2; have HR2 := Lib.hid ((put_reads HO.out hK8).below hb2); have HB2 := Lib.hid hb2; clear hb2) | (go_at_call 29; refine (get_any _ _ _ _ _ HR2.out).mono ?_; rintro e w3 ⟨rfl, rfl⟩; rw [HN.out]) | (go_at_call 25; refine (awake_any _).mono ?_; rintro e w4 ⟨rfl, hb4⟩; have HB4 := Lib.hid hb4; clear hb4))
    all_goals go_wp2
    all_goals go_ret
    all_goals exact ⟨rfl, below_step (below_step HB.out.drew HB2.out) HB4.out⟩
  · have hx8' := hx8 h
    rw [hx8'] at HN
    clear hw hx8 hx8'
    go_enter Try.func11, Try.ntmps11
    go_wp2_with fail
    refine (held_any _ _ _ _).mono ?_
    rintro e w1 ⟨rfl, rfl⟩
    rw [HK.out]
    go_wp2_with fail
    refine (put_any x n _ K HK2.out hK8).mono ?_
    rintro e w1 ⟨rfl, hown, hb⟩
    have hconv := put_text hown.drew
    rw [HS2.out] at hconv
    have HO := Lib.hid hown.drew
    have HB := Lib.hid hb
    clear hown hb
    go_wp2_with fail
    go_region_with (first | (go_at_call 28; refine (text_any x K _ hx hx2 hK8).mono ?_; rintro e w2 ⟨rfl, hb2⟩; rw [← HS.out]; have hconv2 := put_text (own_below HO.out hb2); rw [HS2.out] at hconv2; have HR2 := Lib.hid ((put_reads HO.out hK8).below hb2); have HB2 := Lib.hid hb2; clear hb2) | (go_at_call 29; refine (get_any _ _ _ _ _ HR2.out).mono ?_; rintro e w3 ⟨rfl, rfl⟩; rw [HN.out]) | (go_at_call 25; refine (awake_any _).mono ?_; rintro e w4 ⟨rfl, hb4⟩; have HB4 := Lib.hid hb4; clear hb4))
    all_goals go_wp2
    all_goals go_ret
    all_goals exact ⟨rfl, below_step (below_step HB.out.drew HB2.out) HB4.out⟩

end Go.Proofs.Ytfffacgihgkobaa
