/- Contracts of the reference's steps on halves: Of, Whole, plus, xor, turn, swap; each speaks of numbers of 64 bits. -/
import Derived.Test.YtocideolihbnaaaDoorSip3
set_option linter.unusedVariables false
set_option linter.unusedSimpArgs false
namespace Go.Proofs.YtocideolihbnaaaDoor
open Go.RowKit

/-- A number's halves, the higher one first. -/
def two (x : Nat) : Value := .agg #[.int .u64 ((x / 4294967296 : Nat) : Int), .int .u64 ((x % 4294967296 : Nat) : Int)]

theorem rot_add (x k : Nat) (hk : k < 64) : rotN x k = (x % 2 ^ (64 - k)) * 2 ^ k + x / 2 ^ (64 - k) ∨ 18446744073709551616 ≤ x := by
  by_cases hx : 18446744073709551616 ≤ x
  · exact .inr hx
  · left
    unfold rotN
    have e : (18446744073709551616 : Nat) = 2 ^ (64 - k) * 2 ^ k := by rw [← Nat.pow_add, show 64 - k + k = 64 by omega]
    have h1 : x * 2 ^ k % 18446744073709551616 = (x % 2 ^ (64 - k)) * 2 ^ k := by rw [e, Nat.mul_mod_mul_right]
    have h2 : x / 2 ^ (64 - k) < 2 ^ k := by
      rw [Nat.div_lt_iff_lt_mul (Nat.pow_pos (by omega)), Nat.mul_comm, ← e]; omega
    rw [h1, Nat.mul_comm _ (2 ^ k), ← Nat.two_pow_add_eq_or_of_lt h2]

theorem parts13 {Ah Al Bh Bl : Nat} (b1 : Ah < 8192) (b2 : Al < 524288) (b3 : Bh < 8192) (b4 : Bl < 524288) :
    (Ah * 2251799813685248 + Al * 4294967296 + Bh * 524288 + Bl) % 2251799813685248 = Al * 4294967296 + Bh * 524288 + Bl ∧ (Ah * 2251799813685248 + Al * 4294967296 + Bh * 524288 + Bl) / 2251799813685248 = Ah ∧
    (Ah * 2251799813685248 + Al * 4294967296 + Bh * 524288 + Bl) / 4294967296 = Ah * 524288 + Al ∧ (Ah * 2251799813685248 + Al * 4294967296 + Bh * 524288 + Bl) % 4294967296 = Bh * 524288 + Bl := by
  refine ⟨?_, ?_, ?_, ?_⟩ <;> omega
theorem turns13 {Ah Al : Nat} (b1 : Ah < 8192) (b2 : Al < 524288) : (Ah * 524288 + Al) * 8192 % 4294967296 = Al * 8192 ∧ (Ah * 524288 + Al) * 8192 / 4294967296 = Ah := by
  refine ⟨?_, ?_⟩ <;> omega
theorem whole13 {Ah Al Bh Bl : Nat} (b1 : Ah < 8192) (b2 : Al < 524288) (b3 : Bh < 8192) (b4 : Bl < 524288) :
    ((Al * 4294967296 + Bh * 524288 + Bl) * 8192 + Ah) / 4294967296 = Al * 8192 + Bh ∧ ((Al * 4294967296 + Bh * 524288 + Bl) * 8192 + Ah) % 4294967296 = Bl * 8192 + Ah := by
  refine ⟨?_, ?_⟩ <;> omega
theorem parts16 {Ah Al Bh Bl : Nat} (b1 : Ah < 65536) (b2 : Al < 65536) (b3 : Bh < 65536) (b4 : Bl < 65536) :
    (Ah * 281474976710656 + Al * 4294967296 + Bh * 65536 + Bl) % 281474976710656 = Al * 4294967296 + Bh * 65536 + Bl ∧ (Ah * 281474976710656 + Al * 4294967296 + Bh * 65536 + Bl) / 281474976710656 = Ah ∧
    (Ah * 281474976710656 + Al * 4294967296 + Bh * 65536 + Bl) / 4294967296 = Ah * 65536 + Al ∧ (Ah * 281474976710656 + Al * 4294967296 + Bh * 65536 + Bl) % 4294967296 = Bh * 65536 + Bl := by
  refine ⟨?_, ?_, ?_, ?_⟩ <;> omega
theorem turns16 {Ah Al : Nat} (b1 : Ah < 65536) (b2 : Al < 65536) : (Ah * 65536 + Al) * 65536 % 4294967296 = Al * 65536 ∧ (Ah * 65536 + Al) * 65536 / 4294967296 = Ah := by
  refine ⟨?_, ?_⟩ <;> omega
theorem whole16 {Ah Al Bh Bl : Nat} (b1 : Ah < 65536) (b2 : Al < 65536) (b3 : Bh < 65536) (b4 : Bl < 65536) :
    ((Al * 4294967296 + Bh * 65536 + Bl) * 65536 + Ah) / 4294967296 = Al * 65536 + Bh ∧ ((Al * 4294967296 + Bh * 65536 + Bl) * 65536 + Ah) % 4294967296 = Bl * 65536 + Ah := by
  refine ⟨?_, ?_⟩ <;> omega
theorem parts21 {Ah Al Bh Bl : Nat} (b1 : Ah < 2097152) (b2 : Al < 2048) (b3 : Bh < 2097152) (b4 : Bl < 2048) :
    (Ah * 8796093022208 + Al * 4294967296 + Bh * 2048 + Bl) % 8796093022208 = Al * 4294967296 + Bh * 2048 + Bl ∧ (Ah * 8796093022208 + Al * 4294967296 + Bh * 2048 + Bl) / 8796093022208 = Ah ∧
    (Ah * 8796093022208 + Al * 4294967296 + Bh * 2048 + Bl) / 4294967296 = Ah * 2048 + Al ∧ (Ah * 8796093022208 + Al * 4294967296 + Bh * 2048 + Bl) % 4294967296 = Bh * 2048 + Bl := by
  refine ⟨?_, ?_, ?_, ?_⟩ <;> omega
theorem turns21 {Ah Al : Nat} (b1 : Ah < 2097152) (b2 : Al < 2048) : (Ah * 2048 + Al) * 2097152 % 4294967296 = Al * 2097152 ∧ (Ah * 2048 + Al) * 2097152 / 4294967296 = Ah := by
  refine ⟨?_, ?_⟩ <;> omega
theorem whole21 {Ah Al Bh Bl : Nat} (b1 : Ah < 2097152) (b2 : Al < 2048) (b3 : Bh < 2097152) (b4 : Bl < 2048) :
    ((Al * 4294967296 + Bh * 2048 + Bl) * 2097152 + Ah) / 4294967296 = Al * 2097152 + Bh ∧ ((Al * 4294967296 + Bh * 2048 + Bl) * 2097152 + Ah) % 4294967296 = Bl * 2097152 + Ah := by
  refine ⟨?_, ?_⟩ <;> omega
theorem parts17 {Ah Al Bh Bl : Nat} (b1 : Ah < 131072) (b2 : Al < 32768) (b3 : Bh < 131072) (b4 : Bl < 32768) :
    (Ah * 140737488355328 + Al * 4294967296 + Bh * 32768 + Bl) % 140737488355328 = Al * 4294967296 + Bh * 32768 + Bl ∧ (Ah * 140737488355328 + Al * 4294967296 + Bh * 32768 + Bl) / 140737488355328 = Ah ∧
    (Ah * 140737488355328 + Al * 4294967296 + Bh * 32768 + Bl) / 4294967296 = Ah * 32768 + Al ∧ (Ah * 140737488355328 + Al * 4294967296 + Bh * 32768 + Bl) % 4294967296 = Bh * 32768 + Bl := by
  refine ⟨?_, ?_, ?_, ?_⟩ <;> omega
theorem turns17 {Ah Al : Nat} (b1 : Ah < 131072) (b2 : Al < 32768) : (Ah * 32768 + Al) * 131072 % 4294967296 = Al * 131072 ∧ (Ah * 32768 + Al) * 131072 / 4294967296 = Ah := by
  refine ⟨?_, ?_⟩ <;> omega
theorem whole17 {Ah Al Bh Bl : Nat} (b1 : Ah < 131072) (b2 : Al < 32768) (b3 : Bh < 131072) (b4 : Bl < 32768) :
    ((Al * 4294967296 + Bh * 32768 + Bl) * 131072 + Ah) / 4294967296 = Al * 131072 + Bh ∧ ((Al * 4294967296 + Bh * 32768 + Bl) * 131072 + Ah) % 4294967296 = Bl * 131072 + Ah := by
  refine ⟨?_, ?_⟩ <;> omega

theorem rot_two (x : Nat) (hx : x < 18446744073709551616) (k : Nat) (hk : k = 13 ∨ k = 16 ∨ k = 21 ∨ k = 17) :
    rotN x k / 4294967296 = (x / 4294967296 * 2 ^ k) % 4294967296 + (x % 4294967296 * 2 ^ k) / 4294967296 ∧
    rotN x k % 4294967296 = (x % 4294967296 * 2 ^ k) % 4294967296 + (x / 4294967296 * 2 ^ k) / 4294967296 := by
  have h := (rot_add x k (by omega)).resolve_right (by omega)
  rw [h]
  rcases hk with rfl | rfl | rfl | rfl
  · simp only [show (64 - 13) = 51 from rfl, show (2 : Nat) ^ 51 = 2251799813685248 from by decide, show (2 : Nat) ^ 13 = 8192 from by decide]
    obtain ⟨Ah, Al, Bh, Bl, b1, b2, b3, b4, rfl⟩ : ∃ Ah Al Bh Bl, Ah < 8192 ∧ Al < 524288 ∧ Bh < 8192 ∧ Bl < 524288 ∧ x = Ah * 2251799813685248 + Al * 4294967296 + Bh * 524288 + Bl :=
      ⟨x / 2251799813685248, x % 2251799813685248 / 4294967296, x % 4294967296 / 524288, x % 524288, by omega, by omega, by omega, by omega, by omega⟩
    clear hx h
    rw [(parts13 b1 b2 b3 b4).1, (parts13 b1 b2 b3 b4).2.1, (parts13 b1 b2 b3 b4).2.2.1, (parts13 b1 b2 b3 b4).2.2.2, (turns13 b1 b2).1, (turns13 b1 b2).2, (turns13 b3 b4).1, (turns13 b3 b4).2, (whole13 b1 b2 b3 b4).1, (whole13 b1 b2 b3 b4).2]
    omega
  · simp only [show (64 - 16) = 48 from rfl, show (2 : Nat) ^ 48 = 281474976710656 from by decide, show (2 : Nat) ^ 16 = 65536 from by decide]
    obtain ⟨Ah, Al, Bh, Bl, b1, b2, b3, b4, rfl⟩ : ∃ Ah Al Bh Bl, Ah < 65536 ∧ Al < 65536 ∧ Bh < 65536 ∧ Bl < 65536 ∧ x = Ah * 281474976710656 + Al * 4294967296 + Bh * 65536 + Bl :=
      ⟨x / 281474976710656, x % 281474976710656 / 4294967296, x % 4294967296 / 65536, x % 65536, by omega, by omega, by omega, by omega, by omega⟩
    clear hx h
    rw [(parts16 b1 b2 b3 b4).1, (parts16 b1 b2 b3 b4).2.1, (parts16 b1 b2 b3 b4).2.2.1, (parts16 b1 b2 b3 b4).2.2.2, (turns16 b1 b2).1, (turns16 b1 b2).2, (turns16 b3 b4).1, (turns16 b3 b4).2, (whole16 b1 b2 b3 b4).1, (whole16 b1 b2 b3 b4).2]
    omega
  · simp only [show (64 - 21) = 43 from rfl, show (2 : Nat) ^ 43 = 8796093022208 from by decide, show (2 : Nat) ^ 21 = 2097152 from by decide]
    obtain ⟨Ah, Al, Bh, Bl, b1, b2, b3, b4, rfl⟩ : ∃ Ah Al Bh Bl, Ah < 2097152 ∧ Al < 2048 ∧ Bh < 2097152 ∧ Bl < 2048 ∧ x = Ah * 8796093022208 + Al * 4294967296 + Bh * 2048 + Bl :=
      ⟨x / 8796093022208, x % 8796093022208 / 4294967296, x % 4294967296 / 2048, x % 2048, by omega, by omega, by omega, by omega, by omega⟩
    clear hx h
    rw [(parts21 b1 b2 b3 b4).1, (parts21 b1 b2 b3 b4).2.1, (parts21 b1 b2 b3 b4).2.2.1, (parts21 b1 b2 b3 b4).2.2.2, (turns21 b1 b2).1, (turns21 b1 b2).2, (turns21 b3 b4).1, (turns21 b3 b4).2, (whole21 b1 b2 b3 b4).1, (whole21 b1 b2 b3 b4).2]
    omega
  · simp only [show (64 - 17) = 47 from rfl, show (2 : Nat) ^ 47 = 140737488355328 from by decide, show (2 : Nat) ^ 17 = 131072 from by decide]
    obtain ⟨Ah, Al, Bh, Bl, b1, b2, b3, b4, rfl⟩ : ∃ Ah Al Bh Bl, Ah < 131072 ∧ Al < 32768 ∧ Bh < 131072 ∧ Bl < 32768 ∧ x = Ah * 140737488355328 + Al * 4294967296 + Bh * 32768 + Bl :=
      ⟨x / 140737488355328, x % 140737488355328 / 4294967296, x % 4294967296 / 32768, x % 32768, by omega, by omega, by omega, by omega, by omega⟩
    clear hx h
    rw [(parts17 b1 b2 b3 b4).1, (parts17 b1 b2 b3 b4).2.1, (parts17 b1 b2 b3 b4).2.2.1, (parts17 b1 b2 b3 b4).2.2.2, (turns17 b1 b2).1, (turns17 b1 b2).2, (turns17 b3 b4).1, (turns17 b3 b4).2, (whole17 b1 b2 b3 b4).1, (whole17 b1 b2 b3 b4).2]
    omega

theorem swap_two (x : Nat) (hx : x < 18446744073709551616) : rotN x 32 / 4294967296 = x % 4294967296 ∧ rotN x 32 % 4294967296 = x / 4294967296 := by
  have h := (rot_add x 32 (by omega)).resolve_right (by omega)
  rw [h]
  simp only [show (64 - 32) = 32 from rfl, show (2 : Nat) ^ 32 = 4294967296 from by decide]
  omega

theorem add_two (a b : Nat) (ha : a < 18446744073709551616) (hb : b < 18446744073709551616) :
    addN a b / 4294967296 = (a / 4294967296 + b / 4294967296 + (a % 4294967296 + b % 4294967296) / 4294967296) % 4294967296 ∧ addN a b % 4294967296 = (a % 4294967296 + b % 4294967296) % 4294967296 := by
  unfold addN
  omega

theorem xor_two (a b : Nat) : (a ^^^ b) / 4294967296 = a / 4294967296 ^^^ b / 4294967296 ∧ (a ^^^ b) % 4294967296 = a % 4294967296 ^^^ b % 4294967296 := by
  have e : (4294967296 : Nat) = 2 ^ 32 := by decide
  rw [e]
  constructor
  · rw [Nat.xor_div_two_pow]
  · rw [Nat.xor_mod_two_pow]

theorem ret_two {a b : Int} {x : Nat} (h1 : a = ((x / 4294967296 : Nat) : Int)) (h2 : b = ((x % 4294967296 : Nat) : Int)) : Ending.returned (.agg #[.int .u64 a, .int .u64 b]) = .returned (two x) := by
  rw [h1, h2]; rfl

theorem two_eq (x : Nat) : ∃ a b : Nat, two x = .agg #[.int .u64 (a : Int), .int .u64 (b : Int)] ∧ a = x / 4294967296 ∧ b = x % 4294967296 := ⟨_, _, rfl, rfl, rfl⟩

theorem of_any (x : Nat) (w : World) (hx : x < 18446744073709551616) :
    Calls Tryd.prog 23 #[.int .u64 (x : Int)] w fun e w' => e = .returned (two x) ∧ Below w.heap.size w w' := by
  go_enter Tryd.func23, Tryd.ntmps23
  go_wp2_with fail
  exact bodyPost_ret (results_cell_row rfl _ _ w.heap.size 52 _ (0, 0) _ (by rfl) (heap_new w _) Tryd.underlying52 rfl info52) rfl ⟨ret_two (by simp) (by simp), (Below.refl _ w).alloc (Nat.le_refl _) _⟩

theorem whole_any (x : Nat) (w : World) (hx : x < 18446744073709551616) :
    Calls Tryd.prog 25 #[two x] w fun e w' => e = .returned (.int .u64 (x : Int)) ∧ Below w.heap.size w w' := by
  obtain ⟨a, b, e, ha, hb⟩ := two_eq x
  rw [e]
  have hr : (a : Int) * 4294967296 + b = x := by omega
  have hb1 : a < 4294967296 := by omega
  have hb2 : b < 4294967296 := by omega
  have HR := Lib.hid hr
  clear ha hb e hr
  go_enter Tryd.func25, Tryd.ntmps25
  go_wp2_with fail
  go_ret
  exact ⟨congrArg (fun z => Ending.returned (.int .u64 z)) HR.out, (Below.refl _ w).alloc (Nat.le_refl _) _⟩

theorem swap_any (x : Nat) (w : World) (hx : x < 18446744073709551616) :
    Calls Tryd.prog 31 #[two x] w fun e w' => e = .returned (two (rotN x 32)) ∧ Below w.heap.size w w' := by
  obtain ⟨a, b, e, ha, hb⟩ := two_eq x
  rw [e]
  have h := swap_two x hx
  rw [← ha, ← hb] at h
  have H := Lib.hid h
  clear ha hb e h
  generalize rotN x 32 = y at *
  go_enter Tryd.func31, Tryd.ntmps31
  go_wp2_with fail
  have hf := heap_new (w.alloc (.cells #[.int .u64 (a : Int), .int .u64 (b : Int)] 52)) (.cells #[.int .u64 (b : Int), .int .u64 (a : Int)] 52)
  rw [World.size_alloc] at hf
  exact bodyPost_ret (results_cell_row rfl _ _ (w.heap.size + 1) 52 _ (0, 0) _ (by rfl) hf Tryd.underlying52 rfl info52) rfl ⟨ret_two (by rw [H.out.1]) (by rw [H.out.2]), ((Below.refl _ w).alloc (Nat.le_refl _) _).alloc (by simp) _⟩

theorem plus_any (x y : Nat) (w : World) (hx : x < 18446744073709551616) (hy : y < 18446744073709551616) :
    Calls Tryd.prog 28 #[two x, two y] w fun e w' => e = .returned (two (addN x y)) ∧ Below w.heap.size w w' := by
  obtain ⟨a, b, e, ha, hb⟩ := two_eq x
  obtain ⟨c, d, e2, hc, hd⟩ := two_eq y
  rw [e, e2]
  have h := add_two x y hx hy
  rw [← ha, ← hb, ← hc, ← hd] at h
  have b1 : a < 4294967296 := by omega
  have b2 : b < 4294967296 := by omega
  have b3 : c < 4294967296 := by omega
  have b4 : d < 4294967296 := by omega
  have H := Lib.hid h
  clear ha hb e h hc hd e2 hx hy
  generalize addN x y = z at *
  go_enter Tryd.func28, Tryd.ntmps28
  go_wp2_with fail
  obtain ⟨z1, hz1⟩ : ∃ t : Int, ((a : Int) + c + (b + d) / 4294967296) % 4294967296 = t := ⟨_, rfl⟩
  obtain ⟨z2, hz2⟩ : ∃ t : Int, ((b : Int) + d) % 4294967296 = t := ⟨_, rfl⟩
  simp only [hz1, hz2]
  have hf := heap_new ((w.alloc (.cells #[.int .u64 (a : Int), .int .u64 (b : Int)] 52)).alloc (.cells #[.int .u64 (c : Int), .int .u64 (d : Int)] 52)) (.cells #[.int .u64 z1, .int .u64 z2] 52)
  simp only [World.size_alloc] at hf
  refine bodyPost_ret (results_cell_row rfl _ _ (w.heap.size + 1 + 1) 52 _ (0, 0) _ (by rfl) hf Tryd.underlying52 rfl info52) rfl ⟨ret_two ?_ ?_, (((Below.refl _ w).alloc (Nat.le_refl _) _).alloc (by simp) _).alloc (by simp; omega) _⟩
  · rw [H.out.1, ← hz1]; simp
  · rw [H.out.2, ← hz2]; simp

theorem xor_any (x y : Nat) (w : World) (hx : x < 18446744073709551616) (hy : y < 18446744073709551616) :
    Calls Tryd.prog 29 #[two x, two y] w fun e w' => e = .returned (two (x ^^^ y)) ∧ Below w.heap.size w w' := by
  obtain ⟨a, b, e, ha, hb⟩ := two_eq x
  obtain ⟨c, d, e2, hc, hd⟩ := two_eq y
  rw [e, e2]
  have h := xor_two x y
  rw [← ha, ← hb, ← hc, ← hd] at h
  have h1 := u64_xor_nat a c (by omega) (by omega)
  have h2 := u64_xor_nat b d (by omega) (by omega)
  rw [← h.1] at h1
  rw [← h.2] at h2
  clear ha hb e h hc hd e2 hx hy
  generalize x ^^^ y = z at *
  have HZ : Hid (two z = .agg #[.int .u64 ((z / 4294967296 : Nat) : Int), .int .u64 ((z % 4294967296 : Nat) : Int)]) := rfl
  generalize z / 4294967296 = z1 at *
  generalize z % 4294967296 = z2 at *
  go_enter Tryd.func29, Tryd.ntmps29
  go_wp2_with fail
  have hf := heap_new ((w.alloc (.cells #[.int .u64 (a : Int), .int .u64 (b : Int)] 52)).alloc (.cells #[.int .u64 (c : Int), .int .u64 (d : Int)] 52)) (.cells #[.int .u64 (z1 : Int), .int .u64 (z2 : Int)] 52)
  simp only [World.size_alloc] at hf
  exact bodyPost_ret (results_cell_row rfl _ _ (w.heap.size + 1 + 1) 52 _ (0, 0) _ (by rfl) hf Tryd.underlying52 rfl info52) rfl ⟨by rw [HZ.out], (((Below.refl _ w).alloc (Nat.le_refl _) _).alloc (by simp) _).alloc (by simp; omega) _⟩

theorem set2 {W : World} {b : Nat} {t : TypeId} {u v x y : Value} (h : W.heap[b]? = some (.cells #[u, v] t (0, 0))) : ((W.setCell ⟨b, 0, none⟩ x).setCell ⟨b, 1, none⟩ y).heap[b]? = some (.cells #[x, y] t (0, 0)) := by
  simp [World.setCell, Array.getElem?_modify, h]
theorem below_drewN {B : Nat} {a w : World} (h : Below B a w) (n : Nat) : Below B a (w.drewN n) := ⟨h.os, h.tape, h.output, h.size, h.block⟩

theorem pow2_int (k : Nat) : (2 : Int) ^ k = ((2 ^ k : Nat) : Int) := by simp

set_option maxHeartbeats 800000 in
theorem turnR_any (x k : Nat) (w : World) (hx : x < 18446744073709551616) (hk : k = 13 ∨ k = 16 ∨ k = 21 ∨ k = 17) :
    Calls Tryd.prog 30 #[two x, .int .u64 (k : Int)] w fun e w' => e = .returned (two (rotN x k)) ∧ Below w.heap.size w w' := by
  obtain ⟨a, b, e, ha, hb⟩ := two_eq x
  rw [e]
  have h := rot_two x hx k hk
  rw [← ha, ← hb] at h
  have b1 : a < 4294967296 := by omega
  have b2 : b < 4294967296 := by omega
  have hk32 : k ≤ 21 := by omega
  have HK := Lib.hid hk
  have HPM := Lib.hid (fun j (hj : j ≤ k) => (Nat.pow_le_pow_right (n := 2) (by omega) (show j ≤ 21 by omega) : 2 ^ j ≤ 2 ^ 21))
  have H := Lib.hid h
  clear ha hb e h hx hk
  generalize rotN x k = z at *
  have hX0 := heap_new (w.alloc (.cells #[.int .u64 (a : Int), .int .u64 (b : Int)] 52)) (.cells #[.int .u64 0, .int .u64 0] 52)
  go_enter Tryd.func30, Tryd.ntmps30
  go_wp2_with fail
  go_loop [5, 6] (fun p v => ∃ j : Nat, j ≤ k ∧ p = .int .u64 ((2 ^ j : Nat) : Int) ∧ v = .int .u64 (j : Int)) (fun _ v => k - (intOf v).toNat)
  case atStart => exact ⟨0, by omega, rfl, rfl⟩
  case round =>
    obtain ⟨j, hj, rfl, rfl⟩ := hrel
    have hp := HPM.out j hj
    rw [show (2 : Nat) ^ 21 = 2097152 from by decide] at hp
    have HS : Hid (2 ^ (j + 1) = 2 ^ j * 2) := Nat.pow_succ 2 j
    obtain ⟨P, hP⟩ : ∃ P, 2 ^ j = P := ⟨_, rfl⟩
    rw [hP] at hp HS ⊢
    by_cases hlt : j < k
    · have HPP := Lib.hid hP
      clear hP
      go_wp2_with fail
      go_round
      case rel => exact ⟨j + 1, by omega, by rw [HS.out]; go_num, by go_num⟩
      case measure => simp [intOf]; omega
    · obtain rfl : j = k := by omega
      have HPP := Lib.hid hP
      clear hP
      have hap : a * P ≤ 4294967295 * 2097152 := Nat.mul_le_mul (by omega) hp
      have hbp : b * P ≤ 4294967295 * 2097152 := Nat.mul_le_mul (by omega) hp
      have e1 : (a : Int) * P = ((a * P : Nat) : Int) := by simp
      have e2 : (b : Int) * P = ((b * P : Nat) : Int) := by simp
      have HMA : Hid (a * P = a * P) := rfl
      have h := H.out
      rw [HPP.out] at h
      clear H
      generalize a * P = M at *
      generalize b * P = N at *
      have w1 : IntKind.u64.wrap ((a : Int) * P) = (M : Int) := by rw [e1, u64_wrap]; omega
      have w2 : IntKind.u64.wrap ((b : Int) * P) = (N : Int) := by rw [e2, u64_wrap]; omega
      have H := Lib.hid h
      clear h e1 e2 HMA
      go_wp2_with fail
      go_quiet (fail)
      have hm1 : M < 18446744073709551616 := by omega
      have hn1 : N < 18446744073709551616 := by omega
      clear w1 w2
      go_wp2_with fail
      refine bodyPost_ret (results_cell_row rfl _ _ (w.heap.size + 1) 52 _ (0, 0) _ (by rfl) (set2 (t := 52) (u := .int .u64 0) (v := .int .u64 0) ?_) Tryd.underlying52 rfl info52) rfl ⟨ret_two ?_ ?_, ((below_drewN (((Below.refl _ w).alloc (Nat.le_refl _) _).alloc (by simp) _) _).setCell (by simp) _).setCell (by simp) _⟩
      · rw [World.size_alloc] at hX0; exact hX0
      · rw [H.out.1]; simp
      · rw [H.out.2]; simp

end Go.Proofs.YtocideolihbnaaaDoor
