/- How many bits a number has, as two ways of counting tell it: plain numbers alone. -/
import Derived.Below
set_option linter.unusedVariables false
namespace Go.Proofs.YtbmiaagkognlpaaDoor

/-- How many of the first places answer yes. -/
def cnt (f : Nat → Bool) : Nat → Nat
  | 0 => 0
  | n + 1 => cnt f n + (f n).toNat

theorem cnt_congr {f g : Nat → Bool} : ∀ n, (∀ k, k < n → f k = g k) → cnt f n = cnt g n
  | 0, _ => rfl
  | n + 1, h => by rw [cnt, cnt, cnt_congr n (fun k hk => h k (by omega)), h n (by omega)]

theorem cnt_add (f : Nat → Bool) (n : Nat) : ∀ m, cnt f (n + m) = cnt f n + cnt (fun k => f (n + k)) m
  | 0 => by simp [cnt]
  | m + 1 => by rw [← Nat.add_assoc, cnt, cnt_add f n m, cnt]; omega

theorem cnt_le (f : Nat → Bool) : ∀ n, cnt f n ≤ n
  | 0 => Nat.le_refl _
  | n + 1 => by rw [cnt]; have := cnt_le f n; cases f n <;> simp <;> omega

theorem cnt_filter (f : Nat → Bool) : ∀ n, ((List.range n).filter f).length = cnt f n
  | 0 => rfl
  | n + 1 => by
    rw [List.range_succ, List.filter_append, List.length_append, cnt_filter f n, cnt]
    cases h : f n <;> simp [h]

/-- The bytes of a number of four. -/
theorem four_bytes (y : Nat) (h : y < 4294967296) : ∃ a b c d, a < 256 ∧ b < 256 ∧ c < 256 ∧ d < 256 ∧ y = a + 256 * (b + 256 * (c + 256 * d)) :=
  ⟨y % 256, y / 256 % 256, y / 65536 % 256, y / 16777216, by omega, by omega, by omega, by omega, by omega⟩

theorem testBit_byte (a z k : Nat) (ha : a < 256) : (a + 256 * z).testBit k = if k < 8 then a.testBit k else z.testBit (k - 8) := by
  have := Nat.testBit_two_pow_mul_add z (i := 8) (b := a) (by omega) k
  rw [show 2 ^ 8 = 256 by decide] at this
  rw [Nat.add_comm, this]

theorem cnt_byte (a z : Nat) (ha : a < 256) (n : Nat) : cnt (a + 256 * z).testBit (8 + n) = cnt a.testBit 8 + cnt z.testBit n := by
  rw [cnt_add]
  rw [cnt_congr (f := (a + 256 * z).testBit) (g := a.testBit) 8 (fun k hk => by rw [testBit_byte a z k ha, if_pos hk])]
  rw [cnt_congr (g := z.testBit) n (fun k hk => by rw [testBit_byte a z _ ha, if_neg (by omega)]; congr 1; omega)]

theorem cnt_four (a b c d : Nat) (ha : a < 256) (hb : b < 256) (hc : c < 256) (hd : d < 256) :
    cnt (a + 256 * (b + 256 * (c + 256 * d))).testBit 32 = cnt a.testBit 8 + cnt b.testBit 8 + cnt c.testBit 8 + cnt d.testBit 8 := by
  rw [show 32 = 8 + 24 from rfl, cnt_byte _ _ ha, show 24 = 8 + 16 from rfl, cnt_byte _ _ hb, show 16 = 8 + 8 from rfl, cnt_byte _ _ hc]
  omega

theorem land_byte (a z c M : Nat) (ha : a < 256) (hc : c < 256) : (a + 256 * z) &&& (c + 256 * M) = (a &&& c) + 256 * (z &&& M) := by
  apply Nat.eq_of_testBit_eq
  intro k
  have hac : a &&& c < 256 := Nat.lt_of_le_of_lt Nat.and_le_left ha
  rw [Nat.testBit_and, testBit_byte a z k ha, testBit_byte c M k hc, testBit_byte _ _ k hac]
  split <;> simp

/-! The steps of the count by halves, byte by byte. -/
def f1 (b : Nat) : Nat := (b / 2 &&& 85) + (b &&& 85)
def f2 (b : Nat) : Nat := (b / 4 &&& 51) + (b &&& 51)
def f3 (b : Nat) : Nat := (b / 16 + b) &&& 15

theorem t1 : ∀ b, b < 256 → (f1 b < 256 ∧ ((b / 2 + 128) &&& 85) = (b / 2 &&& 85)) := by decide +kernel
theorem t2 : ∀ b, b < 256 → (f2 b < 256 ∧ ((b / 4 + 64) &&& 51) = (b / 4 &&& 51) ∧ ((b / 4 + 128) &&& 51) = (b / 4 &&& 51) ∧ ((b / 4 + 192) &&& 51) = (b / 4 &&& 51)) := by decide +kernel
theorem t3 : ∀ b, b < 256 → (f2 (f1 b) ≤ 68 ∧ f3 (f2 (f1 b)) = cnt b.testBit 8 ∧ f2 (f1 b) % 16 ≤ 4) := by decide +kernel

theorem s1 (b z M : Nat) (hb : b < 256) : ((b + 256 * z) / 2 &&& (85 + 256 * M)) + ((b + 256 * z) &&& (85 + 256 * M)) = f1 b + 256 * ((z / 2 &&& M) + (z &&& M)) := by
  have h := t1 b hb
  have e : (b + 256 * z) / 2 = (b / 2 + 128 * (z % 2)) + 256 * (z / 2) := by omega
  rw [e, land_byte _ _ _ _ (by omega) (by omega), land_byte _ _ _ _ hb (by omega)]
  have h2 : ((b / 2 + 128 * (z % 2)) &&& 85) = (b / 2 &&& 85) := by
    rcases Nat.mod_two_eq_zero_or_one z with h0 | h0
    · rw [h0]; simp
    · rw [h0]; exact h.2
  rw [h2]; unfold f1; omega

theorem s2 (b z M : Nat) (hb : b < 256) : ((b + 256 * z) / 4 &&& (51 + 256 * M)) + ((b + 256 * z) &&& (51 + 256 * M)) = f2 b + 256 * ((z / 4 &&& M) + (z &&& M)) := by
  have h := t2 b hb
  have e : (b + 256 * z) / 4 = (b / 4 + 64 * (z % 4)) + 256 * (z / 4) := by omega
  rw [e, land_byte _ _ _ _ (by omega) (by omega), land_byte _ _ _ _ hb (by omega)]
  have h2 : ((b / 4 + 64 * (z % 4)) &&& 51) = (b / 4 &&& 51) := by
    have : z % 4 = 0 ∨ z % 4 = 1 ∨ z % 4 = 2 ∨ z % 4 = 3 := by omega
    rcases this with h0 | h0 | h0 | h0
    · rw [h0]; simp
    · rw [h0]; exact h.2.1
    · rw [h0]; exact h.2.2.1
    · rw [h0]; exact h.2.2.2
  rw [h2]; unfold f2; omega

theorem and15 (x : Nat) : x &&& 15 = x % 16 := Nat.and_two_pow_sub_one_eq_mod x 4

theorem s3 (b z M : Nat) (hb : b ≤ 68) (hz : z % 16 ≤ 4) : ((b + 256 * z) / 16 + (b + 256 * z)) &&& (15 + 256 * M) = f3 b + 256 * ((z / 16 + z) &&& M) := by
  have e : (b + 256 * z) / 16 + (b + 256 * z) = (b / 16 + b + 16 * (z % 16)) + 256 * (z / 16 + z) := by omega
  rw [e, land_byte _ _ _ _ (by omega) (by omega), and15]
  unfold f3
  rw [and15]; omega

/-- Four steps of the count. -/
theorem swar1 (y : Nat) (h : y < 4294967296) : ∃ a b c d, a < 256 ∧ b < 256 ∧ c < 256 ∧ d < 256 ∧ y = a + 256 * (b + 256 * (c + 256 * d)) ∧
    (y / 2 &&& 6148914691236517205) + (y &&& 6148914691236517205) = f1 a + 256 * (f1 b + 256 * (f1 c + 256 * f1 d)) := by
  obtain ⟨a, b, c, d, ha, hb, hc, hd, hy⟩ := four_bytes y h
  refine ⟨a, b, c, d, ha, hb, hc, hd, hy, ?_⟩
  have e : (6148914691236517205 : Nat) = 85 + 256 * (85 + 256 * (85 + 256 * (85 + 256 * 1431655765))) := by decide
  have hd0 : d = d + 256 * 0 := by omega
  rw [e, hy, s1 _ _ _ ha, s1 _ _ _ hb, s1 _ _ _ hc]
  conv => lhs; rw [hd0, s1 _ _ _ hd]
  simp

theorem swar2 (a b c d : Nat) (ha : a < 256) (hb : b < 256) (hc : c < 256) (hd : d < 256) :
    ((a + 256 * (b + 256 * (c + 256 * d))) / 4 &&& 3689348814741910323) + ((a + 256 * (b + 256 * (c + 256 * d))) &&& 3689348814741910323) = f2 a + 256 * (f2 b + 256 * (f2 c + 256 * f2 d)) := by
  have e : (3689348814741910323 : Nat) = 51 + 256 * (51 + 256 * (51 + 256 * (51 + 256 * 858993459))) := by decide
  have hd0 : d = d + 256 * 0 := by omega
  rw [e, s2 _ _ _ ha, s2 _ _ _ hb, s2 _ _ _ hc]
  conv => lhs; rw [hd0, s2 _ _ _ hd]
  simp

theorem swar3 (a b c d : Nat) (ha : a ≤ 68) (hb : b ≤ 68) (hc : c ≤ 68) (hd : d ≤ 68) (hb4 : b % 16 ≤ 4) (hc4 : c % 16 ≤ 4) (hd4 : d % 16 ≤ 4) :
    ((a + 256 * (b + 256 * (c + 256 * d))) / 16 + (a + 256 * (b + 256 * (c + 256 * d)))) &&& 1085102592571150095 = f3 a + 256 * (f3 b + 256 * (f3 c + 256 * f3 d)) := by
  have e : (1085102592571150095 : Nat) = 15 + 256 * (15 + 256 * (15 + 256 * (15 + 256 * 252645135))) := by decide
  have hd0 : d = d + 256 * 0 := by omega
  rw [e, s3 _ _ _ ha (by omega), s3 _ _ _ hb (by omega), s3 _ _ _ hc (by omega)]
  conv => lhs; rw [hd0, s3 _ _ _ hd (by omega)]
  simp

theorem fold4 (p q r s : Nat) (hp : p ≤ 8) (hq : q ≤ 8) (hr : r ≤ 8) (hs : s ≤ 8) (X : Nat) (hX : X = p + 256 * (q + 256 * (r + 256 * s))) :
    (X + X / 256 + (X + X / 256) / 65536) % 128 = p + q + r + s := by
  have e1 : X / 256 = q + 256 * (r + 256 * s) := by omega
  have e2 : X + X / 256 = (p + q + 256 * (q + r)) + 65536 * (r + s + 256 * s) := by omega
  have e3 : (X + X / 256) / 65536 = r + s + 256 * s := by omega
  rw [e3, e2]; omega

/-- The count of a number of four bytes, step by step. -/
theorem swar (y : Nat) (h : y < 4294967296) : ∃ x1 x2 x3 : Nat,
    (y / 2 &&& 6148914691236517205) + (y &&& 6148914691236517205) = x1 ∧ (x1 / 4 &&& 3689348814741910323) + (x1 &&& 3689348814741910323) = x2 ∧
    (x2 / 16 + x2) &&& 1085102592571150095 = x3 ∧ x1 < 8589934592 ∧ x2 < 8589934592 ∧ x3 < 134744073 ∧
    (x3 + x3 / 256 + (x3 + x3 / 256) / 65536) % 128 = cnt y.testBit 32 := by
  obtain ⟨a, b, c, d, ha, hb, hc, hd, hy, h1⟩ := swar1 y h
  have u1 := (t1 a ha).1
  have u2 := (t1 b hb).1
  have u3 := (t1 c hc).1
  have u4 := (t1 d hd).1
  have v1 := t3 a ha
  have v2 := t3 b hb
  have v3 := t3 c hc
  have v4 := t3 d hd
  refine ⟨_, _, _, h1, swar2 _ _ _ _ u1 u2 u3 u4, swar3 _ _ _ _ v1.1 v2.1 v3.1 v4.1 v2.2.2 v3.2.2 v4.2.2, ?_, ?_, ?_, ?_⟩
  · omega
  · omega
  · rw [v1.2.1, v2.2.1, v3.2.1, v4.2.1]
    have := cnt_le a.testBit 8
    have := cnt_le b.testBit 8
    have := cnt_le c.testBit 8
    have := cnt_le d.testBit 8
    omega
  · rw [hy, cnt_four a b c d ha hb hc hd]
    exact fold4 _ _ _ _ (cnt_le _ _) (cnt_le _ _) (cnt_le _ _) (cnt_le _ _) _ (by rw [v1.2.1, v2.2.1, v3.2.1, v4.2.1])

end Go.Proofs.YtbmiaagkognlpaaDoor
