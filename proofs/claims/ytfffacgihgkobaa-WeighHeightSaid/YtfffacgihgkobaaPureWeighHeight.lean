/- The greatest height of any size is what the least sizes say, and at most 2 and 3 log2(n + 1); no conditions. -/
import Derived.Test.YtfffacgihgkobaaPWeighHeightx1
namespace Go.Proofs.Ytfffacgihgkobaa.Pure
open Go.RowKit Go.Proofs.Ytfffacgihgkobaa.PWeighHeight Go.Proofs.YtfffacgihgkobaaW.PrintWords Go.Proofs.YtfffacgihgkobaaW.PrintLast

theorem w64 {x : Int} (h1 : -9223372036854775808 ≤ x) (h2 : x ≤ 9223372036854775807) : wrap64 x = x := by
  unfold wrap64; omega

/-- A size within its bounds. -/
def cl (a : Int) : Int := if a < 0 then 0 else if a > 1048576 then 1048576 else a

theorem cl_bd (a : Int) : 0 ≤ cl a ∧ cl a ≤ 1048576 := by unfold cl; (repeat' split) <;> omega

theorem size_cl (a : Int) : weigh_size.f a = some (cl a) := by
  unfold weigh_size.f cl mn mx
  (repeat' split) <;> first | rfl | (exfalso; omega) | (congr 1; omega)

/-- Are two sizes even? -/
def ev (a b : Int) : Bool := decide (a + 1 ≤ 3 * (b + 1)) && decide (b + 1 ≤ 3 * (a + 1))

theorem even_ev {a b : Int} (ha : -1099511627776 ≤ a) (ha' : a ≤ 1099511627776) (hb : -1099511627776 ≤ b) (hb' : b ≤ 1099511627776) :
    weigh_even.f a b = some (ev a b) := by
  unfold weigh_even.f ev
  rw [w64 (x := a + 1) (by omega) (by omega), w64 (x := b + 1) (by omega) (by omega), w64 (by omega) (by omega), w64 (by omega) (by omega)]
  by_cases h : a + 1 ≤ 3 * (b + 1)
  · rw [if_pos h]; simp [h]
  · rw [if_neg h]; simp [h]

theorem Even_ev (a b : Int) : weigh_Even.f a b = some (ev (cl a) (cl b)) := by
  have ha := cl_bd a
  have hb := cl_bd b
  unfold weigh_Even.f
  rw [size_cl, size_cl]
  simp only [Option.bind_some]
  rw [even_ev (by omega) (by omega) (by omega) (by omega)]
  rfl

theorem ev_comm (a b : Int) : ev a b = ev b a := by unfold ev; rw [Bool.and_comm]

theorem Beside_cl (a : Int) : weigh_Beside.f a = some ((cl a + 3) / 3 - 1) := by
  have ha := cl_bd a
  unfold weigh_Beside.f
  rw [size_cl]
  simp only [Option.bind_some]
  rw [w64 (x := cl a + 1) (by omega) (by omega), w64 (x := cl a + 1 + 3) (by omega) (by omega), w64 (x := cl a + 1 + 3 - 1) (by omega) (by omega),
    Int.tdiv_eq_ediv_of_nonneg (by omega), w64 (x := (cl a + 1 + 3 - 1) / 3) (by omega) (by omega), w64 (by omega) (by omega)]
  congr 1; omega

theorem awake_true : brushwoodlaw10_awake.f = some true := by
  unfold brushwoodlaw10_awake.f
  rw [Even_ev, Even_ev, Beside_cl]
  decide

theorem held_cl (a : Int) : brushwoodref10_Held.f a = some (cl a) := by
  unfold brushwoodref10_Held.f cl
  (repeat' split) <;> rfl

/-- The next height's least size. -/
def stp (s : Nat) : Nat := s + (s + 3) / 3

/-- The least size of a height. -/
def Lst : Nat → Nat
  | 0 => 0
  | n + 1 => stp (Lst n)

theorem Lst_succ (n : Nat) : Lst (n + 1) = Lst n + (Lst n + 3) / 3 := rfl

theorem Lst_le_succ (n : Nat) : Lst n < Lst (n + 1) := by rw [Lst_succ]; omega

theorem Lst_mono {a b : Nat} (h : a ≤ b) : Lst a ≤ Lst b := by
  induction b with
  | zero => have : a = 0 := by omega
            subst this; exact Nat.le_refl _
  | succ b ih =>
    by_cases e : a = b + 1
    · subst e; exact Nat.le_refl _
    · exact Nat.le_trans (ih (by omega)) (Nat.le_of_lt (Lst_le_succ b))

theorem Lst_top : Lst 70 ≤ 10000000000 := by decide +kernel

theorem Lst_bd {n : Nat} (h : n ≤ 70) : Lst n ≤ 10000000000 := Nat.le_trans (Lst_mono h) Lst_top

theorem least_loop (b : Int) (h : Nat) (hh : h ≤ 70) (d : Nat) : ∀ (k i : Nat), i + d = h → d < k →
    ∃ r, weigh_least.l0 k b (Lst i : Int) (h : Int) (i : Int) = some r ∧ ((Lst h : Int) ≤ b → r = Lst h) ∧ (b < Lst h → b < r) := by
  induction d with
  | zero =>
    intro k i hi hk
    obtain ⟨k, rfl⟩ : ∃ m, k = m + 1 := ⟨k - 1, by omega⟩
    obtain rfl : i = h := by omega
    refine ⟨Lst i, ?_, fun _ => rfl, fun h => h⟩
    simp only [weigh_least.l0]
    rw [if_neg (by omega)]
  | succ d ih =>
    intro k i hi hk
    obtain ⟨k, rfl⟩ : ∃ m, k = m + 1 := ⟨k - 1, by omega⟩
    simp only [weigh_least.l0]
    rw [if_pos (by omega)]
    have hL := Lst_bd (n := i) (by omega)
    have hm := Lst_mono (a := i) (b := h) (by omega)
    by_cases hb : (Lst i : Int) > b
    · exact ⟨_, by rw [if_pos hb], fun h => by omega, fun _ => hb⟩
    · rw [if_neg hb]
      have e : wrap64 ((Lst i : Int) + wrap64 (wrap64 (1 + wrap64 (Int.tdiv (wrap64 (wrap64 (wrap64 ((Lst i : Int) + 1) + 3) - 1)) 3)) - 1)) = (Lst (i + 1) : Int) := by
        rw [w64 (x := (Lst i : Int) + 1) (by omega) (by omega), w64 (x := (Lst i : Int) + 1 + 3) (by omega) (by omega), w64 (x := (Lst i : Int) + 1 + 3 - 1) (by omega) (by omega),
          Int.tdiv_eq_ediv_of_nonneg (by omega), w64 (x := ((Lst i : Int) + 1 + 3 - 1) / 3) (by omega) (by omega), w64 (x := 1 + ((Lst i : Int) + 1 + 3 - 1) / 3) (by omega) (by omega),
          w64 (x := 1 + ((Lst i : Int) + 1 + 3 - 1) / 3 - 1) (by omega) (by omega), w64 (by omega) (by omega), Lst_succ]
        omega
      rw [e, w64 (x := (i : Int) + 1) (by omega) (by omega)]
      exact ih k (i + 1) (by omega) (by omega)

theorem least_any (b : Int) (h : Nat) (hh : h ≤ 70) (k : Nat) (hk : h < k) :
    ∃ r, weigh_least.f k (h : Int) b = some r ∧ ((Lst h : Int) ≤ b → r = Lst h) ∧ (b < Lst h → b < r) := by
  unfold weigh_least.f
  exact least_loop b h hh h k 0 (by omega) hk

theorem Least_any (a : Int) (n : Nat) (hn : n ≤ 64) (ha : mn (mx a 0) 64 = n) (k : Nat) (hk : 70 < k) : weigh_Least.f k a = some (Lst n : Int) := by
  unfold weigh_Least.f
  rw [ha]
  obtain ⟨r, hr, h1, _⟩ := least_any 1537228672809129301 n (by omega) k (by omega)
  have := Lst_bd (n := n) (by omega)
  rw [hr, h1 (by omega)]
  rfl

theorem Lst65 : 1048576 < Lst 60 := by decide +kernel

theorem height_loop (n : Nat) (hn : n ≤ 1048576) (d : Nat) : ∀ (k i : Nat), i + d = 60 → Lst i ≤ n → d + 100 < k →
    ∃ h : Nat, weigh_Height.l0 k (n : Int) (i : Int) = some (h : Int) ∧ h < 60 ∧ Lst h ≤ n ∧ n < Lst (h + 1) := by
  induction d with
  | zero =>
    intro k i hi hL _
    obtain rfl : i = 60 := by omega
    have := Lst65
    omega
  | succ d ih =>
    intro k i hi hL hk
    obtain ⟨k, rfl⟩ : ∃ m, k = m + 1 := ⟨k - 1, by omega⟩
    simp only [weigh_Height.l0]
    rw [w64 (by omega) (by omega)]
    obtain ⟨r, hr, h1, h2⟩ := least_any (n : Int) (i + 1) (by omega) k (by omega)
    rw [show (i : Int) + 1 = ((i + 1 : Nat) : Int) by omega, hr]
    simp only [Option.bind_some]
    by_cases hc : Lst (i + 1) ≤ n
    · rw [h1 (by omega), if_pos (by omega)]
      exact ih k (i + 1) (by omega) hc (by omega)
    · rw [if_neg (by have := h2 (by omega); omega)]
      exact ⟨i, rfl, by omega, hL, by omega⟩

theorem cube_all : ∀ h, h < 60 → 2 ^ (h - 2) ≤ (Lst h + 1) * (Lst h + 1) * (Lst h + 1) := by decide +kernel

theorem wu {x : Int} (h0 : 0 ≤ x) (h1 : x < 18446744073709551616) : IntKind.u64.wrap x = x := by
  have e : IntKind.u64.wrap x = x % 18446744073709551616 := rfl
  rw [e]; omega

theorem cl_nat (a : Int) : ∃ n : Nat, cl a = n ∧ n ≤ 1048576 := ⟨(cl a).toNat, by have := cl_bd a; omega, by have := cl_bd a; omega⟩

theorem WeighHeight : brushwoodlaw10_WeighHeight.Pure := by
  intro a0 w0
  obtain ⟨K, hK⟩ : ∃ K : Nat, 1000 < K := ⟨1001, by omega⟩
  refine ⟨K, ?_⟩
  unfold brushwoodlaw10_WeighHeight.f weigh_Height.f
  rw [awake_true, held_cl, size_cl]
  simp only [Option.bind_some]
  obtain ⟨n, hn, hle⟩ := cl_nat a0
  rw [hn]
  obtain ⟨h, hh, h60, hL, hU⟩ := height_loop n hle 60 K 0 (by omega) (by simp [Lst]) (by omega)
  rw [show ((0 : Nat) : Int) = 0 from rfl] at hh
  rw [hh]
  simp only [Option.bind_some]
  rw [if_neg (by omega), if_neg (by omega), Least_any h h (by omega) (by unfold mn mx; (repeat' split) <;> omega) _ (by omega)]
  simp only [Option.bind_some]
  rw [if_neg (by omega), w64 (by omega) (by omega), show (h : Int) + 1 = ((h + 1 : Nat) : Int) by omega,
    Least_any ((h + 1 : Nat) : Int) (h + 1) (by omega) (by unfold mn mx; (repeat' split) <;> omega) _ (by omega)]
  simp only [Option.bind_some]
  rw [if_neg (by omega)]
  by_cases h2 : (h : Int) < 2
  · rw [if_pos h2]
  · rw [if_neg h2, w64 (x := (h : Int) - 2) (by omega) (by omega), if_pos (by omega), w64 (x := (n : Int) + 1) (by omega) (by omega)]
    have e1 : shl .u64 1 ((h : Int) - 2) = ((2 ^ (h - 2) : Nat) : Int) := by
      unfold shl
      have : ((h : Int) - 2).toNat = h - 2 := by omega
      rw [this, Nat.min_eq_left (by show h - 2 ≤ 64; omega), Int.one_mul]
      have hp : 2 ^ (h - 2) ≤ 2 ^ 60 := Nat.pow_le_pow_right (by omega) (by omega)
      rw [show (2 : Int) ^ (h - 2) = ((2 ^ (h - 2) : Nat) : Int) by simp]
      generalize 2 ^ (h - 2) = q at hp
      exact wu (by omega) (by omega)
    have hN : (n + 1) * (n + 1) ≤ 1048577 * 1048577 := Nat.mul_le_mul (by omega) (by omega)
    have hN3 : (n + 1) * (n + 1) * (n + 1) ≤ 1048577 * 1048577 * 1048577 := Nat.mul_le_mul hN (by omega)
    have c1 : ((n : Int) + 1) * ((n : Int) + 1) = (((n + 1) * (n + 1) : Nat) : Int) := by simp
    have c2 : (((n + 1) * (n + 1) : Nat) : Int) * ((n : Int) + 1) = (((n + 1) * (n + 1) * (n + 1) : Nat) : Int) := by simp
    rw [e1, wu (x := (n : Int) + 1) (by omega) (by omega), c1, wu (x := (((n + 1) * (n + 1) : Nat) : Int)) (by omega) (by omega), c2, wu (by omega) (by omega)]
    have hc := cube_all h h60
    have hc2 : (Lst h + 1) * (Lst h + 1) * (Lst h + 1) ≤ (n + 1) * (n + 1) * (n + 1) := Nat.mul_le_mul (Nat.mul_le_mul (by omega) (by omega)) (by omega)
    rw [if_pos (by omega)]

end Go.Proofs.Ytfffacgihgkobaa.Pure
