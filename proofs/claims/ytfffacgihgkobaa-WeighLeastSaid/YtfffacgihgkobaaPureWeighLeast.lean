/- The least size of any height is what the reference says, up to 30 by its definition, above that from the height below it; no conditions. -/
import Derived.Test.YtfffacgihgkobaaPWeighLeastx1
namespace Go.Proofs.Ytfffacgihgkobaa.Pure
open Go.RowKit Go.Proofs.Ytfffacgihgkobaa.PWeighLeast Go.Proofs.YtfffacgihgkobaaW.PrintWords Go.Proofs.YtfffacgihgkobaaW.PrintLast

theorem w64 {x : Int} (h1 : -9223372036854775808 ≤ x) (h2 : x ≤ 9223372036854775807) : wrap64 x = x := by
  unfold wrap64; omega

/-- A size within its bounds. -/
def cl (a : Int) : Int := if a < 0 then 0 else if a > 1048576 then 1048576 else a

theorem cl_bd (a : Int) : 0 ≤ cl a ∧ cl a ≤ 1048576 := by unfold cl; (repeat' split) <;> omega

theorem size_cl (a : Int) : weigh_size.f a = some (cl a) := by
  unfold weigh_size.f cl mn mx
  (repeat' split) <;> first | rfl | (exfalso; omega) | (congr 1; omega)

/-- Are two sizes even? -/
def ev (a b : Int) : Bool := decide (a + 1 ≤ 3 * (b + 1)) && decide (b + 1 ≤ 3 * (a + 1))

theorem even_ev {a b : Int} (ha : -1099511627776 ≤ a) (ha' : a ≤ 1099511627776) (hb : -1099511627776 ≤ b) (hb' : b ≤ 1099511627776) :
    weigh_even.f a b = some (ev a b) := by
  unfold weigh_even.f ev
  rw [w64 (x := a + 1) (by omega) (by omega), w64 (x := b + 1) (by omega) (by omega), w64 (by omega) (by omega), w64 (by omega) (by omega)]
  by_cases h : a + 1 ≤ 3 * (b + 1)
  · rw [if_pos h]; simp [h]
  · rw [if_neg h]; simp [h]

theorem Even_ev (a b : Int) : weigh_Even.f a b = some (ev (cl a) (cl b)) := by
  have ha := cl_bd a
  have hb := cl_bd b
  unfold weigh_Even.f
  rw [size_cl, size_cl]
  simp only [Option.bind_some]
  rw [even_ev (by omega) (by omega) (by omega) (by omega)]
  rfl

theorem ev_comm (a b : Int) : ev a b = ev b a := by unfold ev; rw [Bool.and_comm]

theorem Beside_cl (a : Int) : weigh_Beside.f a = some ((cl a + 3) / 3 - 1) := by
  have ha := cl_bd a
  unfold weigh_Beside.f
  rw [size_cl]
  simp only [Option.bind_some]
  rw [w64 (x := cl a + 1) (by omega) (by omega), w64 (x := cl a + 1 + 3) (by omega) (by omega), w64 (x := cl a + 1 + 3 - 1) (by omega) (by omega),
    Int.tdiv_eq_ediv_of_nonneg (by omega), w64 (x := (cl a + 1 + 3 - 1) / 3) (by omega) (by omega), w64 (by omega) (by omega)]
  congr 1; omega

theorem awake_true : brushwoodlaw10_awake.f = some true := by
  unfold brushwoodlaw10_awake.f
  rw [Even_ev, Even_ev, Beside_cl]
  decide

theorem refEven_ev {a b : Int} (ha : -1099511627776 ≤ a) (ha' : a ≤ 1099511627776) (hb : -1099511627776 ≤ b) (hb' : b ≤ 1099511627776) :
    brushwoodref10_Even.f a b = some (ev a b) := by
  unfold brushwoodref10_Even.f ev
  rw [w64 (x := a + 1) (by omega) (by omega), w64 (x := b + 1) (by omega) (by omega), w64 (by omega) (by omega), w64 (by omega) (by omega)]
  by_cases h : a + 1 ≤ 3 * (b + 1)
  · rw [if_neg (by omega)]; congr 1; rw [Bool.eq_iff_iff]; simp; omega
  · rw [if_pos (by omega)]; congr 1; rw [Bool.eq_iff_iff]; simp; omega

/-- The next height's least size. -/
def stp (s : Nat) : Nat := s + (s + 3) / 3

/-- The least size of a height. -/
def Lst : Nat → Nat
  | 0 => 0
  | n + 1 => stp (Lst n)

theorem Lst_succ (n : Nat) : Lst (n + 1) = Lst n + (Lst n + 3) / 3 := rfl

theorem Lst_le_succ (n : Nat) : Lst n < Lst (n + 1) := by rw [Lst_succ]; omega

theorem Lst_mono {a b : Nat} (h : a ≤ b) : Lst a ≤ Lst b := by
  induction b with
  | zero => have : a = 0 := by omega
            subst this; exact Nat.le_refl _
  | succ b ih =>
    by_cases e : a = b + 1
    · subst e; exact Nat.le_refl _
    · exact Nat.le_trans (ih (by omega)) (Nat.le_of_lt (Lst_le_succ b))

theorem Lst_top : Lst 70 ≤ 10000000000 := by decide +kernel

theorem Lst_bd {n : Nat} (h : n ≤ 70) : Lst n ≤ 10000000000 := Nat.le_trans (Lst_mono h) Lst_top

theorem least_loop (b : Int) (h : Nat) (hh : h ≤ 70) (d : Nat) : ∀ (k i : Nat), i + d = h → d < k →
    ∃ r, weigh_least.l0 k b (Lst i : Int) (h : Int) (i : Int) = some r ∧ ((Lst h : Int) ≤ b → r = Lst h) ∧ (b < Lst h → b < r) := by
  induction d with
  | zero =>
    intro k i hi hk
    obtain ⟨k, rfl⟩ : ∃ m, k = m + 1 := ⟨k - 1, by omega⟩
    obtain rfl : i = h := by omega
    refine ⟨Lst i, ?_, fun _ => rfl, fun h => h⟩
    simp only [weigh_least.l0]
    rw [if_neg (by omega)]
  | succ d ih =>
    intro k i hi hk
    obtain ⟨k, rfl⟩ : ∃ m, k = m + 1 := ⟨k - 1, by omega⟩
    simp only [weigh_least.l0]
    rw [if_pos (by omega)]
    have hL := Lst_bd (n := i) (by omega)
    have hm := Lst_mono (a := i) (b := h) (by omega)
    by_cases hb : (Lst i : Int) > b
    · exact ⟨_, by rw [if_pos hb], fun h => by omega, fun _ => hb⟩
    · rw [if_neg hb]
      have e : wrap64 ((Lst i : Int) + wrap64 (wrap64 (1 + wrap64 (Int.tdiv (wrap64 (wrap64 (wrap64 ((Lst i : Int) + 1) + 3) - 1)) 3)) - 1)) = (Lst (i + 1) : Int) := by
        rw [w64 (x := (Lst i : Int) + 1) (by omega) (by omega), w64 (x := (Lst i : Int) + 1 + 3) (by omega) (by omega), w64 (x := (Lst i : Int) + 1 + 3 - 1) (by omega) (by omega),
          Int.tdiv_eq_ediv_of_nonneg (by omega), w64 (x := ((Lst i : Int) + 1 + 3 - 1) / 3) (by omega) (by omega), w64 (x := 1 + ((Lst i : Int) + 1 + 3 - 1) / 3) (by omega) (by omega),
          w64 (x := 1 + ((Lst i : Int) + 1 + 3 - 1) / 3 - 1) (by omega) (by omega), w64 (by omega) (by omega), Lst_succ]
        omega
      rw [e, w64 (x := (i : Int) + 1) (by omega) (by omega)]
      exact ih k (i + 1) (by omega) (by omega)

theorem least_any (b : Int) (h : Nat) (hh : h ≤ 70) (k : Nat) (hk : h < k) :
    ∃ r, weigh_least.f k (h : Int) b = some r ∧ ((Lst h : Int) ≤ b → r = Lst h) ∧ (b < Lst h → b < r) := by
  unfold weigh_least.f
  exact least_loop b h hh h k 0 (by omega) hk

theorem Least_any (a : Int) (n : Nat) (hn : n ≤ 64) (ha : mn (mx a 0) 64 = n) (k : Nat) (hk : 70 < k) : weigh_Least.f k a = some (Lst n : Int) := by
  unfold weigh_Least.f
  rw [ha]
  obtain ⟨r, hr, h1, _⟩ := least_any 1537228672809129301 n (by omega) k (by omega)
  have := Lst_bd (n := n) (by omega)
  rw [hr, h1 (by omega)]
  rfl

theorem beside_loop (n : Nat) (hn : n ≤ 10000000000) (d : Nat) : ∀ (k i : Nat), i + d = (n + 3) / 3 - 1 → d < k →
    brushwoodref10_Beside.l0 k (n : Int) (i : Int) = some (((n + 3) / 3 - 1 : Nat) : Int) := by
  induction d with
  | zero =>
    intro k i hi hk
    obtain ⟨k, rfl⟩ : ∃ m, k = m + 1 := ⟨k - 1, by omega⟩
    simp only [brushwoodref10_Beside.l0]
    rw [refEven_ev (by omega) (by omega) (by omega) (by omega)]
    have h1 : ev (i : Int) (n : Int) = true := by unfold ev; simp; omega
    rw [h1]
    simp only [Option.bind_some, if_true]
    congr 1; omega
  | succ d ih =>
    intro k i hi hk
    obtain ⟨k, rfl⟩ : ∃ m, k = m + 1 := ⟨k - 1, by omega⟩
    simp only [brushwoodref10_Beside.l0]
    rw [refEven_ev (by omega) (by omega) (by omega) (by omega)]
    have h1 : ev (i : Int) (n : Int) = false := by unfold ev; simp; omega
    rw [h1]
    simp only [Option.bind_some]
    rw [if_neg (by simp), w64 (by omega) (by omega)]
    exact ih k (i + 1) (by omega) (by omega)

theorem Lst30 : Lst 30 ≤ 90000 := by decide +kernel

theorem refLeast (Q : Nat) (hQ : 90000 < Q) (h : Nat) : h ≤ 30 → ∀ k, h + Q < k → brushwoodref10_Least.f k (h : Int) = some (Lst h : Int) := by
  induction h with
  | zero =>
    intro _ k hk
    obtain ⟨k, rfl⟩ : ∃ m, k = m + 1 := ⟨k - 1, by omega⟩
    simp only [brushwoodref10_Least.f]
    rfl
  | succ h ih =>
    intro hh k hk
    obtain ⟨k, rfl⟩ : ∃ m, k = m + 1 := ⟨k - 1, by omega⟩
    simp only [brushwoodref10_Least.f]
    have hL := Lst_bd (n := h) (by omega)
    have hm := Nat.le_trans (Lst_mono (a := h) (b := 30) (by omega)) Lst30
    rw [if_neg (by omega), w64 (by omega) (by omega), show ((h + 1 : Nat) : Int) - 1 = (h : Int) by omega, ih (by omega) k (by omega)]
    simp only [Option.bind_some]
    unfold brushwoodref10_Beside.f
    have := beside_loop (Lst h) hL ((Lst h + 3) / 3 - 1) k 0 (by omega) (by omega)
    rw [show ((0 : Nat) : Int) = 0 from rfl] at this
    rw [this]
    simp only [Option.bind_some]
    rw [w64 (x := 1 + (Lst h : Int)) (by omega) (by omega), w64 (by omega) (by omega), Lst_succ]
    congr 1; omega

theorem case_neg (K : Nat) (hK : 70 < K) (a0 : Int) (h0 : a0 < 0) : brushwoodlaw10_WeighLeast.f K a0 = some true := by
  unfold brushwoodlaw10_WeighLeast.f
  rw [if_pos h0, Least_any a0 0 (by omega) (by unfold mn mx; (repeat' split) <;> omega) _ (by omega), awake_true]
  rw [show ((Lst 0 : Nat) : Int) = 0 from rfl]
  simp only [Option.bind_some, if_true]

theorem case_big (K : Nat) (hK : 70 < K) (a0 : Int) (h0 : ¬ a0 < 0) (h1 : a0 > 64) : brushwoodlaw10_WeighLeast.f K a0 = some true := by
  unfold brushwoodlaw10_WeighLeast.f
  rw [if_neg h0, if_pos h1, Least_any a0 64 (by omega) (by unfold mn mx; (repeat' split) <;> omega) _ (by omega), Least_any 64 64 (by omega) (by unfold mn mx; (repeat' split) <;> omega) _ (by omega), awake_true]
  generalize ((Lst 64 : Nat) : Int) = q
  simp only [Option.bind_some, if_true]

theorem small_ref (K : Nat) (n : Nat) (hn : n ≤ 30) (hnK : n + 100000 < K) : brushwoodref10_Least.f K (n : Int) = some (Lst n : Int) := by
  rw [refLeast 100000 (by omega) n hn K hnK]

theorem case_small (K : Nat) (hK : 70 < K) (n : Nat) (hn : n ≤ 30) (X : brushwoodref10_Least.f K (n : Int) = some (Lst n : Int)) : brushwoodlaw10_WeighLeast.f K (n : Int) = some true := by
  unfold brushwoodlaw10_WeighLeast.f
  rw [if_neg (by omega), if_neg (by omega), if_pos (by omega), Least_any n n (by omega) (by unfold mn mx; (repeat' split) <;> omega) _ (by omega), X, awake_true]
  generalize ((Lst n : Nat) : Int) = q
  simp only [Option.bind_some, if_true]

theorem mid_wrap (s : Nat) (hL : s ≤ 10000000000) :
    wrap64 ((wrap64 ((wrap64 (1 + (s : Int))) + (wrap64 (Int.tdiv (wrap64 ((wrap64 ((s : Int) + 1)) + 2)) 3)))) - 1) = ((s + (s + 3) / 3 : Nat) : Int) := by
  rw [w64 (x := 1 + (s : Int)) (by omega) (by omega), w64 (x := (s : Int) + 1) (by omega) (by omega), w64 (x := (s : Int) + 1 + 2) (by omega) (by omega),
    Int.tdiv_eq_ediv_of_nonneg (by omega), w64 (x := ((s : Int) + 1 + 2) / 3) (by omega) (by omega), w64 (x := 1 + (s : Int) + ((s : Int) + 1 + 2) / 3) (by omega) (by omega),
    w64 (by omega) (by omega)]
  omega

theorem mid_end (s t u : Int) (hu : u = t) (h : t > s) : (if t = u then (some t).bind fun t122 => (if t122 > s then (some true).bind fun t123 => some t123 else some false) else some false) = some true := by
  subst hu
  rw [if_pos rfl]
  simp only [Option.bind_some]
  rw [if_pos h]

theorem mid_data (m : Nat) (hm : m ≤ 70) : ∃ s t : Nat, Lst m = s ∧ Lst (m + 1) = t ∧ s ≤ 10000000000 ∧ t = s + (s + 3) / 3 :=
  ⟨_, _, rfl, rfl, Lst_bd hm, Lst_succ m⟩

theorem mid_any (K : Nat) (a0 s t : Int) (h1 : 30 < a0) (h2 : a0 ≤ 64) (hA : weigh_Least.f K (a0 - 1) = some s) (hB : weigh_Least.f K a0 = some t)
    (hw : wrap64 ((wrap64 ((wrap64 (1 + s)) + (wrap64 (Int.tdiv (wrap64 ((wrap64 (s + 1)) + 2)) 3)))) - 1) = t) (hgt : t > s) : brushwoodlaw10_WeighLeast.f K a0 = some true := by
  unfold brushwoodlaw10_WeighLeast.f
  rw [if_neg (by omega), if_neg (by omega), if_neg (by omega), w64 (by omega) (by omega), hA, hB, awake_true]
  exact mid_end s t _ hw hgt

theorem case_mid (K : Nat) (hK : 70 < K) (m : Nat) (h1 : 30 ≤ m) (hm : m < 64) : brushwoodlaw10_WeighLeast.f K ((m + 1 : Nat) : Int) = some true := by
  have hA := Least_any (((m + 1 : Nat) : Int) - 1) m (by omega) (by unfold mn mx; (repeat' split) <;> omega) K hK
  have hB := Least_any ((m + 1 : Nat) : Int) (m + 1) (by omega) (by unfold mn mx; (repeat' split) <;> omega) K hK
  obtain ⟨s, t, hs, ht, hb, he⟩ := mid_data m (by omega)
  rw [hs] at hA
  rw [ht] at hB
  clear hs ht
  have hw := mid_wrap s hb
  rw [← he] at hw
  exact mid_any K _ _ _ (by omega) (by omega) hA hB hw (by omega)

theorem least_some (K : Nat) (hK : 150000 < K) (a0 : Int) : brushwoodlaw10_WeighLeast.f K a0 = some true := by
  by_cases h0 : a0 < 0
  · exact case_neg K (by omega) a0 h0
  · by_cases h1 : a0 > 64
    · exact case_big K (by omega) a0 h0 h1
    · obtain ⟨n, rfl⟩ : ∃ n : Nat, a0 = n := ⟨a0.toNat, by omega⟩
      by_cases h2 : n ≤ 30
      · exact case_small K (by omega) n h2 (small_ref K n h2 (by omega))
      · obtain ⟨m, rfl⟩ : ∃ m, n = m + 1 := ⟨n - 1, by omega⟩
        exact case_mid K (by omega) m (by omega) (by omega)

theorem WeighLeast : brushwoodlaw10_WeighLeast.Pure := fun a0 _ => ⟨150001, least_some 150001 (by omega) a0⟩

end Go.Proofs.Ytfffacgihgkobaa.Pure
