/- Whether any two sizes are even, and whether one turn makes any three so, is what the reference says; no conditions. -/
import Derived.Test.YtfffacgihgkobaaPWeighEvenx1
namespace Go.Proofs.Ytfffacgihgkobaa.Pure
open Go.RowKit Go.Proofs.Ytfffacgihgkobaa.PWeighEven Go.Proofs.YtfffacgihgkobaaW.PrintWords Go.Proofs.YtfffacgihgkobaaW.PrintLast

theorem w64 {x : Int} (h1 : -9223372036854775808 ≤ x) (h2 : x ≤ 9223372036854775807) : wrap64 x = x := by
  unfold wrap64; omega

/-- A size within its bounds. -/
def cl (a : Int) : Int := if a < 0 then 0 else if a > 1048576 then 1048576 else a

theorem cl_bd (a : Int) : 0 ≤ cl a ∧ cl a ≤ 1048576 := by unfold cl; (repeat' split) <;> omega

theorem size_cl (a : Int) : weigh_size.f a = some (cl a) := by
  unfold weigh_size.f cl mn mx
  (repeat' split) <;> first | rfl | (exfalso; omega) | (congr 1; omega)

/-- Are two sizes even? -/
def ev (a b : Int) : Bool := decide (a + 1 ≤ 3 * (b + 1)) && decide (b + 1 ≤ 3 * (a + 1))

theorem even_ev {a b : Int} (ha : -1099511627776 ≤ a) (ha' : a ≤ 1099511627776) (hb : -1099511627776 ≤ b) (hb' : b ≤ 1099511627776) :
    weigh_even.f a b = some (ev a b) := by
  unfold weigh_even.f ev
  rw [w64 (x := a + 1) (by omega) (by omega), w64 (x := b + 1) (by omega) (by omega), w64 (by omega) (by omega), w64 (by omega) (by omega)]
  by_cases h : a + 1 ≤ 3 * (b + 1)
  · rw [if_pos h]; simp [h]
  · rw [if_neg h]; simp [h]

theorem Even_ev (a b : Int) : weigh_Even.f a b = some (ev (cl a) (cl b)) := by
  have ha := cl_bd a
  have hb := cl_bd b
  unfold weigh_Even.f
  rw [size_cl, size_cl]
  simp only [Option.bind_some]
  rw [even_ev (by omega) (by omega) (by omega) (by omega)]
  rfl

theorem ev_comm (a b : Int) : ev a b = ev b a := by unfold ev; rw [Bool.and_comm]

theorem Beside_cl (a : Int) : weigh_Beside.f a = some ((cl a + 3) / 3 - 1) := by
  have ha := cl_bd a
  unfold weigh_Beside.f
  rw [size_cl]
  simp only [Option.bind_some]
  rw [w64 (x := cl a + 1) (by omega) (by omega), w64 (x := cl a + 1 + 3) (by omega) (by omega), w64 (x := cl a + 1 + 3 - 1) (by omega) (by omega),
    Int.tdiv_eq_ediv_of_nonneg (by omega), w64 (x := (cl a + 1 + 3 - 1) / 3) (by omega) (by omega), w64 (by omega) (by omega)]
  congr 1; omega

theorem awake_true : brushwoodlaw10_awake.f = some true := by
  unfold brushwoodlaw10_awake.f
  rw [Even_ev, Even_ev, Beside_cl]
  decide

theorem held_cl (a : Int) : brushwoodref10_Held.f a = some (cl a) := by
  unfold brushwoodref10_Held.f cl
  (repeat' split) <;> rfl

theorem refEven_ev {a b : Int} (ha : -1099511627776 ≤ a) (ha' : a ≤ 1099511627776) (hb : -1099511627776 ≤ b) (hb' : b ≤ 1099511627776) :
    brushwoodref10_Even.f a b = some (ev a b) := by
  unfold brushwoodref10_Even.f ev
  rw [w64 (x := a + 1) (by omega) (by omega), w64 (x := b + 1) (by omega) (by omega), w64 (by omega) (by omega), w64 (by omega) (by omega)]
  by_cases h : a + 1 ≤ 3 * (b + 1)
  · rw [if_neg (by omega)]; congr 1; rw [Bool.eq_iff_iff]; simp; omega
  · rw [if_pos (by omega)]; congr 1; rw [Bool.eq_iff_iff]; simp; omega

theorem Single_ev (a b c : Int) : weigh_Single.f a b c = some (ev (cl a) (cl b) && ev (cl a + cl b + 1) (cl c)) := by
  have ha := cl_bd a
  have hb := cl_bd b
  have hc := cl_bd c
  unfold weigh_Single.f
  rw [size_cl, size_cl, size_cl]
  simp only [Option.bind_some]
  rw [even_ev (by omega) (by omega) (by omega) (by omega)]
  simp only [Option.bind_some]
  cases h : ev (cl a) (cl b)
  · rfl
  · rw [if_pos rfl, w64 (x := cl a + cl b) (by omega) (by omega), w64 (by omega) (by omega), even_ev (by omega) (by omega) (by omega) (by omega)]
    rfl

theorem WeighEven : brushwoodlaw10_WeighEven.Pure := by
  intro a0 a1 a2 _ _ _
  have ha := cl_bd a0
  have hb := cl_bd a1
  have hc := cl_bd a2
  refine ⟨1, ?_⟩
  unfold brushwoodlaw10_WeighEven.f
  rw [held_cl, held_cl, held_cl, Even_ev, Even_ev]
  simp only [Option.bind_some]
  rw [refEven_ev (by omega) (by omega) (by omega) (by omega)]
  simp only [Option.bind_some, bne_self_eq_false]
  rw [if_neg (by simp), ev_comm (cl a1) (cl a0), bne_self_eq_false]
  simp only [brushwoodlaw10_WeighEven.j0]
  rw [if_neg (by simp), Single_ev, refEven_ev (by omega) (by omega) (by omega) (by omega)]
  simp only [Option.bind_some]
  cases h : ev (cl a0) (cl a1)
  · simp [awake_true]
  · rw [if_pos rfl, w64 (x := cl a0 + cl a1) (by omega) (by omega), w64 (by omega) (by omega), refEven_ev (by omega) (by omega) (by omega) (by omega)]
    simp [awake_true]

end Go.Proofs.Ytfffacgihgkobaa.Pure
