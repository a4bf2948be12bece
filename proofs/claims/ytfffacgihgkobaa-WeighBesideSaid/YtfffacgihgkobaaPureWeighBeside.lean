/- The least size that is even with any one is so, and the one below it is not; no conditions. -/
import Derived.Test.YtfffacgihgkobaaPWeighBesidex1
namespace Go.Proofs.Ytfffacgihgkobaa.Pure
open Go.RowKit Go.Proofs.Ytfffacgihgkobaa.PWeighBeside Go.Proofs.YtfffacgihgkobaaW.PrintWords Go.Proofs.YtfffacgihgkobaaW.PrintLast

theorem w64 {x : Int} (h1 : -9223372036854775808 ≤ x) (h2 : x ≤ 9223372036854775807) : wrap64 x = x := by
  unfold wrap64; omega

/-- A size within its bounds. -/
def cl (a : Int) : Int := if a < 0 then 0 else if a > 1048576 then 1048576 else a

theorem cl_bd (a : Int) : 0 ≤ cl a ∧ cl a ≤ 1048576 := by unfold cl; (repeat' split) <;> omega

theorem size_cl (a : Int) : weigh_size.f a = some (cl a) := by
  unfold weigh_size.f cl mn mx
  (repeat' split) <;> first | rfl | (exfalso; omega) | (congr 1; omega)

/-- Are two sizes even? -/
def ev (a b : Int) : Bool := decide (a + 1 ≤ 3 * (b + 1)) && decide (b + 1 ≤ 3 * (a + 1))

theorem even_ev {a b : Int} (ha : -1099511627776 ≤ a) (ha' : a ≤ 1099511627776) (hb : -1099511627776 ≤ b) (hb' : b ≤ 1099511627776) :
    weigh_even.f a b = some (ev a b) := by
  unfold weigh_even.f ev
  rw [w64 (x := a + 1) (by omega) (by omega), w64 (x := b + 1) (by omega) (by omega), w64 (by omega) (by omega), w64 (by omega) (by omega)]
  by_cases h : a + 1 ≤ 3 * (b + 1)
  · rw [if_pos h]; simp [h]
  · rw [if_neg h]; simp [h]

theorem Even_ev (a b : Int) : weigh_Even.f a b = some (ev (cl a) (cl b)) := by
  have ha := cl_bd a
  have hb := cl_bd b
  unfold weigh_Even.f
  rw [size_cl, size_cl]
  simp only [Option.bind_some]
  rw [even_ev (by omega) (by omega) (by omega) (by omega)]
  rfl

theorem ev_comm (a b : Int) : ev a b = ev b a := by unfold ev; rw [Bool.and_comm]

theorem Beside_cl (a : Int) : weigh_Beside.f a = some ((cl a + 3) / 3 - 1) := by
  have ha := cl_bd a
  unfold weigh_Beside.f
  rw [size_cl]
  simp only [Option.bind_some]
  rw [w64 (x := cl a + 1) (by omega) (by omega), w64 (x := cl a + 1 + 3) (by omega) (by omega), w64 (x := cl a + 1 + 3 - 1) (by omega) (by omega),
    Int.tdiv_eq_ediv_of_nonneg (by omega), w64 (x := (cl a + 1 + 3 - 1) / 3) (by omega) (by omega), w64 (by omega) (by omega)]
  congr 1; omega

theorem awake_true : brushwoodlaw10_awake.f = some true := by
  unfold brushwoodlaw10_awake.f
  rw [Even_ev, Even_ev, Beside_cl]
  decide

theorem held_cl (a : Int) : brushwoodref10_Held.f a = some (cl a) := by
  unfold brushwoodref10_Held.f cl
  (repeat' split) <;> rfl

theorem refEven_ev {a b : Int} (ha : -1099511627776 ≤ a) (ha' : a ≤ 1099511627776) (hb : -1099511627776 ≤ b) (hb' : b ≤ 1099511627776) :
    brushwoodref10_Even.f a b = some (ev a b) := by
  unfold brushwoodref10_Even.f ev
  rw [w64 (x := a + 1) (by omega) (by omega), w64 (x := b + 1) (by omega) (by omega), w64 (by omega) (by omega), w64 (by omega) (by omega)]
  by_cases h : a + 1 ≤ 3 * (b + 1)
  · rw [if_neg (by omega)]; congr 1; rw [Bool.eq_iff_iff]; simp; omega
  · rw [if_pos (by omega)]; congr 1; rw [Bool.eq_iff_iff]; simp; omega

theorem WeighBeside : brushwoodlaw10_WeighBeside.Pure := by
  intro a0 _
  have hc := cl_bd a0
  unfold brushwoodlaw10_WeighBeside.f
  rw [held_cl, Beside_cl, awake_true]
  simp only [Option.bind_some]
  generalize cl a0 = c at hc
  rw [if_pos (by omega), refEven_ev (by omega) (by omega) (by omega) (by omega)]
  simp only [Option.bind_some]
  have h1 : ev ((c + 3) / 3 - 1) c = true := by unfold ev; simp; omega
  rw [h1, if_pos rfl]
  by_cases h : (c + 3) / 3 - 1 = 0
  · rw [if_pos h]
  · rw [if_neg h, w64 (by omega) (by omega), refEven_ev (by omega) (by omega) (by omega) (by omega)]
    simp only [Option.bind_some]
    have h2 : ev ((c + 3) / 3 - 1 - 1) c = false := by
      unfold ev; simp; omega
    rw [h2]; rfl

end Go.Proofs.Ytfffacgihgkobaa.Pure
