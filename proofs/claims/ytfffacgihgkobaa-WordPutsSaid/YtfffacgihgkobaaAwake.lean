/- The fixed examples of the word laws are true; no conditions. -/
import Derived.Test.YtfffacgihgkobaaMem
set_option linter.unusedVariables false
set_option linter.unusedSimpArgs false
namespace Go.Proofs.Ytfffacgihgkobaa
open Go.RowKit

/-- The numbers of Put's row. -/
def putNums (x : Int) (K : Nat) : List Int := (List.range K).map fun i => bytev x (K - 1 - i)
theorem putRow_nums (x : Int) (K : Nat) : putRow x K K = (putNums x K).map fun b => .int .u8 b := by
  unfold putRow putNums
  rw [List.map_map]
  apply List.map_congr_left
  intro i hi
  rw [List.mem_range] at hi
  simp [hi]

/-- Put's bytes as a text. -/
theorem put_text {w : World} {base : Nat} {x : Int} {K : Nat} (h : w.ownsRow base 5 1 (.slice (some ⟨base, 0, none⟩) K K) K (putRow x K K)) :
    (convert 38 9 (.slice (some ⟨base, 0, none⟩) K K)).run Try.prog w = .ok (.string (strOfNums (putNums x K))) w := by
  refine run_convert_bytes_arg _ 38 5 Try.underlying38 Try.underlying5 _ 0 K K (putNums x K) (by simp [putNums]) (fun i hi => ?_) 9 Try.underlying9
  rw [Nat.zero_add, h.cellAt i (by omega), putRow_nums, List.getElem?_map]
  simp [putNums, hi, List.getD_eq_getElem?_getD]

set_option maxHeartbeats 800000 in
theorem awake_any (w : World) : Calls Try.prog 25 #[] w fun e w' => e = .returned (.bool true) ∧ Below w.heap.size w w' := by
  go_enter Try.func25, Try.ntmps25
  go_wp2_with fail
  refine (put_any 258 3 _ 3 (by decide) (by omega)).mono ?_
  rintro e w1 ⟨rfl, hown, hb⟩
  have hconv := put_text hown
  have hs : strOfNums (putNums 258 3) = ⟨#[0, 1, 2]⟩ := by decide +kernel
  rw [hs] at hconv
  have hb2 := Lib.hid hb
  clear hown hb hs
  have hrd : RdB (w1.alloc (.cells #[.int .u8 1, .int .u8 2] 5)) (some ⟨w1.heap.size, 0, none⟩) 2 [1, 2] :=
    ⟨rfl, by omega, fun _ => ⟨_, _, rfl, by simp, fun j hj => by
      rw [World.cell?_alloc_at _ _ _ _ rfl]
      match j, hj with
      | 0, _ => rfl
      | 1, _ => rfl⟩⟩
  have HR := Lib.hid hrd
  clear hrd
  go_wp2_with fail
  refine (low_any _ _ _ _ _ HR.out).mono ?_
  rintro e w2 ⟨rfl, rfl⟩
  rw [show ((lowv (List.take 8 [1, 2]) : Nat) : Int) = 513 from rfl]
  go_wp2_with fail
  refine (cutv_any _ _ _ _).mono ?_
  rintro e w3 ⟨rfl, rfl⟩
  rw [show cutv 2748 4 4 = 11 by decide +kernel]
  go_wp2
  go_ret
  exact ⟨rfl, hb2.out.alloc hb2.out.size _⟩

end Go.Proofs.Ytfffacgihgkobaa
