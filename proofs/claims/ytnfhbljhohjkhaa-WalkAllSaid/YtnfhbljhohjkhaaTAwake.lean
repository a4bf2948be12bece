/- law11's awake. -/
import Derived.Test.YtnfhbljhohjkhaaTOpen
set_option linter.unusedVariables false
set_option linter.unusedSimpArgs false
namespace Go.Proofs.Ytnfhbljhohjkhaa
open Go.RowKit

theorem conv_text (w : World) (s : ByteArray) : (convert 9 23 (.string s)).run Try.prog w = .ok (.slice (some ⟨w.heap.size, 0, none⟩) s.size (grownCap w s.size 0 5)) (Lib.bytesWorld w 5 s) :=
  Lib.run_convert_string_bytes w 9 23 5 s Try.underlying9 Try.underlying23 Try.underlying5
/-- The world behind '[]byte{z}' taken as it is. -/
def oneWorld (w : World) (z : Int) : World := (w.alloc (.cells #[.int .u8 z] 5)).freeze ⟨w.heap.size, 1, none⟩ 1
theorem conv_one (w : World) (z : Int) : (convert 23 23 (.slice (some ⟨w.heap.size, 0, none⟩) 1 1)).run Try.prog (w.alloc (.cells #[.int .u8 z] 5)) = .ok (.slice (some ⟨w.heap.size, 0, none⟩) 1 1) (oneWorld w z) := by
  have hsh : (w.alloc (.cells #[.int .u8 z] 5)).shape? w.heap.size = some (5, 1) := by
    simp [World.shape?, World.alloc, -World.alloc_eq]
  simp [convert, run_underlying Try.underlying23, run_underlying Try.underlying5, markStringish, hsh, oneWorld]
theorem one_size (w : World) (z : Int) : (oneWorld w z).heap.size = w.heap.size + 1 := by
  simp [oneWorld, World.freeze, World.alloc, -World.alloc_eq]
theorem one_old (w : World) (z : Int) (j : Nat) (hj : j < w.heap.size) : (oneWorld w z).heap[j]? = w.heap[j]? := by
  have h1 : w.heap.size ≠ j := by omega
  simp [oneWorld, World.freeze, World.alloc, -World.alloc_eq, Array.getElem?_modify, Array.getElem?_push, h1, Ne.symm h1]
theorem one_new (w : World) (z : Int) : (oneWorld w z).heap[w.heap.size]? = some (.cells #[.int .u8 z] 5 (1, 2)) := by
  simp [oneWorld, World.freeze, World.alloc, -World.alloc_eq]
  rw [Array.getElem_modify_self]
  simp
theorem text_below (w : World) (s : ByteArray) : Below w.heap.size w (Lib.bytesWorld w 5 s) :=
  ⟨rfl, rfl, rfl, by rw [Lib.bytesWorld_size]; omega, fun b hb => Lib.bytesWorld_at_old w 5 s b hb⟩
theorem text_in (w : World) (s : ByteArray) (hs : s.size ≤ 100000) : BIn (New w.heap.size) (Lib.bytesWorld w 5 s) (.slice (some ⟨w.heap.size, 0, none⟩) s.size (grownCap w s.size 0 5)) (strL s) :=
  ⟨_, _, _, rfl, ⟨grownCap_ge w _ _ _, hs⟩, ⟨strL_size s, by omega, fun hn => ⟨w.heap.size, 0, rfl, by rw [Lib.bytesWorld_size]; omega, fun j hj => by rw [Nat.zero_add]; exact Lib.bytesWorld_cell w 5 s j hj⟩⟩, fun b o _ e => by cases e; exact Nat.le_refl _⟩
theorem one_below (w : World) (z : Int) : Below w.heap.size w (oneWorld w z) :=
  ⟨rfl, rfl, rfl, by rw [one_size]; omega, fun b hb => one_old w z b hb⟩
theorem one_in (w : World) (z : UInt8) : BIn (New w.heap.size) (oneWorld w (z.toNat : Int)) (.slice (some ⟨w.heap.size, 0, none⟩) 1 1) [z] :=
  ⟨_, _, _, rfl, ⟨Nat.le_refl _, by omega⟩, ⟨rfl, by omega, fun hn => ⟨w.heap.size, 0, rfl, by rw [one_size]; omega, fun j hj => by
    obtain rfl : j = 0 := by omega
    exact cell_of_row (oneWorld w (z.toNat : Int)) w.heap.size 0 _ _ _ (one_new w _)⟩⟩, fun b o _ e => by cases e; exact Nat.le_refl _⟩

/-- What awake has put in. -/
def awL : Nat → Pairs
  | 0 => []
  | 1 => [([98], [])]
  | 2 => [([97], []), ([98], [])]
  | _ => [([97], []), ([98], []), ([99], [])]

theorem aw_put (j : Nat) (s : ByteArray) (k : Bytes) (hs : strL s = k) (hl : s.size ≤ 100000) (hins : insL k [] (awL j) = awL (j + 1)) (u : Option Addr) (T : PT) (w w0 : World) (hw : Below w.heap.size w w0) (hT : TIn (fun _ => True) w0 (.pointer u) T) (hev : T.even) (hL : T.list = awL j) (hj : j ≤ 2) :
    Calls Try.prog 71 #[.pointer u, .agg #[.slice (some ⟨w0.heap.size, 0, none⟩) s.size (grownCap w0 s.size 0 5), .slice none 0 0], .pointer none] (Lib.bytesWorld w0 5 s) fun e w' => ∃ u' T', e = .returned (.pointer u') ∧ Hid (TIn (fun _ => True) w' (.pointer u') T' ∧ T'.even ∧ T'.list = awL (j + 1) ∧ Below w.heap.size w w') := by
  have hasc : Asc T.list := by
    rw [hL]
    rcases (by omega : j = 0 ∨ j = 1 ∨ j = 2) with rfl | rfl | rfl <;> simp [awL, Asc, Lib.compareBytes]
  have hsz : T.size ≤ 2 := by
    rw [PT.size_of hL]
    rcases (by omega : j = 0 ∨ j = 1 ∨ j = 2) with rfl | rfl | rfl <;> simp [awL]
  have hp : PIn (fun _ => True) (Lib.bytesWorld w0 5 s) (.agg #[.slice (some ⟨w0.heap.size, 0, none⟩) s.size (grownCap w0 s.size 0 5), .slice none 0 0]) k [] :=
    ⟨_, _, rfl, by rw [← hs]; exact (text_in w0 s hl).imp (fun _ _ _ => trivial), BIn.nil _ _⟩
  have := Put_any (S := fun _ => True) none (by simp) k [] T (.pointer u) _ 0 0 (Lib.bytesWorld w0 5 s) (hT.below (text_below w0 s)) hp (fun b e => by cases e) hev (by omega) (by have := T.height_le; omega) (by have := T.height_le; omega)
  refine this.mono ?_
  rintro e w' ⟨u', T', vi', co', rfl, t1, t2, t3, t4⟩
  exact ⟨u', T', rfl, Lib.hid ⟨t3.imp (fun _ _ _ => trivial), t2, by rw [t1, put_plain T k [] hasc, hL, hins], (hw.trans ((text_below w0 s).mono hw.size)).trans (t4.kept.to.mono (Nat.le_trans hw.size (text_below w0 s).size))⟩⟩

end Go.Proofs.Ytnfhbljhohjkhaa
