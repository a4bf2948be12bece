/- The awake of the laws of pairs. -/
import Derived.Test.YtocideolihbnaaaCMap
set_option linter.unusedVariables false
set_option linter.unusedSimpArgs false
namespace Go.Proofs.Ytocideolihbnaaa
open Go.RowKit Go.Deep

/-- The world behind '[]byte{z}' taken as it is. -/
def oneWorld (w : World) (z : Int) : World := (w.alloc (.cells #[.int .u8 z] 5)).freeze ⟨w.heap.size, 1, none⟩ 1
theorem conv_one (w : World) (z : Int) : (convert 32 32 (.slice (some ⟨w.heap.size, 0, none⟩) 1 1)).run Try.prog (w.alloc (.cells #[.int .u8 z] 5)) = .ok (.slice (some ⟨w.heap.size, 0, none⟩) 1 1) (oneWorld w z) := by
  have hsh : (w.alloc (.cells #[.int .u8 z] 5)).shape? w.heap.size = some (5, 1) := by
    simp [World.shape?, World.alloc, -World.alloc_eq]
  simp [convert, run_underlying Try.underlying32, run_underlying Try.underlying5, markStringish, hsh, oneWorld]
theorem one_size (w : World) (z : Int) : (oneWorld w z).heap.size = w.heap.size + 1 := by
  simp [oneWorld, World.freeze, World.alloc, -World.alloc_eq]
theorem one_old (w : World) (z : Int) (j : Nat) (hj : j < w.heap.size) : (oneWorld w z).heap[j]? = w.heap[j]? := by
  have h1 : w.heap.size ≠ j := by omega
  simp [oneWorld, World.freeze, World.alloc, -World.alloc_eq, Array.getElem?_modify, Array.getElem?_push, h1, Ne.symm h1]
theorem one_new (w : World) (z : Int) : (oneWorld w z).heap[w.heap.size]? = some (.cells #[.int .u8 z] 5 (1, 2)) := by
  simp [oneWorld, World.freeze, World.alloc, -World.alloc_eq]
  rw [Array.getElem_modify_self]
  simp
theorem one_below (w : World) (z : Int) : Below w.heap.size w (oneWorld w z) :=
  ⟨rfl, rfl, rfl, by rw [one_size]; omega, fun b hb => one_old w z b hb⟩
theorem one_in (w : World) (z : UInt8) : BIn (New w.heap.size) (oneWorld w (z.toNat : Int)) (.slice (some ⟨w.heap.size, 0, none⟩) 1 1) [z] :=
  ⟨_, _, _, rfl, ⟨Nat.le_refl _, by omega⟩, ⟨rfl, by omega, fun hn => ⟨w.heap.size, 0, rfl, by rw [one_size]; omega, fun j hj => by
    obtain rfl : j = 0 := by omega
    exact cell_of_row (oneWorld w (z.toNat : Int)) w.heap.size 0 _ _ _ (one_new w _)⟩⟩, fun b o _ e => by cases e; exact Nat.le_refl _⟩

/-- What Come tells, with its list named. -/
theorem Came.parts {w w' : World} {e : Ending} {L : Pairs} {n : Nat} (h : Came w w' e L n) (hL : L.length = n) :
    ∃ A' c' M, e = .returned (.slice A' M.length c') ∧ Hid (M.length ≤ c' ∧ LIn (New w.heap.size) w' A' M.length M ∧ Asc M ∧ M.length ≤ n ∧ M = comeL L ∧ Below w.heap.size w w' ∧ ((A' = none ∧ c' = 0) ∨ ∃ g, A' = some ⟨g, 0, none⟩)) := by
  obtain ⟨A', c', f, rfl, h1, h2, h3, h4, h5⟩ := h
  exact ⟨A', c', _, rfl, Lib.hid ⟨h1, h2, dd_asc L f n hL h3, dd_len _ _, dd_come L f n hL h3, h4, h5⟩⟩

set_option maxRecDepth 100000 in
set_option maxHeartbeats 3200000 in
theorem awake_any (w : World) : Calls Try.prog 10 #[] w fun e w' => e = .returned (.bool true) ∧ Below w.heap.size w w' := by
  have hc49 := fun w => conv_one w 49
  have hc50 := fun w => conv_one w 50
  have hc51 := fun w => conv_one w 51
  have hc97 := fun w => conv_one w 97
  have hc98 := fun w => conv_one w 98
  have hp0 := one_in w 98
  have hb0 := one_below w 98
  have hp1 := one_in (oneWorld w 98) 49
  have hb1 := one_below (oneWorld w 98) 49
  have hp2 := one_in (oneWorld (oneWorld w 98) 49) 97
  have hb2 := one_below (oneWorld (oneWorld w 98) 49) 97
  have hp3 := one_in (oneWorld (oneWorld (oneWorld w 98) 49) 97) 50
  have hb3 := one_below (oneWorld (oneWorld (oneWorld w 98) 49) 97) 50
  have hp4 := one_in (oneWorld (oneWorld (oneWorld (oneWorld w 98) 49) 97) 50) 98
  have hb4 := one_below (oneWorld (oneWorld (oneWorld (oneWorld w 98) 49) 97) 50) 98
  have hp5 := one_in (oneWorld (oneWorld (oneWorld (oneWorld (oneWorld w 98) 49) 97) 50) 98) 51
  have hb5 := one_below (oneWorld (oneWorld (oneWorld (oneWorld (oneWorld w 98) 49) 97) 50) 98) 51
  have hq0 : BIn (fun _ => True) (oneWorld (oneWorld (oneWorld (oneWorld (oneWorld (oneWorld w 98) 49) 97) 50) 98) 51) (.slice (some ⟨w.heap.size, 0, none⟩) 1 1) [98] := by
    have h := hp0
    have h := BIn.below h hb1
    have h := BIn.below h hb2
    have h := BIn.below h hb3
    have h := BIn.below h hb4
    have h := BIn.below h hb5
    exact h.imp fun _ _ _ => trivial
  have hq1 : BIn (fun _ => True) (oneWorld (oneWorld (oneWorld (oneWorld (oneWorld (oneWorld w 98) 49) 97) 50) 98) 51) (.slice (some ⟨(oneWorld w 98).heap.size, 0, none⟩) 1 1) [49] := by
    have h := hp1
    have h := BIn.below h hb2
    have h := BIn.below h hb3
    have h := BIn.below h hb4
    have h := BIn.below h hb5
    exact h.imp fun _ _ _ => trivial
  have hq2 : BIn (fun _ => True) (oneWorld (oneWorld (oneWorld (oneWorld (oneWorld (oneWorld w 98) 49) 97) 50) 98) 51) (.slice (some ⟨(oneWorld (oneWorld w 98) 49).heap.size, 0, none⟩) 1 1) [97] := by
    have h := hp2
    have h := BIn.below h hb3
    have h := BIn.below h hb4
    have h := BIn.below h hb5
    exact h.imp fun _ _ _ => trivial
  have hq3 : BIn (fun _ => True) (oneWorld (oneWorld (oneWorld (oneWorld (oneWorld (oneWorld w 98) 49) 97) 50) 98) 51) (.slice (some ⟨(oneWorld (oneWorld (oneWorld w 98) 49) 97).heap.size, 0, none⟩) 1 1) [50] := by
    have h := hp3
    have h := BIn.below h hb4
    have h := BIn.below h hb5
    exact h.imp fun _ _ _ => trivial
  have hq4 : BIn (fun _ => True) (oneWorld (oneWorld (oneWorld (oneWorld (oneWorld (oneWorld w 98) 49) 97) 50) 98) 51) (.slice (some ⟨(oneWorld (oneWorld (oneWorld (oneWorld w 98) 49) 97) 50).heap.size, 0, none⟩) 1 1) [98] := by
    have h := hp4
    have h := BIn.below h hb5
    exact h.imp fun _ _ _ => trivial
  have hq5 : BIn (fun _ => True) (oneWorld (oneWorld (oneWorld (oneWorld (oneWorld (oneWorld w 98) 49) 97) 50) 98) 51) (.slice (some ⟨(oneWorld (oneWorld (oneWorld (oneWorld (oneWorld w 98) 49) 97) 50) 98).heap.size, 0, none⟩) 1 1) [51] := by
    have h := hp5
    exact h.imp fun _ _ _ => trivial
  have hbw : Below w.heap.size w (oneWorld (oneWorld (oneWorld (oneWorld (oneWorld (oneWorld w 98) 49) 97) 50) 98) 51) := by
    have h := hb0
    have h := h.trans (hb1.mono h.size)
    have h := h.trans (hb2.mono h.size)
    have h := h.trans (hb3.mono h.size)
    have h := h.trans (hb4.mono h.size)
    have h := h.trans (hb5.mono h.size)
    exact h
  have HW := Lib.hid (And.intro hbw (And.intro hq0 (And.intro hq1 (And.intro hq2 (And.intro hq3 (And.intro hq4 hq5))))))
  clear hp0 hb0 hq0 hp1 hb1 hq1 hp2 hb2 hq2 hp3 hb3 hq3 hp4 hb4 hq4 hp5 hb5 hq5 hbw
  go_enter Try.func10, Try.ntmps10
  go_wp2_with fail
  generalize (oneWorld w 98).heap.size = b1 at *
  generalize (oneWorld (oneWorld w 98) 49).heap.size = b2 at *
  generalize (oneWorld (oneWorld (oneWorld w 98) 49) 97).heap.size = b3 at *
  generalize (oneWorld (oneWorld (oneWorld (oneWorld w 98) 49) 97) 50).heap.size = b4 at *
  generalize (oneWorld (oneWorld (oneWorld (oneWorld (oneWorld w 98) 49) 97) 50) 98).heap.size = b5 at *
  generalize (oneWorld (oneWorld (oneWorld (oneWorld (oneWorld (oneWorld w 98) 49) 97) 50) 98) 51) = V at *
  have hnew := heap_new V (.cells #[.slice (some ⟨w.heap.size, 0, none⟩) 1 1, .slice (some ⟨b1, 0, none⟩) 1 1, .slice (some ⟨b2, 0, none⟩) 1 1, .slice (some ⟨b3, 0, none⟩) 1 1, .slice (some ⟨b4, 0, none⟩) 1 1, .slice (some ⟨b5, 0, none⟩) 1 1] 34)
  have hb5 := (Below.refl _ V).alloc (Nat.le_refl _) (.cells #[.slice (some ⟨w.heap.size, 0, none⟩) 1 1, .slice (some ⟨b1, 0, none⟩) 1 1, .slice (some ⟨b2, 0, none⟩) 1 1, .slice (some ⟨b3, 0, none⟩) 1 1, .slice (some ⟨b4, 0, none⟩) 1 1, .slice (some ⟨b5, 0, none⟩) 1 1] 34)
  have hL : LIn (fun _ => True) (V.alloc (.cells #[.slice (some ⟨w.heap.size, 0, none⟩) 1 1, .slice (some ⟨b1, 0, none⟩) 1 1, .slice (some ⟨b2, 0, none⟩) 1 1, .slice (some ⟨b3, 0, none⟩) 1 1, .slice (some ⟨b4, 0, none⟩) 1 1, .slice (some ⟨b5, 0, none⟩) 1 1] 34)) (some ⟨V.heap.size, 0, none⟩) 3 [([98], [49]), ([97], [50]), ([98], [51])] :=
    ⟨rfl, fun _ => ⟨_, 0, rfl, (Array.getElem?_eq_some_iff.1 hnew).1, trivial, fun j hj => by
      rcases (by omega : j = 0 ∨ j = 1 ∨ j = 2) with rfl | rfl | rfl
      · exact ⟨_, _, cell_of_row _ _ 0 _ _ _ hnew, cell_of_row _ _ 1 _ _ _ hnew, HW.out.2.1.below hb5, HW.out.2.2.1.below hb5⟩
      · exact ⟨_, _, cell_of_row _ _ 2 _ _ _ hnew, cell_of_row _ _ 3 _ _ _ hnew, HW.out.2.2.2.1.below hb5, HW.out.2.2.2.2.1.below hb5⟩
      · exact ⟨_, _, cell_of_row _ _ 4 _ _ _ hnew, cell_of_row _ _ 5 _ _ _ hnew, HW.out.2.2.2.2.2.1.below hb5, HW.out.2.2.2.2.2.2.below hb5⟩⟩⟩
  have HCO := Lib.hid (Come_any _ _ 3 3 _ hL (by omega) (by omega))
  have HB5 := Lib.hid (HW.out.1.alloc HW.out.1.size (.cells #[.slice (some ⟨w.heap.size, 0, none⟩) 1 1, .slice (some ⟨b1, 0, none⟩) 1 1, .slice (some ⟨b2, 0, none⟩) 1 1, .slice (some ⟨b3, 0, none⟩) 1 1, .slice (some ⟨b4, 0, none⟩) 1 1, .slice (some ⟨b5, 0, none⟩) 1 1] 34))
  clear hnew hb5 hL
  refine HCO.out.mono ?_
  rintro e w2 hcame
  obtain ⟨A2, c2, M, rfl, hM⟩ := hcame.parts rfl
  have hMM : M = [([97], [50]), ([98], [51])] := hM.out.2.2.2.2.1.trans (by decide)
  have HB2 : Hid (Below w.heap.size w w2) := HB5.out.trans (hM.out.2.2.2.2.2.1.mono HB5.out.size)
  subst hMM
  clear hcame
  obtain ⟨b, o, rfl, hbl, hS, hc⟩ := hM.out.2.1.cell (by simp)
  obtain ⟨k0, x0, c0, c1, hk0, hx0⟩ := hc 0 (by simp)
  obtain ⟨k1, x1, d0, d1, hk1, hx1⟩ := hc 1 (by simp)
  obtain ⟨Ak, nk, ck, rfl⟩ := hk0.slice
  obtain ⟨Ax, nx, cx, rfl⟩ := hx1.slice
  have hv : Sem.run Try.prog (convert 32 9 (Value.slice Ak nk ck)) w2 = Result.ok (Value.string ⟨#[97]⟩) w2 := conv_bytes hk0
  have hv2 : Sem.run Try.prog (convert 32 9 (Value.slice Ax nx cx)) w2 = Result.ok (Value.string ⟨#[51]⟩) w2 := conv_bytes hx1
  simp only [Nat.zero_mul, Nat.one_mul, Nat.add_zero] at c0 c1 d0 d1
  have hcc2 : 2 ≤ c2 := hM.out.1
  have ht0 : (ByteArray.mk #[97]).toList = [97] := by rw [ByteArray.toList_eq]
  have ht1 : (ByteArray.mk #[51]).toList = [51] := by rw [ByteArray.toList_eq]
  clear hc hk0 hx0 hk1 hx1
  go_wp2_with fail
  go_ret
  exact ⟨rfl, HB2.out⟩

end Go.Proofs.Ytocideolihbnaaa
