/- law11's awake. -/
import Derived.Test.YtlnlgahokifolaaTOpen
set_option linter.unusedVariables false
set_option linter.unusedSimpArgs false
namespace Go.Proofs.Ytlnlgahokifolaa
open Go.RowKit

theorem conv_text (w : World) (s : ByteArray) : (convert 9 27 (.string s)).run Try.prog w = .ok (.slice (some ⟨w.heap.size, 0, none⟩) s.size (grownCap w s.size 0 5)) (Lib.bytesWorld w 5 s) :=
  Lib.run_convert_string_bytes w 9 27 5 s Try.underlying9 Try.underlying27 Try.underlying5
/-- The world behind '[]byte{z}' taken as it is. -/
def oneWorld (w : World) (z : Int) : World := (w.alloc (.cells #[.int .u8 z] 5)).freeze ⟨w.heap.size, 1, none⟩ 1
theorem conv_one (w : World) (z : Int) : (convert 27 27 (.slice (some ⟨w.heap.size, 0, none⟩) 1 1)).run Try.prog (w.alloc (.cells #[.int .u8 z] 5)) = .ok (.slice (some ⟨w.heap.size, 0, none⟩) 1 1) (oneWorld w z) := by
  have hsh : (w.alloc (.cells #[.int .u8 z] 5)).shape? w.heap.size = some (5, 1) := by
    simp [World.shape?, World.alloc, -World.alloc_eq]
  simp [convert, run_underlying Try.underlying27, run_underlying Try.underlying5, markStringish, hsh, oneWorld]
theorem one_size (w : World) (z : Int) : (oneWorld w z).heap.size = w.heap.size + 1 := by
  simp [oneWorld, World.freeze, World.alloc, -World.alloc_eq]
theorem one_old (w : World) (z : Int) (j : Nat) (hj : j < w.heap.size) : (oneWorld w z).heap[j]? = w.heap[j]? := by
  have h1 : w.heap.size ≠ j := by omega
  simp [oneWorld, World.freeze, World.alloc, -World.alloc_eq, Array.getElem?_modify, Array.getElem?_push, h1, Ne.symm h1]
theorem one_new (w : World) (z : Int) : (oneWorld w z).heap[w.heap.size]? = some (.cells #[.int .u8 z] 5 (1, 2)) := by
  simp [oneWorld, World.freeze, World.alloc, -World.alloc_eq]
  rw [Array.getElem_modify_self]
  simp
theorem text_below (w : World) (s : ByteArray) : Below w.heap.size w (Lib.bytesWorld w 5 s) :=
  ⟨rfl, rfl, rfl, by rw [Lib.bytesWorld_size]; omega, fun b hb => Lib.bytesWorld_at_old w 5 s b hb⟩
theorem text_in (w : World) (s : ByteArray) (hs : s.size ≤ 100000) : BIn (New w.heap.size) (Lib.bytesWorld w 5 s) (.slice (some ⟨w.heap.size, 0, none⟩) s.size (grownCap w s.size 0 5)) (strL s) :=
  ⟨_, _, _, rfl, ⟨grownCap_ge w _ _ _, hs⟩, ⟨strL_size s, by omega, fun hn => ⟨w.heap.size, 0, rfl, by rw [Lib.bytesWorld_size]; omega, fun j hj => by rw [Nat.zero_add]; exact Lib.bytesWorld_cell w 5 s j hj⟩⟩, fun b o _ e => by cases e; exact Nat.le_refl _⟩
theorem one_below (w : World) (z : Int) : Below w.heap.size w (oneWorld w z) :=
  ⟨rfl, rfl, rfl, by rw [one_size]; omega, fun b hb => one_old w z b hb⟩
theorem one_in (w : World) (z : UInt8) : BIn (New w.heap.size) (oneWorld w (z.toNat : Int)) (.slice (some ⟨w.heap.size, 0, none⟩) 1 1) [z] :=
  ⟨_, _, _, rfl, ⟨Nat.le_refl _, by omega⟩, ⟨rfl, by omega, fun hn => ⟨w.heap.size, 0, rfl, by rw [one_size]; omega, fun j hj => by
    obtain rfl : j = 0 := by omega
    exact cell_of_row (oneWorld w (z.toNat : Int)) w.heap.size 0 _ _ _ (one_new w _)⟩⟩, fun b o _ e => by cases e; exact Nat.le_refl _⟩

theorem ix0 (W : World) (x y z : ByteArray) : (Instr.index 65 (.agg #[.string x, .string y, .string z]) (.int .i64 0)).run Try.prog W = .ok (.string x) W := by kernel_rfl
theorem ix1 (W : World) (x y z : ByteArray) : (Instr.index 65 (.agg #[.string x, .string y, .string z]) (.int .i64 1)).run Try.prog W = .ok (.string y) W := by kernel_rfl
theorem ix2 (W : World) (x y z : ByteArray) : (Instr.index 65 (.agg #[.string x, .string y, .string z]) (.int .i64 2)).run Try.prog W = .ok (.string z) W := by kernel_rfl

/-- What awake has put in. -/
def awL : Nat → Pairs
  | 0 => []
  | 1 => [([98], [])]
  | 2 => [([97], []), ([98], [])]
  | _ => [([97], []), ([98], []), ([99], [])]

theorem aw_put (j : Nat) (s : ByteArray) (k : Bytes) (hs : strL s = k) (hl : s.size ≤ 100000) (hins : insL k [] (awL j) = awL (j + 1)) (u : Option Addr) (T : PT) (w w0 : World) (hw : Below w.heap.size w w0) (hT : TIn (fun _ => True) w0 (.pointer u) T) (hev : T.even) (hL : T.list = awL j) (hj : j ≤ 2) :
    Calls Try.prog 41 #[.pointer u, .agg #[.slice (some ⟨w0.heap.size, 0, none⟩) s.size (grownCap w0 s.size 0 5), .slice none 0 0], .pointer none] (Lib.bytesWorld w0 5 s) fun e w' => ∃ u' T', e = .returned (.pointer u') ∧ Hid (TIn (fun _ => True) w' (.pointer u') T' ∧ T'.even ∧ T'.list = awL (j + 1) ∧ Below w.heap.size w w') := by
  have hasc : Asc T.list := by
    rw [hL]
    rcases (by omega : j = 0 ∨ j = 1 ∨ j = 2) with rfl | rfl | rfl <;> simp [awL, Asc, Lib.compareBytes]
  have hsz : T.size ≤ 2 := by
    rw [PT.size_of hL]
    rcases (by omega : j = 0 ∨ j = 1 ∨ j = 2) with rfl | rfl | rfl <;> simp [awL]
  have hp : PIn (fun _ => True) (Lib.bytesWorld w0 5 s) (.agg #[.slice (some ⟨w0.heap.size, 0, none⟩) s.size (grownCap w0 s.size 0 5), .slice none 0 0]) k [] :=
    ⟨_, _, rfl, by rw [← hs]; exact (text_in w0 s hl).imp (fun _ _ _ => trivial), BIn.nil _ _⟩
  have := Put_any (S := fun _ => True) none (by simp) k [] T (.pointer u) _ 0 0 (Lib.bytesWorld w0 5 s) (hT.below (text_below w0 s)) hp (fun b e => by cases e) hev (by omega) (by have := T.height_le; omega) (by have := T.height_le; omega)
  refine this.mono ?_
  rintro e w' ⟨u', T', vi', co', rfl, t1, t2, t3, t4⟩
  exact ⟨u', T', rfl, Lib.hid ⟨t3.imp (fun _ _ _ => trivial), t2, by rw [t1, put_plain T k [] hasc, hL, hins], (hw.trans ((text_below w0 s).mono hw.size)).trans (t4.kept.to.mono (Nat.le_trans hw.size (text_below w0 s).size))⟩⟩

set_option maxRecDepth 100000 in
set_option maxHeartbeats 6400000 in
theorem awake_any (w : World) : Calls Try.prog 14 #[] w fun e w' => e = .returned (.bool true) ∧ Below w.heap.size w w' := by
  go_enter Try.func14, Try.ntmps14
  go_wp2_with fail
  go_loopw [1, 7] (fun t v wr => ∃ (j : Nat) (u : Option Addr) (T : PT), v = .int .i64 (j : Int) ∧ j ≤ 3 ∧ t = .pointer u ∧ Hid (TIn (fun _ => True) wr (.pointer u) T ∧ T.even ∧ T.list = awL j ∧ Below w.heap.size w wr)) (fun _ v _ => 3 - (intOf v).toNat)
  case atStart => exact ⟨0, none, .nil, rfl, by omega, rfl, Lib.hid ⟨rfl, trivial, rfl, Below.refl _ _⟩⟩
  case round =>
    obtain ⟨j, u, T, rfl, hj, rfl, hI⟩ := hrel
    rcases (by omega : j = 0 ∨ j = 1 ∨ j = 2 ∨ j = 3) with rfl | rfl | rfl | rfl
    · have hix := fun W => ix0 W ⟨#[98]⟩ ⟨#[97]⟩ ⟨#[99]⟩
      have hcv := fun w => conv_text w ⟨#[98]⟩
      have HC := Lib.hid (aw_put 0 ⟨#[98]⟩ [98] rfl (by decide) rfl u T w wr hI.out.2.2.2 hI.out.1 hI.out.2.1 hI.out.2.2.1 (by omega))
      go_wp2_with fail
      refine HC.out.mono ?_
      rintro e w2 ⟨u', T', rfl, hN⟩
      go_wp2_with fail
      go_roundw
      case rel => exact ⟨1, u', T', by go_num, by omega, rfl, hN⟩
      case measure => simp [intOf]
    · have hix := fun W => ix1 W ⟨#[98]⟩ ⟨#[97]⟩ ⟨#[99]⟩
      have hcv := fun w => conv_text w ⟨#[97]⟩
      have HC := Lib.hid (aw_put 1 ⟨#[97]⟩ [97] rfl (by decide) rfl u T w wr hI.out.2.2.2 hI.out.1 hI.out.2.1 hI.out.2.2.1 (by omega))
      go_wp2_with fail
      refine HC.out.mono ?_
      rintro e w2 ⟨u', T', rfl, hN⟩
      go_wp2_with fail
      go_roundw
      case rel => exact ⟨2, u', T', by go_num, by omega, rfl, hN⟩
      case measure => simp [intOf]
    · have hix := fun W => ix2 W ⟨#[98]⟩ ⟨#[97]⟩ ⟨#[99]⟩
      have hcv := fun w => conv_text w ⟨#[99]⟩
      have HC := Lib.hid (aw_put 2 ⟨#[99]⟩ [99] rfl (by decide) rfl u T w wr hI.out.2.2.2 hI.out.1 hI.out.2.1 hI.out.2.2.1 (by omega))
      go_wp2_with fail
      refine HC.out.mono ?_
      rintro e w2 ⟨u', T', rfl, hN⟩
      go_wp2_with fail
      go_roundw
      case rel => exact ⟨3, u', T', by go_num, by omega, rfl, hN⟩
      case measure => simp [intOf]
    · have hc27 := fun w => conv_one w 98
      have hb : Below w.heap.size w (oneWorld wr 98) := hI.out.2.2.2.trans ((one_below wr 98).mono hI.out.2.2.2.size)
      have hasc : Asc T.list := by rw [hI.out.2.2.1]; simp [awL, Asc, Lib.compareBytes]
      have hsz : T.size = 3 := by rw [PT.size_of hI.out.2.2.1]; rfl
      have hdel := Delete_any (S := fun _ => True) (S' := New wr.heap.size) none (by simp) (by simp) [98] T (.pointer u) _ 0 0 (oneWorld wr 98) (hI.out.1.below (one_below wr 98)) (one_in wr 98) (fun b e => by cases e) hI.out.2.1 (by omega) (by have := T.height_le; omega) (by have := T.height_le; omega)
      have hd := del_plain T [98] hasc
      rw [hI.out.2.2.1] at hd
      rw [hd.1, hd.2, show (getM (awL 3) [98]).isSome = true by decide] at hdel
      have HDEL := Lib.hid hdel
      have HB := Lib.hid hb
      clear hb hasc hsz hdel hd
      go_wp2_with fail
      refine HDEL.out.mono ?_
      rintro e w2 ⟨u', T', vi', co', rfl, t1, t2, t3, t4⟩
      have t1' : T'.list = [([97], []), ([99], [])] := by rw [t1]; decide
      have HF : Hid (T'.list = [([97], []), ([99], [])] ∧ T'.even ∧ TIn (fun _ => True) w2 (.pointer u') T' ∧ Below w.heap.size w w2) := ⟨t1', t2, t3.imp (fun _ _ _ => trivial), HB.out.trans (t4.kept.to.mono HB.out.size)⟩
      clear t1 t1' t2 t3 t4
      go_wp2_with fail
      refine (list_any T' (.pointer u') w2 HF.out.2.2.1 (by have := PT.size_of HF.out.1; simp at this; omega)).mono ?_
      rintro e w3 ⟨A, c, rfl, hc, hL, hb3⟩
      have hsz : T'.size = 2 := PT.size_of HF.out.1
      rw [hsz, HF.out.1] at hL
      rw [hsz]
      obtain ⟨b, o, rfl, hbl, hSb, hcell⟩ := hL.cell (by omega)
      obtain ⟨kv0, xv0, c0, _, hk0, _⟩ := hcell 0 (by omega)
      obtain ⟨kv1, xv1, c1, _, hk1, _⟩ := hcell 1 (by omega)
      obtain ⟨A0, n0, cc0, rfl⟩ := hk0.slice
      obtain ⟨A1, n1, cc1, rfl⟩ := hk1.slice
      have hv0a := conv_bytes hk0
      have hv1a := conv_bytes hk1
      have hv0 : Sem.run Try.prog (convert 27 9 (Value.slice A0 n0 cc0)) w3 = Result.ok (Value.string ⟨#[97]⟩) w3 := hv0a
      have hv1 : Sem.run Try.prog (convert 27 9 (Value.slice A1 n1 cc1)) w3 = Result.ok (Value.string ⟨#[99]⟩) w3 := hv1a
      have ht0 : (ByteArray.mk #[97]).toList = [97] := by rw [ByteArray.toList_eq]
      have ht1 : (ByteArray.mk #[99]).toList = [99] := by rw [ByteArray.toList_eq]
      clear hv0a hv1a
      have e0 : o + 0 * 2 = o := by omega
      have e1 : o + 1 * 2 = o + 2 := by omega
      rw [e0] at c0
      rw [e1] at c1
      have HB3 : Hid (Below w.heap.size w w3) := HF.out.2.2.2.trans (hb3.mono HF.out.2.2.2.size)
      have HS : Hid (Calls Try.prog 18 #[.pointer u'] w3 fun e w' => e = .returned (.bool true) ∧ Below w3.heap.size w3 w') :=
        sound_any T' (.pointer u') w3 (HF.out.2.2.1.below hb3) HF.out.2.1 (by rw [HF.out.1]; simp [Asc, Lib.compareBytes]) (by omega)
      clear hL hcell hk0 hk1 hb3 hsz hSb e0 e1 hc
      go_wp2_with fail
      refine HS.out.mono ?_
      rintro e w4 ⟨rfl, hb4⟩
      have HB4 : Hid (Below w.heap.size w w4) := HB3.out.trans (hb4.mono HB3.out.size)
      clear hb4 c0 c1 hv0 hv1
      go_wp2_with fail
      go_ret
      exact ⟨rfl, HB4.out⟩

end Go.Proofs.Ytlnlgahokifolaa
