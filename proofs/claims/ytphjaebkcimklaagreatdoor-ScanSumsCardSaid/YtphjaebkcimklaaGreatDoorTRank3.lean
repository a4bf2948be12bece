/- The package rank: Min, Max, Floor, Ceil. -/
import Derived.Test.YtphjaebkcimklaaGreatDoorTRank
set_option linter.unusedVariables false
set_option linter.unusedSimpArgs false
namespace Go.Proofs.YtphjaebkcimklaaGreatDoor
open Go.RowKit

theorem AtR.box {w X w2 : World} {e : Ending} {L : Pairs} {i : Int} {g : Nat} (h : AtR X w2 e L i) (hg : g < X.heap.size) (hw : w.heap.size ≤ g) (hX : Two X g (.slice none 0 0) (.slice none 0 0)) (hb : Below w.heap.size w X) :
    ∃ A n c A' n' c' ok, e = .returned (.tuple #[.agg #[.slice A n c, .slice A' n' c'], .bool ok]) ∧ Hid (Two w2 g (.slice none 0 0) (.slice none 0 0)) ∧
      Hid (AtR w ((w2.setCell ⟨g, 0, none⟩ (.slice A n c)).setCell ⟨g, 1, none⟩ (.slice A' n' c')) (.returned (.tuple #[.agg #[.slice A n c, .slice A' n' c'], .bool ok])) L i) := by
  obtain ⟨A, n, c, A', n', c', rfl, hp, hb2⟩ := h
  refine ⟨A, n, c, A', n', c', _, rfl, hX.below hb2 hg, Lib.hid ⟨A, n, c, A', n', c', rfl, ?_, ((hb.trans (hb2.mono hb.size)).setCell (p := ⟨g, 0, none⟩) hw _).setCell (p := ⟨g, 1, none⟩) hw _⟩⟩
  obtain ⟨h1, h2⟩ := hp.kx
  exact ⟨_, _, rfl, (BIn.set2 (b := g) h1 hg _ _).imp (fun b _ hb' => Nat.le_trans hb.size hb'), (BIn.set2 (b := g) h2 hg _ _).imp (fun b _ hb' => Nat.le_trans hb.size hb')⟩

set_option maxHeartbeats 3200000 in
theorem ceil_any {S S' : Nat → Prop} (T : PT) (v : Value) (kv : Value) (key : Bytes) (w : World) (hT : TIn S w v T) (hk : BIn S' w kv key) (hn : T.size ≤ 1000000) :
    Calls Tryz.prog 45 #[v, kv] w fun e w' => AtR w w' e T.list ((T.belowT (fun k => decide (cmp k key = -1)) : Int)) := by
  obtain ⟨tu, rfl⟩ := hT.ptr
  obtain ⟨A, n, c, rfl⟩ := hk.slice
  have HK := Lib.hid (fun W (h : Below w.heap.size w W) => hk.below h)
  have hle := T.belowT_le (fun k => decide (cmp k key = -1))
  have hw : (Lit.int .i64 (T.belowT (fun k => decide (cmp k key = -1)) : Int)).wf = true := WalkArith.wf_i64 (by omega)
  have HW := Lib.hid hw
  clear hw hk
  have HT := Lib.hid (fun W (h : Below w.heap.size w W) => hT.below h)
  have hB := (Below.refl _ w).alloc (Nat.le_refl _) (.cells #[.slice none 0 0, .slice none 0 0] 60)
  have hbox : Two (w.alloc (.cells #[.slice none 0 0, .slice none 0 0] 60)) w.heap.size (.slice none 0 0) (.slice none 0 0) := heap_new w _
  have hX : (w.alloc (.cells #[.slice none 0 0, .slice none 0 0] 60)).heap.size = w.heap.size + 1 := by simp
  have HB := Lib.hid hB
  have HBX := Lib.hid hbox
  have HX := Lib.hid hX
  clear hT hbox hB hX
  go_enter Tryz.func45, Tryz.ntmps45
  go_wp2_with fail
  refine (rank_any T (.pointer tu) (.slice A n c) key _ (HT.out _ HB.out) (HK.out _ HB.out) hn).mono ?_
  rintro e w1 ⟨rfl, hb1⟩
  have HB1 : Hid (Below w.heap.size w w1) := HB.out.trans (hb1.mono HB.out.size)
  have HBX1 : Hid (Two w1 w.heap.size (.slice none 0 0) (.slice none 0 0)) := HBX.out.below hb1 (by have := HX.out; omega)
  have HS1 : Hid (w.heap.size < w1.heap.size) := (by have h1 := HX.out; have h2 := hb1.size; omega : w.heap.size < w1.heap.size)
  clear hb1 HBX HB HX
  go_wp2_with fail
  refine (at_any T (.pointer tu) (T.belowT (fun k => decide (cmp k key = -1)) : Int) w1 (HT.out _ HB1.out) hn HW.out).mono ?_
  rintro e w2 hr
  obtain ⟨A1, n1, c1, A2, n2, c2, ok, rfl, H2, HR⟩ := hr.box (w := w) HS1.out (Nat.le_refl _) HBX1.out HB1.out
  obtain ⟨z0, z1⟩ := H2.out.cells
  have f0 := frozen_of_row _ _ 0 _ _ H2.out
  have f1 := frozen_of_row _ _ 1 _ _ H2.out
  clear hr
  go_wp2_with fail
  try simp only [Exit.inBlock, Exit.then]
  refine bodyPost_ret (results_two rfl _ _ w.heap.size _ _ (by rfl) (Two.set H2.out _ _)) rfl ?_
  exact HR.out

end Go.Proofs.YtphjaebkcimklaaGreatDoor
