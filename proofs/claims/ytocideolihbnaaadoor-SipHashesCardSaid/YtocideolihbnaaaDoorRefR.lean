/- The contract of the reference's Round: the same four numbers as the round's. -/
import Derived.Test.YtocideolihbnaaaDoorRegs
import Derived.Deep.DeepCutAuto
import Derived.Deep.CutRange
import Derived.Deep.RegionWith
set_option linter.unusedVariables false
set_option linter.unusedSimpArgs false
namespace Go.Proofs.YtocideolihbnaaaDoor
open Go.RowKit
attribute [local go_sem ↓] Go.wp_at_zero Go.wp_at_succ

theorem results4 {fn : Func} {a b c d : Tmp} (h : fn.results = #[.cell a 52, .cell b 52, .cell c 52, .cell d 52]) (tmps : Array Value) (w : World) (ga gb gc gd : Nat) (a1 a2 b1 b2 c1 c2 d1 d2 : Int)
    (ha : tmps.getD a undef = .pointer (some ⟨ga, 0, none⟩)) (hb : tmps.getD b undef = .pointer (some ⟨gb, 0, none⟩)) (hc : tmps.getD c undef = .pointer (some ⟨gc, 0, none⟩)) (hd : tmps.getD d undef = .pointer (some ⟨gd, 0, none⟩))
    (ka : Pr w ga a1 a2) (kb : Pr w gb b1 b2) (kc : Pr w gc c1 c2) (kd : Pr w gd d1 d2) :
    (results fn tmps).run Tryd.prog w = .ok (.tuple #[.agg #[.int .u64 a1, .int .u64 a2], .agg #[.int .u64 b1, .int .u64 b2], .agg #[.int .u64 c1, .int .u64 c2], .agg #[.int .u64 d1, .int .u64 d2]]) w := by
  have ha' : tmps[a]?.getD undef = .pointer (some ⟨ga, 0, none⟩) := by simpa using ha
  have hb' : tmps[b]?.getD undef = .pointer (some ⟨gb, 0, none⟩) := by simpa using hb
  have hc' : tmps[c]?.getD undef = .pointer (some ⟨gc, 0, none⟩) := by simpa using hc
  have hd' : tmps[d]?.getD undef = .pointer (some ⟨gd, 0, none⟩) := by simpa using hd
  simp [results, h, ha', hb', hc', hd', asAddr, run_loadVar_row w ga 52 52 _ _ _ ka Tryd.underlying52 rfl info52, run_loadVar_row w gb 52 52 _ _ _ kb Tryd.underlying52 rfl info52, run_loadVar_row w gc 52 52 _ _ _ kc Tryd.underlying52 rfl info52, run_loadVar_row w gd 52 52 _ _ _ kd Tryd.underlying52 rfl info52]

set_option maxHeartbeats 12800000 in
theorem refRound_any (x : St) (w : World) (p1 p2 q1 q2 r1 r2 s1 s2 : Int) (hp : T x.p p1 p2) (hq : T x.q q1 q2) (hr : T x.r r1 r2) (hs : T x.s s1 s2) :
    Calls Tryd.prog 24 #[.agg #[.int .u64 p1, .int .u64 p2], .agg #[.int .u64 q1, .int .u64 q2], .agg #[.int .u64 r1, .int .u64 r2], .agg #[.int .u64 s1, .int .u64 s2]] w fun e w' => e = .returned (.tuple #[two (roundN x).p, two (roundN x).q, two (roundN x).r, two (roundN x).s]) ∧ Below w.heap.size w w' := by
  obtain ⟨p, q, r, s⟩ := x
  have TP0 := Lib.hid hp
  have TQ0 := Lib.hid hq
  have TR0 := Lib.hid hr
  have TS0 := Lib.hid hs
  clear hp hq hr hs
  have HR0 := Lib.hid (regs_start w p1 p2 q1 q2 r1 r2 s1 s2)
  go_enter Tryd.func24, Tryd.ntmps24
  go_wp2_with fail
  refine (plusT TP0.out TQ0.out _).mono ?_
  rintro e w1x ⟨u1x, v1x, hT, rfl, hb⟩
  have T1 := Lib.hid hT
  have HR1a : Hid (Regs w w.heap.size w1x p1 p2 q1 q2 r1 r2 s1 s2 0 0 0 0 0 0 0 0) := (by first | exact HR0.out.below hb | exact HR0.out.drew.below hb)
  clear hT hb HR0
  go_wp2_with (
    refine wpList_store_row rfl 52 _ _ rfl (w.heap.size) #[.int .u64 u1x, .int .u64 v1x] rfl rfl 52 _ HR1a.out.p info52 rfl (one2 _ _) ?_
    have HR1 := Lib.hid (HR1a.out.set_p u1x v1x)
    clear HR1a
    generalize w1x.setRow (w.heap.size) #[.int .u64 u1x, .int .u64 v1x] = W1 at *
    obtain ⟨cq0, cq1⟩ := HR1.out.q.cells
    obtain ⟨cp0, cp1⟩ := HR1.out.p.cells)
  simp only [Act.put]
  go_cut [] (fun wx => ∃ u2x v2x, T (rotN (q) 13 ^^^ (addN (p) (q))) u2x v2x ∧ Regs w w.heap.size wx u1x v1x u2x v2x r1 r2 s1 s2 0 0 0 0 0 0 0 0)
  case first =>
    go_region_with (first
      | (go_at_call 30; refine (turnT 13 (by omega) TQ0.out _).mono ?_; rintro e w2 ⟨u2, v2, hT2, rfl, hb2⟩; have TQ1 := Lib.hid hT2; have HR3 : Hid (Regs w w.heap.size w2 u1x v1x q1 q2 r1 r2 s1 s2 0 0 0 0 0 0 0 0) := (by first | exact HR1.out.below hb2 | exact HR1.out.drew.below hb2 | exact HR1.out.drew.drew.below hb2); clear hT2 hb2; obtain ⟨ep0, ep1⟩ := HR3.out.p.cells)
      | (go_at_call 29; refine (xorT TQ1.out T1.out _).mono ?_; rintro e w3 ⟨u3, v3, hT3, rfl, hb3⟩; have TQ2 := Lib.hid hT3; have HR4 : Hid (Regs w w.heap.size w3 u1x v1x q1 q2 r1 r2 s1 s2 0 0 0 0 0 0 0 0) := (by first | exact HR3.out.below hb3 | exact HR3.out.drew.below hb3); clear hT3 hb3; obtain ⟨dq0, dq1⟩ := HR4.out.q.cells; have fq0 := frozen_of_row _ _ 0 _ _ HR4.out.q; have fq1 := frozen_of_row _ _ 1 _ _ HR4.out.q))
    all_goals (go_wp2_with fail; go_meet; refine ⟨u3, v3, TQ2.out, ?_⟩; rw [set_row2 HR4.out.q]; exact HR4.out.set_q u3 v3)
  case rest =>
  obtain ⟨u2x, v2x, hT, hR⟩ := hcut
  have T2 := Lib.hid hT
  have HR2 := Lib.hid hR
  clear hT hR HR1 cq0 cq1 cp0 cp1
  obtain ⟨cp0, cp1⟩ := HR2.out.p.cells
  go_wp2_with fail
  refine (swapT T1.out _).mono ?_
  rintro e w3x ⟨u3x, v3x, hT, rfl, hb⟩
  have T3 := Lib.hid hT
  have HR3a : Hid (Regs w w.heap.size w3x u1x v1x u2x v2x r1 r2 s1 s2 0 0 0 0 0 0 0 0) := (by first | exact HR2.out.below hb | exact HR2.out.drew.below hb)
  clear hT hb HR2
  go_wp2_with (
    refine wpList_store_row rfl 52 _ _ rfl (w.heap.size) #[.int .u64 u3x, .int .u64 v3x] rfl rfl 52 _ HR3a.out.p info52 rfl (one2 _ _) ?_
    have HR3 := Lib.hid (HR3a.out.set_p u3x v3x)
    clear HR3a
    generalize w3x.setRow (w.heap.size) #[.int .u64 u3x, .int .u64 v3x] = W3 at *
    obtain ⟨cr0, cr1⟩ := HR3.out.r.cells
    obtain ⟨cs0, cs1⟩ := HR3.out.s.cells)
  refine (plusT TR0.out TS0.out _).mono ?_
  rintro e w4x ⟨u4x, v4x, hT, rfl, hb⟩
  have T4 := Lib.hid hT
  have HR4a : Hid (Regs w w.heap.size w4x u3x v3x u2x v2x r1 r2 s1 s2 0 0 0 0 0 0 0 0) := (by first | exact HR3.out.below hb | exact HR3.out.drew.below hb)
  clear hT hb HR3
  go_wp2_with (
    refine wpList_store_row rfl 52 _ _ rfl (w.heap.size + 1 + 1) #[.int .u64 u4x, .int .u64 v4x] rfl rfl 52 _ HR4a.out.r info52 rfl (one2 _ _) ?_
    have HR4 := Lib.hid (HR4a.out.set_r u4x v4x)
    clear HR4a
    generalize w4x.setRow (w.heap.size + 1 + 1) #[.int .u64 u4x, .int .u64 v4x] = W4 at *
    obtain ⟨cs0, cs1⟩ := HR4.out.s.cells
    obtain ⟨cr0, cr1⟩ := HR4.out.r.cells)
  simp only [Act.put]
  go_cut [] (fun wx => ∃ u5x v5x, T (rotN (s) 16 ^^^ (addN (r) (s))) u5x v5x ∧ Regs w w.heap.size wx u3x v3x u2x v2x u4x v4x u5x v5x 0 0 0 0 0 0 0 0)
  case first =>
    go_region_with (first
      | (go_at_call 30; refine (turnT 16 (by omega) TS0.out _).mono ?_; rintro e w2 ⟨u2, v2, hT2, rfl, hb2⟩; have TQ1 := Lib.hid hT2; have HR3 : Hid (Regs w w.heap.size w2 u3x v3x u2x v2x u4x v4x s1 s2 0 0 0 0 0 0 0 0) := (by first | exact HR4.out.below hb2 | exact HR4.out.drew.below hb2 | exact HR4.out.drew.drew.below hb2); clear hT2 hb2; obtain ⟨ep0, ep1⟩ := HR3.out.r.cells)
      | (go_at_call 29; refine (xorT TQ1.out T4.out _).mono ?_; rintro e w3 ⟨u3, v3, hT3, rfl, hb3⟩; have TQ2 := Lib.hid hT3; have HR4 : Hid (Regs w w.heap.size w3 u3x v3x u2x v2x u4x v4x s1 s2 0 0 0 0 0 0 0 0) := (by first | exact HR3.out.below hb3 | exact HR3.out.drew.below hb3); clear hT3 hb3; obtain ⟨dq0, dq1⟩ := HR4.out.s.cells; have fq0 := frozen_of_row _ _ 0 _ _ HR4.out.s; have fq1 := frozen_of_row _ _ 1 _ _ HR4.out.s))
    all_goals (go_wp2_with fail; go_meet; refine ⟨u3, v3, TQ2.out, ?_⟩; rw [set_row2 HR4.out.s]; exact HR4.out.set_s u3 v3)
  case rest =>
  obtain ⟨u5x, v5x, hT, hR⟩ := hcut
  have T5 := Lib.hid hT
  have HR5 := Lib.hid hR
  clear hT hR HR4 cs0 cs1 cr0 cr1
  obtain ⟨cp0, cp1⟩ := HR5.out.p.cells
  obtain ⟨cs0, cs1⟩ := HR5.out.s.cells
  go_wp2_with fail
  refine (plusT T3.out T5.out _).mono ?_
  rintro e w6x ⟨u6x, v6x, hT, rfl, hb⟩
  have T6 := Lib.hid hT
  have HR6a : Hid (Regs w w.heap.size w6x u3x v3x u2x v2x u4x v4x u5x v5x 0 0 0 0 0 0 0 0) := (by first | exact HR5.out.below hb | exact HR5.out.drew.below hb)
  clear hT hb HR5
  go_wp2_with (
    refine wpList_store_row rfl 52 _ _ rfl (w.heap.size) #[.int .u64 u6x, .int .u64 v6x] rfl rfl 52 _ HR6a.out.p info52 rfl (one2 _ _) ?_
    have HR6 := Lib.hid (HR6a.out.set_p u6x v6x)
    clear HR6a
    generalize w6x.setRow (w.heap.size) #[.int .u64 u6x, .int .u64 v6x] = W6 at *
    obtain ⟨cs0, cs1⟩ := HR6.out.s.cells
    obtain ⟨cp0, cp1⟩ := HR6.out.p.cells)
  simp only [Act.put]
  go_cut [] (fun wx => ∃ u7x v7x, T (rotN (rotN (s) 16 ^^^ (addN (r) (s))) 21 ^^^ (addN (rotN (addN (p) (q)) 32) (rotN (s) 16 ^^^ (addN (r) (s))))) u7x v7x ∧ Regs w w.heap.size wx u6x v6x u2x v2x u4x v4x u7x v7x 0 0 0 0 0 0 0 0)
  case first =>
    go_region_with (first
      | (go_at_call 30; refine (turnT 21 (by omega) T5.out _).mono ?_; rintro e w2 ⟨u2, v2, hT2, rfl, hb2⟩; have TQ1 := Lib.hid hT2; have HR3 : Hid (Regs w w.heap.size w2 u6x v6x u2x v2x u4x v4x u5x v5x 0 0 0 0 0 0 0 0) := (by first | exact HR6.out.below hb2 | exact HR6.out.drew.below hb2 | exact HR6.out.drew.drew.below hb2); clear hT2 hb2; obtain ⟨ep0, ep1⟩ := HR3.out.p.cells)
      | (go_at_call 29; refine (xorT TQ1.out T6.out _).mono ?_; rintro e w3 ⟨u3, v3, hT3, rfl, hb3⟩; have TQ2 := Lib.hid hT3; have HR4 : Hid (Regs w w.heap.size w3 u6x v6x u2x v2x u4x v4x u5x v5x 0 0 0 0 0 0 0 0) := (by first | exact HR3.out.below hb3 | exact HR3.out.drew.below hb3); clear hT3 hb3; obtain ⟨dq0, dq1⟩ := HR4.out.s.cells; have fq0 := frozen_of_row _ _ 0 _ _ HR4.out.s; have fq1 := frozen_of_row _ _ 1 _ _ HR4.out.s))
    all_goals (go_wp2_with fail; go_meet; refine ⟨u3, v3, TQ2.out, ?_⟩; rw [set_row2 HR4.out.s]; exact HR4.out.set_s u3 v3)
  case rest =>
  obtain ⟨u7x, v7x, hT, hR⟩ := hcut
  have T7 := Lib.hid hT
  have HR7 := Lib.hid hR
  clear hT hR HR6 cs0 cs1 cp0 cp1
  obtain ⟨cr0, cr1⟩ := HR7.out.r.cells
  obtain ⟨cq0, cq1⟩ := HR7.out.q.cells
  go_wp2_with fail
  refine (plusT T4.out T2.out _).mono ?_
  rintro e w8x ⟨u8x, v8x, hT, rfl, hb⟩
  have T8 := Lib.hid hT
  have HR8a : Hid (Regs w w.heap.size w8x u6x v6x u2x v2x u4x v4x u7x v7x 0 0 0 0 0 0 0 0) := (by first | exact HR7.out.below hb | exact HR7.out.drew.below hb)
  clear hT hb HR7
  go_wp2_with (
    refine wpList_store_row rfl 52 _ _ rfl (w.heap.size + 1 + 1) #[.int .u64 u8x, .int .u64 v8x] rfl rfl 52 _ HR8a.out.r info52 rfl (one2 _ _) ?_
    have HR8 := Lib.hid (HR8a.out.set_r u8x v8x)
    clear HR8a
    generalize w8x.setRow (w.heap.size + 1 + 1) #[.int .u64 u8x, .int .u64 v8x] = W8 at *
    obtain ⟨cq0, cq1⟩ := HR8.out.q.cells
    obtain ⟨cr0, cr1⟩ := HR8.out.r.cells)
  simp only [Act.put]
  go_cut [] (fun wx => ∃ u9x v9x, T (rotN (rotN (q) 13 ^^^ (addN (p) (q))) 17 ^^^ (addN (addN (r) (s)) (rotN (q) 13 ^^^ (addN (p) (q))))) u9x v9x ∧ Regs w w.heap.size wx u6x v6x u9x v9x u8x v8x u7x v7x 0 0 0 0 0 0 0 0)
  case first =>
    go_region_with (first
      | (go_at_call 30; refine (turnT 17 (by omega) T2.out _).mono ?_; rintro e w2 ⟨u2, v2, hT2, rfl, hb2⟩; have TQ1 := Lib.hid hT2; have HR3 : Hid (Regs w w.heap.size w2 u6x v6x u2x v2x u8x v8x u7x v7x 0 0 0 0 0 0 0 0) := (by first | exact HR8.out.below hb2 | exact HR8.out.drew.below hb2 | exact HR8.out.drew.drew.below hb2); clear hT2 hb2; obtain ⟨ep0, ep1⟩ := HR3.out.r.cells)
      | (go_at_call 29; refine (xorT TQ1.out T8.out _).mono ?_; rintro e w3 ⟨u3, v3, hT3, rfl, hb3⟩; have TQ2 := Lib.hid hT3; have HR4 : Hid (Regs w w.heap.size w3 u6x v6x u2x v2x u8x v8x u7x v7x 0 0 0 0 0 0 0 0) := (by first | exact HR3.out.below hb3 | exact HR3.out.drew.below hb3); clear hT3 hb3; obtain ⟨dq0, dq1⟩ := HR4.out.q.cells; have fq0 := frozen_of_row _ _ 0 _ _ HR4.out.q; have fq1 := frozen_of_row _ _ 1 _ _ HR4.out.q))
    all_goals (go_wp2_with fail; go_meet; refine ⟨u3, v3, TQ2.out, ?_⟩; rw [set_row2 HR4.out.q]; exact HR4.out.set_q u3 v3)
  case rest =>
  obtain ⟨u9x, v9x, hT, hR⟩ := hcut
  have T9 := Lib.hid hT
  have HR9 := Lib.hid hR
  clear hT hR HR8 cq0 cq1 cr0 cr1
  obtain ⟨cr0, cr1⟩ := HR9.out.r.cells
  go_wp2_with fail
  refine (swapT T8.out _).mono ?_
  rintro e w10x ⟨u10x, v10x, hT, rfl, hb⟩
  have T10 := Lib.hid hT
  have HR10a : Hid (Regs w w.heap.size w10x u6x v6x u9x v9x u8x v8x u7x v7x 0 0 0 0 0 0 0 0) := (by first | exact HR9.out.below hb | exact HR9.out.drew.below hb)
  clear hT hb HR9
  go_wp2_with (
    refine wpList_store_row rfl 52 _ _ rfl (w.heap.size + 1 + 1) #[.int .u64 u10x, .int .u64 v10x] rfl rfl 52 _ HR10a.out.r info52 rfl (one2 _ _) ?_
    have HR10 := Lib.hid (HR10a.out.set_r u10x v10x)
    clear HR10a
    generalize w10x.setRow (w.heap.size + 1 + 1) #[.int .u64 u10x, .int .u64 v10x] = W10 at *
    obtain ⟨cp0, cp1⟩ := HR10.out.p.cells
    obtain ⟨cq0, cq1⟩ := HR10.out.q.cells
    obtain ⟨cr0, cr1⟩ := HR10.out.r.cells
    obtain ⟨cs0, cs1⟩ := HR10.out.s.cells)
  simp only [Act.put]
  have f4 := frozen_of_row _ _ 0 _ _ HR10.out.a
  have f4' := frozen_of_row _ _ 1 _ _ HR10.out.a
  have f5 := frozen_of_row _ _ 0 _ _ HR10.out.b
  have f5' := frozen_of_row _ _ 1 _ _ HR10.out.b
  have f6 := frozen_of_row _ _ 0 _ _ HR10.out.c
  have f6' := frozen_of_row _ _ 1 _ _ HR10.out.c
  have f7 := frozen_of_row _ _ 0 _ _ HR10.out.d
  have f7' := frozen_of_row _ _ 1 _ _ HR10.out.d
  obtain ⟨a0, a1⟩ := HR10.out.a.cells
  obtain ⟨b0, b1⟩ := HR10.out.b.cells
  obtain ⟨cc0, cc1⟩ := HR10.out.c.cells
  obtain ⟨d0, d1⟩ := HR10.out.d.cells
  have n1 : ¬ (w.heap.size = w.heap.size + 1) := by omega
  have m1 : ¬ (w.heap.size + 1 = w.heap.size) := by omega
  have n2 : ¬ (w.heap.size = w.heap.size + 1 + 1) := by omega
  have m2 : ¬ (w.heap.size + 1 + 1 = w.heap.size) := by omega
  have n3 : ¬ (w.heap.size = w.heap.size + 1 + 1 + 1) := by omega
  have m3 : ¬ (w.heap.size + 1 + 1 + 1 = w.heap.size) := by omega
  have n4 : ¬ (w.heap.size = w.heap.size + 1 + 1 + 1 + 1) := by omega
  have m4 : ¬ (w.heap.size + 1 + 1 + 1 + 1 = w.heap.size) := by omega
  have n5 : ¬ (w.heap.size = w.heap.size + 1 + 1 + 1 + 1 + 1) := by omega
  have m5 : ¬ (w.heap.size + 1 + 1 + 1 + 1 + 1 = w.heap.size) := by omega
  have n6 : ¬ (w.heap.size = w.heap.size + 1 + 1 + 1 + 1 + 1 + 1) := by omega
  have m6 : ¬ (w.heap.size + 1 + 1 + 1 + 1 + 1 + 1 = w.heap.size) := by omega
  have n7 : ¬ (w.heap.size = w.heap.size + 1 + 1 + 1 + 1 + 1 + 1 + 1) := by omega
  have m7 : ¬ (w.heap.size + 1 + 1 + 1 + 1 + 1 + 1 + 1 = w.heap.size) := by omega
  go_region_held3 (fun w' => w'.cell? ⟨w.heap.size, 0, none⟩ = some (.int .u64 u6x) ∧ w'.cell? ⟨w.heap.size, 1, none⟩ = some (.int .u64 v6x) ∧ w'.cell? ⟨w.heap.size + 1, 0, none⟩ = some (.int .u64 u9x) ∧ w'.cell? ⟨w.heap.size + 1, 1, none⟩ = some (.int .u64 v9x) ∧ w'.cell? ⟨w.heap.size + 1 + 1, 0, none⟩ = some (.int .u64 u10x) ∧ w'.cell? ⟨w.heap.size + 1 + 1, 1, none⟩ = some (.int .u64 v10x) ∧ w'.cell? ⟨w.heap.size + 1 + 1 + 1, 0, none⟩ = some (.int .u64 u7x) ∧ w'.cell? ⟨w.heap.size + 1 + 1 + 1, 1, none⟩ = some (.int .u64 v7x)) (go_keep) (fail)
  have HA := HR10.out.set_a u6x v6x
  have HB := HA.set_b u9x v9x
  have HC := HB.set_c u10x v10x
  have HD := (HC.set_d u7x v7x).drew
  rw [set_row2 HR10.out.a, set_row2 HA.b, set_row2 HB.c, set_row2 HC.d]
  have hres : (Value.tuple #[.agg #[.int .u64 u6x, .int .u64 v6x], .agg #[.int .u64 u9x, .int .u64 v9x], .agg #[.int .u64 u10x, .int .u64 v10x], .agg #[.int .u64 u7x, .int .u64 v7x]]) = .tuple #[two (roundN ⟨p, q, r, s⟩).p, two (roundN ⟨p, q, r, s⟩).q, two (roundN ⟨p, q, r, s⟩).r, two (roundN ⟨p, q, r, s⟩).s] := by
    rw [← T6.out.two, ← T9.out.two, ← T10.out.two, ← T7.out.two]; rfl
  have HRES := Lib.hid hres
  have HDH := Lib.hid HD
  clear hres HD HA HB HC
  go_wp2_with fail
  exact bodyPost_ret (results4 rfl _ _ (w.heap.size + 1 + 1 + 1 + 1) (w.heap.size + 1 + 1 + 1 + 1 + 1) (w.heap.size + 1 + 1 + 1 + 1 + 1 + 1) (w.heap.size + 1 + 1 + 1 + 1 + 1 + 1 + 1) _ _ _ _ _ _ _ _ (by rfl) (by rfl) (by rfl) (by rfl) HDH.out.a HDH.out.b HDH.out.c HDH.out.d) rfl ⟨congrArg Ending.returned HRES.out, HDH.out.bel⟩

end Go.Proofs.YtocideolihbnaaaDoor
