/- The contract of first, with the meter. -/
import Derived.Test.YtphjaebkcimklaaGreatDoorTPut
import Derived.Laws.ResultCell
set_option linter.unusedVariables false
set_option linter.unusedSimpArgs false
namespace Go.Proofs.YtphjaebkcimklaaGreatDoor
open Go.RowKit

/-- What first tells. -/
def Fst (S : Nat → Prop) (m : Option Nat) (w w' : World) (e : Ending) (L : Pairs) (vi co lo hi : Nat) : Prop :=
  ∃ A n c A' n' c' u k x T vi' co', e = .returned (.tuple #[.agg #[.slice A n c, .slice A' n' c'], .pointer u]) ∧ (k, x) :: T.list = L ∧ PIn S w' (.agg #[.slice A n c, .slice A' n' c']) k x ∧ T.even ∧ TIn (Up S w.heap.size) w' (.pointer u) T ∧ Met m w w' vi co vi' co' lo hi
theorem results_two {fn : Func} {p u : Tmp} (h : fn.results = #[.cell p 60, .tmp u]) (tmps : Array Value) (w : World) (g : Nat) (x y : Value) (hp : tmps.getD p undef = .pointer (some ⟨g, 0, none⟩)) (hg : Two w g x y) :
    (results fn tmps).run Tryz.prog w = .ok (.tuple #[.agg #[x, y], tmps.getD u undef]) w := by
  rw [results_cell_tmp h, hp]
  simp [asAddr, run_loadVar_row (P := Tryz.prog) w g 60 60 #[x, y] (0, 0) _ hg Tryz.underlying60 rfl info39]
theorem Kept.set2 {m : Option Nat} {w w' : World} {b : Nat} (h : Kept m w w') (hb : w.heap.size ≤ b) (i : Nat) (v : Value) : Kept m w (w'.setCell ⟨b, i, none⟩ v) :=
  ⟨h.os, h.tape, h.output, by simpa using h.size, fun b' hlt hne => (heap_setCell_other w' _ b' v (by simp only; omega)).trans (h.block b' hlt hne)⟩
theorem Met.sets {m : Option Nat} {w W : World} {b vi co vi' co' lo hi : Nat} (h : Met m w W vi co vi' co' lo hi) (hb : w.heap.size ≤ b) (hm : m ≠ some b) (x y : Value) : Met m w ((W.setCell ⟨b, 0, none⟩ x).setCell ⟨b, 1, none⟩ y) vi co vi' co' lo hi :=
  ⟨(Kept.set2 (Kept.set2 h.kept hb 0 x) hb 1 y), fun b' e => by
    rw [heap_setCell_other _ _ _ _ (by simp only; intro e2; exact hm (e.trans (congrArg some e2))), heap_setCell_other _ _ _ _ (by simp only; intro e2; exact hm (e.trans (congrArg some e2)))]; exact h.at_ b' e, h.low, h.high, h.up, h.fit⟩
theorem Met.drew {m : Option Nat} {w W : World} {vi co vi' co' lo hi : Nat} (h : Met m w W vi co vi' co' lo hi) : Met m w W.drew vi co vi' co' lo hi := ⟨h.kept.drew, h.at_, h.low, h.high, h.up, h.fit⟩

set_option maxRecDepth 100000 in
set_option maxHeartbeats 12800000 in
theorem firstB_any {S : Nat → Prop} (m : Option Nat) (hS : ∀ b, S b → m ≠ some b) : ∀ (T : PT) (v : Value) (vi co : Nat) (w : World), (∀ b, S b → b < w.heap.size) → 0 < T.size → TIn S w v T → MAt m w vi co → T.even → T.size + 1 ≤ 500000 → vi + T.height < 1000000 →
    Calls Tryz.prog 112 #[v, mV m] w fun e w' => Fst S m w w' e T.list vi co 1 T.height := by
  obtain ⟨mu, hmu⟩ : ∃ u, mV m = .pointer u := by cases m <;> exact ⟨_, rfl⟩
  have HMV := Lib.hid hmu
  rw [hmu]
  clear hmu
  intro T
  induction T with
  | nil => intro v vi co w _ h; simp [PT.size] at h
  | node l k y r ihl ihr =>
    intro v vi co w hSw h0 hT hM hev hn hv
    obtain ⟨b, kv, yv, lv, rv, rfl, hSb, hh, hk, hy, hl, hr⟩ := hT
    obtain ⟨Bk, mk, dk, rfl⟩ := hk.slice
    obtain ⟨Bx, mx, dx, rfl⟩ := hy.slice
    obtain ⟨lu, rfl⟩ := hl.ptr
    obtain ⟨ru, rfl⟩ := hr.ptr
    have hbl := (Array.getElem?_eq_some_iff.1 hh).1
    have hmb := hS b hSb
    have hB := (Below.refl _ w).alloc (Nat.le_refl _) (.cells #[.slice none 0 0, .slice none 0 0] 60)
    have hmw : m ≠ some w.heap.size := fun e => by have := hM.lt _ e; omega
    have KX : Hid (Kept m w (w.alloc (.cells #[.slice none 0 0, .slice none 0 0] 60))) := Kept.of hB
    have HMX : Hid (MAt m (w.alloc (.cells #[.slice none 0 0, .slice none 0 0] 60)) vi co) := hM.below hB
    have hbox : Two (w.alloc (.cells #[.slice none 0 0, .slice none 0 0] 60)) w.heap.size (.slice none 0 0) (.slice none 0 0) := heap_new w _
    have hXs : w.heap.size < (w.alloc (.cells #[.slice none 0 0, .slice none 0 0] 60)).heap.size := by simp
    have hXh : (w.alloc (.cells #[.slice none 0 0, .slice none 0 0] 60)).heap[b]? = w.heap[b]? := hB.block b hbl
    have HWb : Hid (w.heap.size ≠ b) := (by omega : w.heap.size ≠ b)
    simp only [PT.size] at hn
    simp only [PT.height] at hv
    generalize hXE : w.alloc (.cells #[.slice none 0 0, .slice none 0 0] 60) = X at *
    have HXE := Lib.hid hXE
    clear hXE
    have HL := Lib.hid (fun W (h : Kept m w W) => hl.kept h hS)
    have HR := Lib.hid (fun W (h : Kept m w W) => hr.kept h hS)
    have HIP : Hid (∀ W, Kept m w W → PIn S W (.agg #[.slice Bk mk dk, .slice Bx mx dx]) k y) := fun W h => ⟨_, _, rfl, hk.kept h hS, hy.kept h hS⟩
    have HCC : Hid (∀ W, Kept m w W → (W.cell? ⟨b, 0, none⟩ = some (.slice Bk mk dk) ∧ W.cell? ⟨b, 1, none⟩ = some (.slice Bx mx dx) ∧ W.cell? ⟨b, 2, none⟩ = some (.pointer lu) ∧ W.cell? ⟨b, 3, none⟩ = some (.pointer ru))) := fun W h => by
      have h2 := node_cells ((h.block b hbl hmb).trans hh)
      exact ⟨h2.1, h2.2.1, h2.2.2.1, h2.2.2.2.1⟩
    have HBOX : Hid (∀ W, Kept m X W → W.heap[w.heap.size]? = some (.cells #[.slice none 0 0, .slice none 0 0] 60 (0, 0))) := fun W h => (h.block w.heap.size hXs hmw).trans hbox
    have HNN : Hid (l.size + 1 + r.size + 1 ≤ 500000 ∧ evenB l.size r.size = true ∧ l.even ∧ r.even) := ⟨hn, hev⟩
    have IHL : Hid (0 < l.size → ∀ W, Kept m w W → MAt m W (vi + 1) co → Calls Tryz.prog 112 #[.pointer lu, .pointer mu] W fun e w' => Fst S m W w' e l.list (vi + 1) co 1 l.height) := fun h0 W h hm =>
      ihl (.pointer lu) (vi + 1) co W (fun b hb => Nat.lt_of_lt_of_le (hSw b hb) h.size) h0 (HL.out W h) hm hev.2.1 (by omega) (by omega)
    have HVIS : Hid (Calls Tryz.prog 96 #[.pointer mu] X fun e w' => e = .returned (.tuple #[]) ∧ Kept m X w' ∧ MAt m w' (vi + 1) co) := by
      have := visit_any m vi co X HMX.out (by omega)
      rw [HMV.out] at this
      exact this
    have HSX := Lib.hid hXs
    have HMW := Lib.hid hmw
    have HSW := Lib.hid hSw
    have HM0 := Lib.hid hM
    have HBL := Lib.hid hbl
    clear hbox hB hmw hXs hXh hh hk hy hr hM hev hn hv ihl ihr hmb hSw
    go_enter Tryz.func112, Tryz.ntmps112
    go_wp2_with fail
    rw [HXE.out]
    refine HVIS.out.mono ?_
    rintro e w1 ⟨rfl, hk1, hm1⟩
    have K1 : Hid (Kept m w w1) := KX.out.trans hk1
    have KX1 := Lib.hid hk1
    have HM1 : Hid (Met m w w1 vi co (vi + 1) co 1 1) := ⟨K1.out, hm1, by omega, by omega, Nat.le_refl _, by omega⟩
    have hcc := HCC.out _ K1.out
    have hob := HBOX.out _ KX1.out
    have o0 := cell_of_row w1 w.heap.size 0 _ _ _ hob
    have o1 := cell_of_row w1 w.heap.size 1 _ _ _ hob
    have f0 := frozen_of_row w1 w.heap.size 0 _ _ hob
    have f1 := frozen_of_row w1 w.heap.size 1 _ _ hob
    dsimp at o0 o1
    clear hk1 hm1 hob
    cases l with
    | nil =>
      obtain rfl : lu = none := by have := hl; cases this; rfl
      have hcc' := hcc.2.2.1
      clear hl
      have hne := HWb.out
      have hne2 : ¬ (b = w.heap.size) := fun e => hne e.symm
      obtain ⟨d0, d1, d2, d3⟩ := hcc
      go_wp2_with fail
      go_region_held3 (fun w' => (w'.cell? ⟨b, 0, none⟩ = some (.slice Bk mk dk) ∧ w'.cell? ⟨b, 1, none⟩ = some (.slice Bx mx dx) ∧ w'.cell? ⟨b, 2, none⟩ = some (.pointer none) ∧ w'.cell? ⟨b, 3, none⟩ = some (.pointer ru)))
        (first | with_reducible exact HCC.out _ K1.out | with_reducible exact HCC.out _ K1.out.drew2 | go_keep) (fail)
      clear hcc' d0 d1 d2 d3 o0 o1 f0 f1
      go_wp2_with fail
      try simp only [Exit.inBlock, Exit.then]
      refine bodyPost_ret (results_two rfl _ _ w.heap.size _ _ (by rfl) (Two.set (HBOX.out _ KX1.out.drew2) _ _)) rfl ?_
      have KF := (HM1.out.drew.sets (Nat.le_refl _) HMW.out (.slice Bk mk dk) (.slice Bx mx dx))
      exact ⟨_, _, _, _, _, _, _, k, y, r, vi + 1, co, rfl, rfl, HIP.out _ KF.kept, HNN.out.2.2.2, (HR.out _ KF.kept).up _, KF.wide (by omega) (by simp [PT.height])⟩
    | node ll lk ly lr =>
      obtain ⟨bl, rfl⟩ : ∃ bl, lu = some bl := by obtain ⟨b', _, _, _, _, e, _⟩ := hl; exact ⟨⟨b', 0, none⟩, by cases e; rfl⟩
      clear hl
      have hne := HWb.out
      have hne2 : ¬ (b = w.heap.size) := fun e => hne e.symm
      obtain ⟨d0, d1, d2, d3⟩ := hcc
      go_wp2_with fail
      refine (IHL.out (by simp only [PT.size]; omega) _ K1.out HM1.out.at_).mono ?_
      rintro e w2 ⟨Ap, np, cp, Ax, nx, cx, u, pk, px, T, vi2, co2, rfl, t1, t2, t3, t4, t5⟩
      have K2 : Hid (Kept m w w2) := K1.out.trans t5.kept
      have KW12 : Hid (w1.heap.size ≤ w2.heap.size) := t5.kept.size
      have KX2 : Hid (Kept m X w2) := KX1.out.trans t5.kept
      have HM2 : Hid (Met m w w2 vi co vi2 co2 1 (1 + (PT.node ll lk ly lr).height)) := (HM1.out.trans t5).wide (by omega) (by omega)
      have HT : Hid ((pk, px) :: T.list = (PT.node ll lk ly lr).list ∧ PIn S w2 (.agg #[.slice Ap np cp, .slice Ax nx cx]) pk px ∧ T.even ∧ TIn (Up S w1.heap.size) w2 (.pointer u) T) := ⟨t1, t2, t3, t4⟩
      clear t1 t2 t3 t4 t5 d0 d1 d2 d3 o0 o1 f0 f1
      go_wp2_with fail
      have hVb : Below w2.heap.size w2 (w2.alloc (.cells #[.slice Ap np cp, .slice Ax nx cx] 60)) := (Below.refl _ _).alloc (Nat.le_refl _) _
      have hV2 : Two (w2.alloc (.cells #[.slice Ap np cp, .slice Ax nx cx] 60)) w2.heap.size (.slice Ap np cp) (.slice Ax nx cx) := heap_new w2 _
      have hVs : w2.heap.size < (w2.alloc (.cells #[.slice Ap np cp, .slice Ax nx cx] 60)).heap.size := by simp
      have hmw2 : m ≠ some w2.heap.size := fun e => by have := HM2.out.at_.lt _ e; omega
      have hw2 : w.heap.size + 1 ≤ w2.heap.size := Nat.le_trans HSX.out KX2.out.size
      have HVB := Lib.hid hVb
      generalize w2.alloc (.cells #[.slice Ap np cp, .slice Ax nx cx] 60) = V at *
      have KV : Hid (Kept m w2 V) := Kept.of hVb
      have KWV : Hid (Kept m w V) := K2.out.trans KV.out
      have KXV : Hid (Kept m X V) := KX2.out.trans KV.out
      have HVC : Hid (∀ W, Kept m V W → (W.cell? ⟨w2.heap.size, 0, none⟩ = some (.slice Ap np cp) ∧ W.cell? ⟨w2.heap.size, 1, none⟩ = some (.slice Ax nx cx)) ∧ (W.cell? ⟨b, 0, none⟩ = some (.slice Bk mk dk) ∧ W.cell? ⟨b, 1, none⟩ = some (.slice Bx mx dx) ∧ W.cell? ⟨b, 2, none⟩ = some (.pointer (some bl)) ∧ W.cell? ⟨b, 3, none⟩ = some (.pointer ru))) := fun W h =>
        ⟨Two.cells ((h.block w2.heap.size hVs hmw2).trans hV2), HCC.out W (KWV.out.trans h)⟩
      have HMV2 : Hid (Met m w V vi co vi2 co2 1 (1 + (PT.node ll lk ly lr).height)) := ((HM2.out.trans (Met.of HM2.out.at_ hVb))).wide (by omega) (by omega)
      have HTU := Lib.hid (fun W (h : Kept m V W) => (HT.out.2.2.2.kept (KV.out.trans h) (up_far HM0.out K1.out.size hS)))
      have hcv := HVC.out V (Kept.refl _ _)
      have KV0 : Hid (Kept m V V) := Kept.refl _ _
      have HSZ : Hid (T.size + 1 + r.size ≤ 499998) := by
        have h1 := congrArg List.length HT.out.1
        simp only [List.length_cons, PT.size_list] at h1
        have h2 := HNN.out.1
        exact (by omega : T.size + 1 + r.size ≤ 499998)
      clear hVb hV2 hVs hmw2
      have hne3 : ¬ (w.heap.size = w2.heap.size) := by omega
      have hne4 : ¬ (w2.heap.size = w.heap.size) := by omega
      go_region_held3 (fun w' => (w'.cell? ⟨w2.heap.size, 0, none⟩ = some (.slice Ap np cp) ∧ w'.cell? ⟨w2.heap.size, 1, none⟩ = some (.slice Ax nx cx)) ∧ (w'.cell? ⟨b, 0, none⟩ = some (.slice Bk mk dk) ∧ w'.cell? ⟨b, 1, none⟩ = some (.slice Bx mx dx) ∧ w'.cell? ⟨b, 2, none⟩ = some (.pointer (some bl)) ∧ w'.cell? ⟨b, 3, none⟩ = some (.pointer ru)))
        (first | with_reducible exact HVC.out _ KV0.out | with_reducible exact HVC.out _ KV0.out.drew2 | with_reducible exact HVC.out _ K4.out | go_keep)
        ((go_at_call 99; (with_reducible refine (mk_any (S := Up S w1.heap.size) (.pointer u) (.agg #[.slice Bk mk dk, .slice Bx mx dx]) (.pointer ru) T r k y _ (HTU.out _ KV0.out.drew2) ((HIP.out _ KWV.out.drew2).up w1.heap.size) ((HR.out _ KWV.out.drew2).up w1.heap.size) (by have := HSZ.out; omega) HT.out.2.2.1 HNN.out.2.2.2).mono ?_); rintro e w4 ⟨u', T', rfl, t1, t2, t3, t4⟩; have K4 : Hid (Kept m V w4) := KV0.out.drew2.trans (.of t4); have ob4 := HBOX.out _ (KXV.out.trans K4.out); have o0 := cell_of_row w4 w.heap.size 0 _ _ _ ob4; have o1 := cell_of_row w4 w.heap.size 1 _ _ _ ob4; have f0 := frozen_of_row w4 w.heap.size 0 _ _ ob4; have f1 := frozen_of_row w4 w.heap.size 1 _ _ ob4; dsimp at o0 o1; have HF : Hid (T'.list = T.list ++ (k, y) :: r.list ∧ T'.even ∧ TIn (Up S w1.heap.size) w4 (.pointer u') T' ∧ Below V.heap.size V w4) := ⟨t1, t2, t3.imp (fun b _ hb => upup (Nat.le_trans KW12.out KV.out.size) b hb), below_drew1 t4⟩; clear t1 t2 t3 t4 ob4))
      clear hcv hne hne2 hw2 hne3 hne4
      all_goals
        go_wp2_with fail
        try simp only [Exit.inBlock, Exit.then]
        refine bodyPost_ret (results_two rfl _ _ w.heap.size _ _ (by rfl) (Two.set (HBOX.out _ (KXV.out.trans K4.out)) _ _)) rfl ?_
        have KF := (((HMV2.out.trans (Met.of HMV2.out.at_ HF.out.2.2.2)).sets (Nat.le_refl _) HMW.out (.slice Ap np cp) (.slice Ax nx cx)))
        have hw1 : w.heap.size < w1.heap.size := Nat.lt_of_lt_of_le HSX.out KX1.out.size
        have hfar : ∀ b', b' ≠ w.heap.size → ((w4.setCell ⟨w.heap.size, 0, none⟩ (.slice Ap np cp)).setCell ⟨w.heap.size, 1, none⟩ (.slice Ax nx cx)).heap[b']? = w4.heap[b']? := fun b' hb' => by
          rw [heap_setCell_other _ _ _ _ (by simpa using hb'), heap_setCell_other _ _ _ _ (by simpa using hb')]
        refine ⟨_, _, _, _, _, _, u', pk, px, T', vi2, co2, rfl, ?_, ?_, HF.out.2.1, ?_, KF.wide (by omega) (by simp only [PT.height]; omega)⟩
        · rw [HF.out.1, PT.list, ← HT.out.1]; rfl
        · exact (HT.out.2.1.kept (KV.out.trans K4.out) hS).carry (by simp) (fun b' hb' _ => hfar b' (by have := HSW.out b' hb'; omega))
        · refine (HF.out.2.2.1.carry (by simp) (fun b' hb' _ => hfar b' ?_)).imp (fun b' _ hb' => up_imp (Nat.le_of_lt hw1) b' hb')
          rcases hb' with hb' | hb'
          · have := HSW.out b' hb'; omega
          · omega

theorem first_any {S : Nat → Prop} (m : Option Nat) (hS : ∀ b, S b → m ≠ some b) (T : PT) (v : Value) (vi co : Nat) (w : World) (h0 : 0 < T.size) (hT : TIn S w v T) (hM : MAt m w vi co) (hev : T.even) (hn : T.size + 1 ≤ 500000) (hv : vi + T.height < 1000000) :
    Calls Tryz.prog 112 #[v, mV m] w fun e w' => Fst S m w w' e T.list vi co 1 T.height :=
  (firstB_any (S := fun b => S b ∧ b < w.heap.size) m (fun b hb => hS b hb.1) T v vi co w (fun b hb => hb.2) h0 (hT.imp fun b hlt hb => ⟨hb, hlt⟩) hM hev hn hv).mono fun e w' h => by
    obtain ⟨A, n, c, A', n', c', u, k, x, T', vi', co', h1, h2, h3, h4, h5, h6⟩ := h
    refine ⟨A, n, c, A', n', c', u, k, x, T', vi', co', h1, h2, h3.imp (fun b _ hb => hb.1), h4, h5.imp (fun b _ hb => ?_), h6⟩
    rcases hb with hb | hb
    · exact .inl hb.1
    · exact .inr hb

end Go.Proofs.YtphjaebkcimklaaGreatDoor
