/- The awake of the laws of blends. -/
import Derived.Test.YtnfhbljhohjkhaaBRef
import Derived.Test.YtnfhbljhohjkhaaTAwake
set_option linter.unusedVariables false
set_option linter.unusedSimpArgs false
namespace Go.Proofs.Ytnfhbljhohjkhaa
open Go.RowKit Go.Deep

def MkR (w w' : World) (e : Ending) (L : Pairs) : Prop := ∃ u T, e = .returned (.pointer u) ∧ Hid (T.even ∧ TIn All w' (.pointer u) T ∧ T.list = L ∧ Below w.heap.size w w')

theorem put_mk (key x : Bytes) (T : PT) (u : Option Addr) (pv : Value) (W : World) (L : Pairs) (hT : TIn All W (.pointer u) T) (hp : PIn All W pv key x) (hev : T.even) (hL : T.list = L) (ha : Asc L) (hn : T.size ≤ 10) :
    Calls Try.prog 71 #[.pointer u, pv, .pointer none] W fun e w' => MkR W w' e (insL key x L) := by
  have := Put_any (S := All) none (fun _ _ => by simp) key x T (.pointer u) pv 0 0 W hT hp (fun b e => by cases e) hev (by omega) (by have := T.height_le; omega) (by have := T.height_le; omega)
  refine this.mono ?_
  rintro e w' ⟨u', T', vi', co', rfl, t1, t2, t3, t4⟩
  exact ⟨u', T', rfl, Lib.hid ⟨t2, t3.all, by rw [t1, put_plain T key x (by rw [hL]; exact ha), hL], t4.kept.to⟩⟩

theorem two_texts (X : World) (s t : ByteArray) (hs : s.size ≤ 100) (ht : t.size ≤ 100) :
    BIn All (Lib.bytesWorld (Lib.bytesWorld X 5 s) 5 t) (.slice (some ⟨X.heap.size, 0, none⟩) s.size (grownCap X s.size 0 5)) (strL s) ∧
    BIn All (Lib.bytesWorld (Lib.bytesWorld X 5 s) 5 t) (.slice (some ⟨(Lib.bytesWorld X 5 s).heap.size, 0, none⟩) t.size (grownCap (Lib.bytesWorld X 5 s) t.size 0 5)) (strL t) ∧
    Below X.heap.size X (Lib.bytesWorld (Lib.bytesWorld X 5 s) 5 t) := by
  have h1 := text_in X s (by omega)
  have h2 := text_in (Lib.bytesWorld X 5 s) t (by omega)
  have b1 := text_below X s
  have b2 := text_below (Lib.bytesWorld X 5 s) t
  exact ⟨(h1.below b2).imp fun _ _ _ => trivial, h2.imp fun _ _ _ => trivial, b1.trans (b2.mono b1.size)⟩

def mkL (s0 s1 s2 s3 : ByteArray) : Nat → Pairs
  | 1 => []
  | 3 => insL (strL s0) (strL s1) []
  | _ => insL (strL s2) (strL s3) (insL (strL s0) (strL s1) [])

set_option maxRecDepth 100000 in
set_option maxHeartbeats 3200000 in
theorem mk70_any (b : Nat) (s0 s1 s2 s3 : ByteArray) (w : World) (hr : w.heap[b]? = some (.cells #[.string s0, .string s1, .string s2, .string s3] 9 (0, 0))) (h0 : s0.size ≤ 100) (h1 : s1.size ≤ 100) (h2 : s2.size ≤ 100) (h3 : s3.size ≤ 100) :
    Calls Try.prog 70 #[.slice (some ⟨b, 0, none⟩) 4 4] w fun e w' => MkR w w' e (mkL s0 s1 s2 s3 5) := by
  have hbl := (Array.getElem?_eq_some_iff.1 hr).1
  have HROW : Hid (∀ W, Below w.heap.size w W → W.cell? ⟨b, 0, none⟩ = some (.string s0) ∧ W.cell? ⟨b, 1, none⟩ = some (.string s1) ∧ W.cell? ⟨b, 2, none⟩ = some (.string s2) ∧ W.cell? ⟨b, 3, none⟩ = some (.string s3)) := fun W h => by
    have hh := (h.block b hbl).trans hr
    exact ⟨cell_of_row W b 0 _ _ _ hh, cell_of_row W b 1 _ _ _ hh, cell_of_row W b 2 _ _ _ hh, cell_of_row W b 3 _ _ _ hh⟩
  clear hr hbl
  have hcv := fun (w : World) (s : ByteArray) => conv_text w s
  go_enter Try.func70, Try.ntmps70
  go_wp2_with fail
  go_loopw [3, 4] (fun t v wr => ∃ (j : Nat) (u : Option Addr) (T : PT), t = .pointer u ∧ v = .int .i64 (j : Int) ∧ (j = 1 ∨ j = 3 ∨ j = 5) ∧ Hid (T.even ∧ TIn All wr (.pointer u) T ∧ T.list = mkL s0 s1 s2 s3 j ∧ Below w.heap.size w wr)) (fun _ v _ => 5 - (intOf v).toNat)
  case atStart => exact ⟨1, none, .nil, rfl, rfl, .inl rfl, Lib.hid ⟨trivial, rfl, rfl, Below.refl _ _⟩⟩
  case round =>
    obtain ⟨j, u, T, rfl, rfl, hj, hI⟩ := hrel
    rcases hj with rfl | rfl | rfl
    · have HB0 : Hid (Below w.heap.size w wr.drew) := below_drew2 hI.out.2.2.2
      have HB1 : Hid (∀ s, Below w.heap.size w (Lib.bytesWorld wr.drew 5 s)) := fun s => HB0.out.trans ((text_below wr.drew s).mono HB0.out.size)
      have HB2 : Hid (∀ s t, Below w.heap.size w (Lib.bytesWorld (Lib.bytesWorld wr.drew 5 s) 5 t)) := fun s t => (HB1.out s).trans ((text_below _ t).mono (HB1.out s).size)
      have HT : Hid (∀ W, Below wr.heap.size wr W → TIn All W (.pointer u) T) := fun W h => hI.out.2.1.below h
      have HTT : Hid (∀ s t, TIn All (Lib.bytesWorld (Lib.bytesWorld wr.drew 5 s) 5 t) (.pointer u) T) := fun s t => hI.out.2.1.below (below_drew1 ((text_below wr.drew s).trans ((text_below _ t).mono (text_below wr.drew s).size)))
      have HP1 := Lib.hid (two_texts wr.drew s0 s1 (by assumption) (by assumption))
      have HP2 := Lib.hid (two_texts wr.drew s1 s0 (by assumption) (by assumption))
      have HLT : Hid (T.list = mkL s0 s1 s2 s3 1) := hI.out.2.2.1
      have HASC : Hid (Asc (mkL s0 s1 s2 s3 1)) := List.Pairwise.nil
      have HTZ : Hid (T.size ≤ 10) := by rw [PT.size_of HLT.out]; exact (by simp [mkL] : (mkL s0 s1 s2 s3 1).length ≤ 10)
      go_upto_region 5 with fail
      obtain ⟨c0, c1, c2, c3⟩ := HROW.out wr.drew HB0.out
      have d0 := fun s => (HROW.out _ (HB1.out s)).1
      have d1 := fun s => (HROW.out _ (HB1.out s)).2.1
      have d2 := fun s => (HROW.out _ (HB1.out s)).2.2.1
      have d3 := fun s => (HROW.out _ (HB1.out s)).2.2.2
      go_region_with (go_at_call 71; (refine (put_mk (strL s0) (strL s1) T u _ _ _ (HTT.out _ _) (by first | exact ⟨_, _, rfl, HP1.out.1, HP1.out.2.1⟩ | exact ⟨_, _, rfl, HP2.out.2.1, HP2.out.1⟩) hI.out.1 HLT.out HASC.out HTZ.out).mono ?_); rintro e w5 ⟨u5, T5, rfl, hN⟩; have HB3 : Hid (Below w.heap.size w w5) := (HB2.out _ _).trans (hN.out.2.2.2.mono (HB2.out _ _).size); have HN5 : Hid (T5.even ∧ TIn All w5 (.pointer u5) T5 ∧ T5.list = mkL s0 s1 s2 s3 3 ∧ Below w.heap.size w w5) := ⟨hN.out.1, hN.out.2.1, hN.out.2.2.1, HB3.out⟩)
      all_goals
        go_wp2_with fail
        go_roundw
        case rel => exact ⟨3, u5, T5, rfl, by go_num, by omega, HN5⟩
        case measure => simp [intOf]
    · have HB0 : Hid (Below w.heap.size w wr.drew) := below_drew2 hI.out.2.2.2
      have HB1 : Hid (∀ s, Below w.heap.size w (Lib.bytesWorld wr.drew 5 s)) := fun s => HB0.out.trans ((text_below wr.drew s).mono HB0.out.size)
      have HB2 : Hid (∀ s t, Below w.heap.size w (Lib.bytesWorld (Lib.bytesWorld wr.drew 5 s) 5 t)) := fun s t => (HB1.out s).trans ((text_below _ t).mono (HB1.out s).size)
      have HT : Hid (∀ W, Below wr.heap.size wr W → TIn All W (.pointer u) T) := fun W h => hI.out.2.1.below h
      have HTT : Hid (∀ s t, TIn All (Lib.bytesWorld (Lib.bytesWorld wr.drew 5 s) 5 t) (.pointer u) T) := fun s t => hI.out.2.1.below (below_drew1 ((text_below wr.drew s).trans ((text_below _ t).mono (text_below wr.drew s).size)))
      have HP1 := Lib.hid (two_texts wr.drew s2 s3 (by assumption) (by assumption))
      have HP2 := Lib.hid (two_texts wr.drew s3 s2 (by assumption) (by assumption))
      have HLT : Hid (T.list = mkL s0 s1 s2 s3 3) := hI.out.2.2.1
      have HASC : Hid (Asc (mkL s0 s1 s2 s3 3)) := ins_asc _ _ _ List.Pairwise.nil
      have HTZ : Hid (T.size ≤ 10) := by rw [PT.size_of HLT.out]; exact (by simp [mkL, insL] : (mkL s0 s1 s2 s3 3).length ≤ 10)
      go_upto_region 5 with fail
      obtain ⟨c0, c1, c2, c3⟩ := HROW.out wr.drew HB0.out
      have d0 := fun s => (HROW.out _ (HB1.out s)).1
      have d1 := fun s => (HROW.out _ (HB1.out s)).2.1
      have d2 := fun s => (HROW.out _ (HB1.out s)).2.2.1
      have d3 := fun s => (HROW.out _ (HB1.out s)).2.2.2
      go_region_with (go_at_call 71; (refine (put_mk (strL s2) (strL s3) T u _ _ _ (HTT.out _ _) (by first | exact ⟨_, _, rfl, HP1.out.1, HP1.out.2.1⟩ | exact ⟨_, _, rfl, HP2.out.2.1, HP2.out.1⟩) hI.out.1 HLT.out HASC.out HTZ.out).mono ?_); rintro e w5 ⟨u5, T5, rfl, hN⟩; have HB3 : Hid (Below w.heap.size w w5) := (HB2.out _ _).trans (hN.out.2.2.2.mono (HB2.out _ _).size); have HN5 : Hid (T5.even ∧ TIn All w5 (.pointer u5) T5 ∧ T5.list = mkL s0 s1 s2 s3 5 ∧ Below w.heap.size w w5) := ⟨hN.out.1, hN.out.2.1, hN.out.2.2.1, HB3.out⟩)
      all_goals
        go_wp2_with fail
        go_roundw
        case rel => exact ⟨5, u5, T5, rfl, by go_num, by omega, HN5⟩
        case measure => simp [intOf]
    · go_wp2_with fail
      go_ret
      exact ⟨u, T, rfl, hI⟩

set_option maxRecDepth 100000 in
set_option maxHeartbeats 3200000 in
theorem awake14_any (w : World) : Calls Try.prog 30 #[] w fun e w' => e = .returned (.bool true) ∧ Below w.heap.size w w' := by
  have HA := Lib.hid (mk70_any w.heap.size ⟨#[97]⟩ ⟨#[49]⟩ ⟨#[98]⟩ ⟨#[49]⟩ (w.alloc (.cells #[.string ⟨#[97]⟩, .string ⟨#[49]⟩, .string ⟨#[98]⟩, .string ⟨#[49]⟩] 9)) (heap_new w _) (by decide) (by decide) (by decide) (by decide))
  have HBA : Hid (Below w.heap.size w (w.alloc (.cells #[.string ⟨#[97]⟩, .string ⟨#[49]⟩, .string ⟨#[98]⟩, .string ⟨#[49]⟩] 9))) := (Below.refl _ _).alloc (Nat.le_refl _) _
  go_enter Try.func30, Try.ntmps30
  go_wp2_with fail
  refine HA.out.mono ?_
  rintro e w2 ⟨u1, T1, rfl, h1⟩
  have HB2 : Hid (Below w.heap.size w w2) := HBA.out.trans (h1.out.2.2.2.mono HBA.out.size)
  have HB := Lib.hid (mk70_any w2.heap.size ⟨#[98]⟩ ⟨#[50]⟩ ⟨#[99]⟩ ⟨#[50]⟩ (w2.alloc (.cells #[.string ⟨#[98]⟩, .string ⟨#[50]⟩, .string ⟨#[99]⟩, .string ⟨#[50]⟩] 9)) (heap_new w2 _) (by decide) (by decide) (by decide) (by decide))
  have HBB : Hid (Below w2.heap.size w2 (w2.alloc (.cells #[.string ⟨#[98]⟩, .string ⟨#[50]⟩, .string ⟨#[99]⟩, .string ⟨#[50]⟩] 9))) := (Below.refl _ _).alloc (Nat.le_refl _) _
  go_wp2_with fail
  refine HB.out.mono ?_
  rintro e w3 ⟨u2, T2, rfl, h2⟩
  have HB3 : Hid (Below w2.heap.size w2 w3) := HBB.out.trans (h2.out.2.2.2.mono HBB.out.size)
  have e1 : T1.list = [([97], [49]), ([98], [49])] := h1.out.2.2.1.trans (by decide)
  have e2 : T2.list = [([98], [50]), ([99], [50])] := h2.out.2.2.1.trans (by decide)
  have s1 : T1.size = 2 := PT.size_of e1
  have s2 : T2.size = 2 := PT.size_of e2
  have a1 : Asc T1.list := by rw [e1]; simp [Asc, Lib.compareBytes]
  have a2 : Asc T2.list := by rw [e2]; simp [Asc, Lib.compareBytes]
  have HU := Lib.hid (union_any T2 T1 (.pointer u1) (.pointer u2) w3 (h1.out.2.1.below HB3.out) h2.out.2.1 h1.out.1 h2.out.1 a1 a2 (by omega))
  have HUE : Hid (∀ T : PT, Blends fUnion T1.list T2.list T.list → T.list = [([97], [49]), ([98], [50]), ([99], [50])]) := fun T h => by
    rw [blends_eq h (uniL_blends T1.list T2.list a1 a2), e1, e2]; decide
  clear e1 e2 s1 s2 a1 a2
  go_wp2_with fail
  refine HU.out.mono ?_
  rintro e w4 ⟨u, T, rfl, h4⟩
  have hl := HUE.out T h4.out.2.2.1
  have hsz : T.size = 3 := PT.size_of hl
  have HLI := Lib.hid (list_any T (.pointer u) w4 h4.out.2.1 (by omega))
  rw [hl, hsz] at HLI
  have HB4 : Hid (Below w.heap.size w w4) := (HB2.out.trans (HB3.out.mono HB2.out.size)).trans (h4.out.2.2.2.2.mono (Nat.le_trans HB2.out.size HB3.out.size))
  clear hl hsz
  go_wp2_with fail
  refine HLI.out.mono ?_
  rintro e w5 ⟨A5, c5, rfl, hc5, hL5, hb5⟩
  have HB5 : Hid (Below w.heap.size w w5) := HB4.out.trans (hb5.mono HB4.out.size)
  obtain ⟨b, o, rfl, hbl, hS, hc⟩ := hL5.cell (by omega)
  obtain ⟨k0, x0, c0, c1, hk0, hx0⟩ := hc 0 (by omega)
  obtain ⟨k1, x1, d0, d1, hk1, hx1⟩ := hc 1 (by omega)
  obtain ⟨k2, x2, f0, f1, hk2, hx2⟩ := hc 2 (by omega)
  obtain ⟨Ax0, nx0, cx0, rfl⟩ := hx0.slice
  obtain ⟨Ax1, nx1, cx1, rfl⟩ := hx1.slice
  obtain ⟨Ak2, nk2, ck2, rfl⟩ := hk2.slice
  have hv0 : Sem.run Try.prog (convert 23 9 (Value.slice Ax0 nx0 cx0)) w5 = Result.ok (Value.string ⟨#[49]⟩) w5 := conv_bytes hx0
  have hv1 : Sem.run Try.prog (convert 23 9 (Value.slice Ax1 nx1 cx1)) w5 = Result.ok (Value.string ⟨#[50]⟩) w5 := conv_bytes hx1
  have hv2 : Sem.run Try.prog (convert 23 9 (Value.slice Ak2 nk2 ck2)) w5 = Result.ok (Value.string ⟨#[99]⟩) w5 := conv_bytes hk2
  simp only [Nat.zero_mul, Nat.one_mul, Nat.add_zero, Nat.reduceMul] at c0 c1 d0 d1 f0 f1
  have ht0 : (ByteArray.mk #[49]).toList = [49] := by rw [ByteArray.toList_eq]
  have ht1 : (ByteArray.mk #[50]).toList = [50] := by rw [ByteArray.toList_eq]
  have ht2 : (ByteArray.mk #[99]).toList = [99] := by rw [ByteArray.toList_eq]
  clear hc hk0 hx0 hk1 hx1 hk2 hx2 hb5 hL5
  go_wp2_with fail
  go_ret
  exact ⟨rfl, HB5.out⟩

end Go.Proofs.Ytnfhbljhohjkhaa
