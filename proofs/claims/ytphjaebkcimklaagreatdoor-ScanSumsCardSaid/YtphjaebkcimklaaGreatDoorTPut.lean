/- The contracts of put and Put, with the meter. -/
import Derived.Test.YtphjaebkcimklaaGreatDoorTJoin
set_option linter.unusedVariables false
set_option linter.unusedSimpArgs false
namespace Go.Proofs.YtphjaebkcimklaaGreatDoor
open Go.RowKit

/-- What a call has done to the meter. -/
structure Met (m : Option Nat) (w w' : World) (vi co vi' co' lo hi : Nat) : Prop where
  kept : Kept m w w'
  at_ : MAt m w' vi' co'
  low : vi + lo ≤ vi'
  high : vi' ≤ vi + hi
  up : co ≤ co'
  fit : co' + vi ≤ co + vi'
theorem Met.trans {m : Option Nat} {w w1 w2 : World} {vi co vi1 co1 vi2 co2 lo hi lo' hi' : Nat} (h : Met m w w1 vi co vi1 co1 lo hi) (h' : Met m w1 w2 vi1 co1 vi2 co2 lo' hi') : Met m w w2 vi co vi2 co2 (lo + lo') (hi + hi') :=
  ⟨h.kept.trans h'.kept, h'.at_, by have := h.low; have := h'.low; omega, by have := h.high; have := h'.high; omega, Nat.le_trans h.up h'.up, by have := h.fit; have := h'.fit; omega⟩
theorem Met.of {m : Option Nat} {w w' : World} {vi co : Nat} (h : MAt m w vi co) (hb : Below w.heap.size w w') : Met m w w' vi co vi co 0 0 :=
  ⟨.of hb, h.below hb, by omega, by omega, Nat.le_refl _, by omega⟩
theorem Met.wide {m : Option Nat} {w w' : World} {vi co vi' co' lo hi lo' hi' : Nat} (h : Met m w w' vi co vi' co' lo hi) (hl : lo' ≤ lo) (hh : hi ≤ hi') : Met m w w' vi co vi' co' lo' hi' :=
  ⟨h.kept, h.at_, by have := h.low; omega, by have := h.high; omega, h.up, h.fit⟩
theorem Kept.drew2 {m : Option Nat} {w w' : World} (h : Kept m w w') : Kept m w w'.drew := h.drew
def MadeM (S : Nat → Prop) (m : Option Nat) (w w' : World) (e : Ending) (L : Pairs) (vi co lo hi : Nat) : Prop :=
  ∃ u T vi' co', e = .returned (.pointer u) ∧ T.list = L ∧ T.even ∧ TIn (Up S w.heap.size) w' (.pointer u) T ∧ Met m w w' vi co vi' co' lo hi
theorem MAt.lt {m : Option Nat} {w : World} {vi co : Nat} (h : MAt m w vi co) : ∀ b, m = some b → b < w.heap.size := fun b e => (Array.getElem?_eq_some_iff.1 (h b e)).1
theorem up_far {S : Nat → Prop} {m : Option Nat} {w : World} {vi co n : Nat} (h : MAt m w vi co) (hn : w.heap.size ≤ n) (hS : ∀ b, S b → m ≠ some b) : ∀ b, Up S n b → m ≠ some b := fun b hb e => by
  rcases hb with hb | hb
  · exact hS b hb e
  · have := h.lt b e; omega
theorem PIn.kx {S : Nat → Prop} {w : World} {A A' : Option Addr} {n n' c c' : Nat} {k x : Bytes} (h : PIn S w (.agg #[.slice A n c, .slice A' n' c']) k x) : BIn S w (.slice A n c) k ∧ BIn S w (.slice A' n' c') x := by
  obtain ⟨kv, xv, e, h1, h2⟩ := h
  injection e with e
  injection e with e
  injection e with e1 e2
  injection e2 with e2 e3
  subst e1 e2
  exact ⟨h1, h2⟩

namespace PT
/-- The pairs of a tree with one put in, along the keys. -/
def putL : PT → Bytes → Bytes → Pairs
  | nil, key, v => [(key, v)]
  | node l k x r, key, v => if Lib.compareBytes key k = 0 then l.list ++ (key, v) :: r.list else if Lib.compareBytes key k = 1 then l.list ++ (k, x) :: r.putL key v else l.putL key v ++ (k, x) :: r.list
theorem putL_len : ∀ (T : PT) (key v : Bytes), (T.putL key v).length ≤ T.size + 1
  | nil, key, v => by simp [putL, size]
  | node l k x r, key, v => by
    have h1 := l.putL_len key v
    have h2 := r.putL_len key v
    have h3 := l.size_list
    have h4 := r.size_list
    unfold putL
    simp only [size]
    split
    · simp; omega
    · split <;> (simp; omega)
end PT

set_option maxRecDepth 100000 in
set_option maxHeartbeats 12800000 in
theorem put_any {S : Nat → Prop} (m : Option Nat) (hS : ∀ b, S b → m ≠ some b) (key x : Bytes) : ∀ (T : PT) (v pv : Value) (vi co : Nat) (w : World), TIn S w v T → PIn S w pv key x → MAt m w vi co → T.even → T.size + 1 ≤ 500000 → vi + T.height < 1000000 → co + T.height < 1000000 →
    Calls Tryz.prog 94 #[v, pv, mV m] w fun e w' => MadeM S m w w' e (T.putL key x) vi co (min 1 T.size) T.height := by
  obtain ⟨mu, hmu⟩ : ∃ u, mV m = .pointer u := by cases m <;> exact ⟨_, rfl⟩
  have HMV := Lib.hid hmu
  rw [hmu]
  clear hmu
  intro T
  induction T with
  | nil =>
    intro v pv vi co w hT hp hM hev hn hv hc
    obtain rfl : v = .pointer none := hT
    obtain ⟨kv, xv, rfl, hk, hx⟩ := hp
    obtain ⟨A, n, c, rfl⟩ := hk.slice
    obtain ⟨A', n', c', rfl⟩ := hx.slice
    have hbox : Two (w.alloc (.cells #[.slice A n c, .slice A' n' c'] 60)) w.heap.size (.slice A n c) (.slice A' n' c') := heap_new w _
    have HB := Lib.hid ((Below.refl _ w).alloc (Nat.le_refl _) (.cells #[.slice A n c, .slice A' n' c'] 60))
    have HP : Hid (∀ W, Below w.heap.size w W → PIn S W (.agg #[.slice A n c, .slice A' n' c']) key x) := fun W h => ⟨_, _, rfl, hk.below h, hx.below h⟩
    have HM := Lib.hid hM
    obtain ⟨b0, b1⟩ := hbox.cells
    clear hbox hk hx hM hev hn hv hc
    go_enter Tryz.func94, Tryz.ntmps94
    go_wp2_with fail
    refine (node_any (S := S) (.pointer none) (.agg #[.slice A n c, .slice A' n' c']) (.pointer none) .nil .nil key x _ rfl (HP.out _ HB.out) rfl (by decide)).mono ?_
    rintro e w2 ⟨q, rfl, t1, t2⟩
    have HF : Hid (TIn (Up S w.heap.size) w2 (.pointer (some q)) (.node .nil key x .nil) ∧ Below w.heap.size w w2) := ⟨t1.imp (fun b _ hb => up_imp HB.out.size b hb), HB.out.trans (t2.mono HB.out.size)⟩
    clear t1 t2
    go_wp2_with fail
    go_ret
    exact ⟨some q, .node .nil key x .nil, vi, co, rfl, rfl, ⟨by decide, trivial, trivial⟩, HF.out.1, (Met.of HM.out HF.out.2).wide (by simp [PT.size]) (by simp [PT.height])⟩
  | node l k y r ihl ihr =>
    intro v pv vi co w hT hp hM hev hn hv hc
    obtain ⟨b, kv, yv, lv, rv, rfl, hSb, hh, hk, hy, hl, hr⟩ := hT
    obtain ⟨pk, px, rfl, hpk, hpx⟩ := hp
    obtain ⟨A, n, c, rfl⟩ := hpk.slice
    obtain ⟨A', n', c', rfl⟩ := hpx.slice
    obtain ⟨Bk, mk, dk, rfl⟩ := hk.slice
    obtain ⟨Bx, mx, dx, rfl⟩ := hy.slice
    obtain ⟨lu, rfl⟩ := hl.ptr
    obtain ⟨ru, rfl⟩ := hr.ptr
    have hbl := (Array.getElem?_eq_some_iff.1 hh).1
    have hmb := hS b hSb
    have hbox : Two (w.alloc (.cells #[.slice A n c, .slice A' n' c'] 60)) w.heap.size (.slice A n c) (.slice A' n' c') := heap_new w _
    have hB := (Below.refl _ w).alloc (Nat.le_refl _) (.cells #[.slice A n c, .slice A' n' c'] 60)
    have hmw : m ≠ some w.heap.size := fun e => by have := hM.lt _ e; omega
    have KX : Hid (Kept m w (w.alloc (.cells #[.slice A n c, .slice A' n' c'] 60))) := Kept.of hB
    have HMX : Hid (MAt m (w.alloc (.cells #[.slice A n c, .slice A' n' c'] 60)) vi co) := hM.below hB
    have hXs : w.heap.size < (w.alloc (.cells #[.slice A n c, .slice A' n' c'] 60)).heap.size := by simp
    have hXh : (w.alloc (.cells #[.slice A n c, .slice A' n' c'] 60)).heap[b]? = w.heap[b]? := hB.block b hbl
    simp only [PT.size] at hn
    simp only [PT.height] at hv hc
    generalize hXE : w.alloc (.cells #[.slice A n c, .slice A' n' c'] 60) = X at *
    have HXE := Lib.hid hXE
    clear hXE
    have KXX : Hid (Kept m X X) := Kept.refl _ _
    have HL := Lib.hid (fun W (h : Kept m X W) => (hl.below hB).kept h hS)
    have HR := Lib.hid (fun W (h : Kept m X W) => (hr.below hB).kept h hS)
    have HKk := Lib.hid (fun W (h : Kept m X W) => (hk.below hB).kept h hS)
    have HPk := Lib.hid (fun W (h : Kept m X W) => (hpk.below hB).kept h hS)
    have HP : Hid (∀ W, Kept m X W → PIn S W (.agg #[.slice A n c, .slice A' n' c']) key x) := fun W h => ⟨_, _, rfl, (hpk.below hB).kept h hS, (hpx.below hB).kept h hS⟩
    have HIP : Hid (∀ W, Kept m X W → PIn S W (.agg #[.slice Bk mk dk, .slice Bx mx dx]) k y) := fun W h => ⟨_, _, rfl, (hk.below hB).kept h hS, (hy.below hB).kept h hS⟩
    have HCC : Hid (∀ W, Kept m X W → (W.cell? ⟨w.heap.size, 0, none⟩ = some (.slice A n c) ∧ W.cell? ⟨w.heap.size, 1, none⟩ = some (.slice A' n' c')) ∧ W.cell? ⟨b, 0, none⟩ = some (.slice Bk mk dk) ∧ W.cell? ⟨b, 1, none⟩ = some (.slice Bx mx dx) ∧ W.cell? ⟨b, 2, none⟩ = some (.pointer lu) ∧ W.cell? ⟨b, 3, none⟩ = some (.pointer ru)) := fun W h => by
      have h1 : Two W w.heap.size (.slice A n c) (.slice A' n' c') := (h.block w.heap.size hXs hmw).trans hbox
      have h2 := node_cells ((h.block b (by omega) hmb).trans (hXh.trans hh))
      exact ⟨h1.cells, h2.1, h2.2.1, h2.2.2.1, h2.2.2.2.1⟩
    have HNN : Hid (l.size + 1 + r.size + 1 ≤ 500000 ∧ evenB l.size r.size = true ∧ l.even ∧ r.even) := ⟨hn, hev⟩
    have HV : Hid (vi + (1 + max l.height r.height) < 1000000 ∧ co + (1 + max l.height r.height) < 1000000) := ⟨hv, hc⟩
    have IHL : Hid (∀ W, Kept m X W → MAt m W (vi + 1) (co + 1) → Calls Tryz.prog 94 #[.pointer lu, .agg #[.slice A n c, .slice A' n' c'], .pointer mu] W fun e w' => MadeM S m W w' e (l.putL key x) (vi + 1) (co + 1) (min 1 l.size) l.height) := fun W h hm =>
      ihl (.pointer lu) (.agg #[.slice A n c, .slice A' n' c']) (vi + 1) (co + 1) W (HL.out W h) (HP.out W h) hm hev.2.1 (by omega) (by omega) (by omega)
    have IHR : Hid (∀ W, Kept m X W → MAt m W (vi + 1) (co + 1) → Calls Tryz.prog 94 #[.pointer ru, .agg #[.slice A n c, .slice A' n' c'], .pointer mu] W fun e w' => MadeM S m W w' e (r.putL key x) (vi + 1) (co + 1) (min 1 r.size) r.height) := fun W h hm =>
      ihr (.pointer ru) (.agg #[.slice A n c, .slice A' n' c']) (vi + 1) (co + 1) W (HR.out W h) (HP.out W h) hm hev.2.2 (by omega) (by omega) (by omega)
    have HVIS : Hid (Calls Tryz.prog 96 #[.pointer mu] X fun e w' => e = .returned (.tuple #[]) ∧ Kept m X w' ∧ MAt m w' (vi + 1) co) := by
      have := visit_any m vi co X HMX.out (by omega)
      rw [HMV.out] at this
      exact this
    have HC0 : Hid (∀ W, Kept m X W → MAt m W (vi + 1) co → Calls Tryz.prog 97 #[.pointer mu, .slice A n c, .slice Bk mk dk] W fun e w' => e = .returned (.int .i64 (Lib.compareBytes key k)) ∧ Kept m W w' ∧ MAt m w' (vi + 1) (co + 1)) := fun W h hm => by
      have := mcompare_any m (.slice A n c) (.slice Bk mk dk) key k (vi + 1) co W hm (by have := HV.out.2; omega) (HPk.out W h) (HKk.out W h) hS hS
      rw [HMV.out] at this
      exact this
    have hSX := hXs
    clear hbox hB hmw hXs hXh hh hk hy hl hr hpk hpx hM hev hn hv hc ihl ihr hmb
    go_enter Tryz.func94, Tryz.ntmps94
    go_wp2_with fail
    rw [HXE.out]
    refine HVIS.out.mono ?_
    rintro e w1 ⟨rfl, hk1, hm1⟩
    have K1 := Lib.hid hk1
    have HM1 : Hid (Met m X w1 vi co (vi + 1) co 1 1) := ⟨hk1, hm1, by omega, by omega, Nat.le_refl _, by omega⟩
    have HM1D : Hid (MAt m w1.drew (vi + 1) co) := hm1
    have hcc := HCC.out _ K1.out
    clear hk1 hm1
    go_wp2_with fail
    have HQ := cmp3 key k
    go_region_held3 (fun w' => (w'.cell? ⟨w.heap.size, 0, none⟩ = some (.slice A n c) ∧ w'.cell? ⟨w.heap.size, 1, none⟩ = some (.slice A' n' c')) ∧ w'.cell? ⟨b, 0, none⟩ = some (.slice Bk mk dk) ∧ w'.cell? ⟨b, 1, none⟩ = some (.slice Bx mx dx) ∧ w'.cell? ⟨b, 2, none⟩ = some (.pointer lu) ∧ w'.cell? ⟨b, 3, none⟩ = some (.pointer ru))
      (first | with_reducible exact HCC.out _ K1.out | with_reducible exact HCC.out _ (Kept.drew2 K1.out) | with_reducible exact HCC.out _ K2.out | with_reducible exact HCC.out _ K3.out | with_reducible exact HCC.out _ K4.out | go_keep)
      ((go_at_call 97; (with_reducible refine (HC0.out _ K1.out.drew2 HM1D.out).mono ?_); rintro e w2 ⟨rfl, hk2, hm2⟩; have K2 : Hid (Kept m X w2) := K1.out.drew2.trans hk2; have HM2 : Hid (Met m w w2 vi co (vi + 1) (co + 1) 1 1) := ⟨KX.out.trans K2.out, hm2, by omega, by omega, by omega, by omega⟩; have HMD : Hid (MAt m w2.drew (vi + 1) (co + 1)) := hm2; clear hk2 hm2))
    rcases HQ with hq | hq | hq
    · have HCQ := Lib.hid hq
      rw [hq]
      clear hq
      have hcc := HCC.out _ K2.out
      go_wp2_with fail
      go_region_held3 (fun w' => (w'.cell? ⟨w.heap.size, 0, none⟩ = some (.slice A n c) ∧ w'.cell? ⟨w.heap.size, 1, none⟩ = some (.slice A' n' c')) ∧ w'.cell? ⟨b, 0, none⟩ = some (.slice Bk mk dk) ∧ w'.cell? ⟨b, 1, none⟩ = some (.slice Bx mx dx) ∧ w'.cell? ⟨b, 2, none⟩ = some (.pointer lu) ∧ w'.cell? ⟨b, 3, none⟩ = some (.pointer ru))
        (first | with_reducible exact HCC.out _ K2.out | with_reducible exact HCC.out _ (Kept.drew2 K2.out) | with_reducible exact HCC.out _ K2.out | with_reducible exact HCC.out _ K3.out | with_reducible exact HCC.out _ K4.out | go_keep)
        ((go_at_call 77; (with_reducible refine (node_any (.pointer lu) (.agg #[.slice A n c, .slice A' n' c']) (.pointer ru) l r key x _ (HL.out _ K2.out.drew2) (HP.out _ K2.out.drew2) (HR.out _ K2.out.drew2) (by have := HNN.out.1; omega)).mono ?_); rintro e w3 ⟨q, rfl, t1, t2⟩; have K3 : Hid (Kept m X w3) := K2.out.trans (.of (below_drew1 t2)); have HF : Hid (TIn (Up S w.heap.size) w3 (.pointer (some q)) (.node l key x r) ∧ Below w2.heap.size w2 w3) := ⟨t1.imp (fun b _ hb => up_imp (Nat.le_trans KX.out.size K2.out.size) b hb), below_drew1 t2⟩; clear t1 t2))
      all_goals
        go_wp2_with fail
        go_ret
        refine ⟨some q, .node l key x r, vi + 1, co + 1, rfl, ?_, HNN.out.2, HF.out.1, ?_⟩
        · simp only [PT.putL, PT.list]; rw [if_pos HCQ.out]
        · exact (HM2.out.trans (Met.of HM2.out.at_ HF.out.2)).wide (by omega) (by simp only [PT.height]; omega)
    · have HCQ := Lib.hid hq
      rw [hq]
      clear hq
      have hcc := HCC.out _ K2.out
      go_wp2_with fail
      go_region_held3 (fun w' => (w'.cell? ⟨w.heap.size, 0, none⟩ = some (.slice A n c) ∧ w'.cell? ⟨w.heap.size, 1, none⟩ = some (.slice A' n' c')) ∧ w'.cell? ⟨b, 0, none⟩ = some (.slice Bk mk dk) ∧ w'.cell? ⟨b, 1, none⟩ = some (.slice Bx mx dx) ∧ w'.cell? ⟨b, 2, none⟩ = some (.pointer lu) ∧ w'.cell? ⟨b, 3, none⟩ = some (.pointer ru))
        (first | with_reducible exact HCC.out _ K2.out | with_reducible exact HCC.out _ (Kept.drew2 K2.out) | with_reducible exact HCC.out _ K2.out | with_reducible exact HCC.out _ K3.out | with_reducible exact HCC.out _ K4.out | go_keep)
        (first
          | (go_at_call 94; (with_reducible refine (IHR.out _ K2.out.drew2 HMD.out).mono ?_); rintro e w3 ⟨u, T, vi3, co3, rfl, t1, t2, t3, t4⟩; have K3 : Hid (Kept m X w3) := K2.out.drew2.trans t4.kept; have HT : Hid (T.list = r.putL key x ∧ T.even ∧ TIn (Up S w.heap.size) w3 (.pointer u) T) := ⟨t1, t2, t3.imp (fun b _ hb => up_imp (Nat.le_trans KX.out.size K2.out.size) b hb)⟩; have HM3 : Hid (Met m w2 w3 (vi + 1) (co + 1) vi3 co3 0 r.height) := (⟨⟨t4.kept.os, t4.kept.tape, t4.kept.output, t4.kept.size, t4.kept.block⟩, t4.at_, by have := t4.low; omega, t4.high, t4.up, t4.fit⟩ : Met m w2 w3 (vi + 1) (co + 1) vi3 co3 0 r.height); clear t1 t2 t3 t4)
          | (go_at_call 99; (with_reducible refine (mk_any (.pointer lu) (.agg #[.slice Bk mk dk, .slice Bx mx dx]) (.pointer u) l T k y _ ((HL.out _ K3.out).up w.heap.size) ((HIP.out _ K3.out).up w.heap.size) HT.out.2.2 (by have h1 := PT.size_of HT.out.1; have h2 := HNN.out.1; have h3 := r.putL_len key x; omega) HNN.out.2.2.1 HT.out.2.1).mono ?_); rintro e w4 ⟨u', T', rfl, t1, t2, t3, t4⟩; have K4 : Hid (Kept m X w4) := K3.out.trans (.of t4); have HF : Hid (T'.list = l.list ++ (k, y) :: r.putL key x ∧ T'.even ∧ TIn (Up S w.heap.size) w4 (.pointer u') T' ∧ Below w3.heap.size w3 w4) := ⟨t1.trans (by rw [HT.out.1]), t2, t3.imp (fun b _ hb => upup (Nat.le_trans KX.out.size K3.out.size) b hb), t4⟩; clear t1 t2 t3 t4))
      all_goals
        go_wp2_with fail
        go_ret
        refine ⟨u', T', vi3, co3, rfl, ?_, HF.out.2.1, HF.out.2.2.1, ?_⟩
        · rw [HF.out.1]; simp only [PT.putL]; rw [if_neg (by rw [HCQ.out]; decide), if_pos (by rw [HCQ.out])]
        · exact ((HM2.out.trans HM3.out).trans (Met.of HM3.out.at_ HF.out.2.2.2)).wide (by omega) (by simp only [PT.height]; omega)
    · have HCQ := Lib.hid hq
      rw [hq]
      clear hq
      have hcc := HCC.out _ K2.out
      go_wp2_with fail
      go_region_held3 (fun w' => (w'.cell? ⟨w.heap.size, 0, none⟩ = some (.slice A n c) ∧ w'.cell? ⟨w.heap.size, 1, none⟩ = some (.slice A' n' c')) ∧ w'.cell? ⟨b, 0, none⟩ = some (.slice Bk mk dk) ∧ w'.cell? ⟨b, 1, none⟩ = some (.slice Bx mx dx) ∧ w'.cell? ⟨b, 2, none⟩ = some (.pointer lu) ∧ w'.cell? ⟨b, 3, none⟩ = some (.pointer ru))
        (first | with_reducible exact HCC.out _ K2.out | with_reducible exact HCC.out _ (Kept.drew2 K2.out) | with_reducible exact HCC.out _ K2.out | with_reducible exact HCC.out _ K3.out | with_reducible exact HCC.out _ K4.out | go_keep)
        (first
          | (go_at_call 94; (with_reducible refine (IHL.out _ K2.out.drew2 HMD.out).mono ?_); rintro e w3 ⟨u, T, vi3, co3, rfl, t1, t2, t3, t4⟩; have K3 : Hid (Kept m X w3) := K2.out.drew2.trans t4.kept; have HT : Hid (T.list = l.putL key x ∧ T.even ∧ TIn (Up S w.heap.size) w3 (.pointer u) T) := ⟨t1, t2, t3.imp (fun b _ hb => up_imp (Nat.le_trans KX.out.size K2.out.size) b hb)⟩; have HM3 : Hid (Met m w2 w3 (vi + 1) (co + 1) vi3 co3 0 l.height) := (⟨⟨t4.kept.os, t4.kept.tape, t4.kept.output, t4.kept.size, t4.kept.block⟩, t4.at_, by have := t4.low; omega, t4.high, t4.up, t4.fit⟩ : Met m w2 w3 (vi + 1) (co + 1) vi3 co3 0 l.height); clear t1 t2 t3 t4)
          | (go_at_call 99; (with_reducible refine (mk_any (.pointer u) (.agg #[.slice Bk mk dk, .slice Bx mx dx]) (.pointer ru) T r k y _ HT.out.2.2 ((HIP.out _ K3.out).up w.heap.size) ((HR.out _ K3.out).up w.heap.size) (by have h1 := PT.size_of HT.out.1; have h2 := HNN.out.1; have h3 := l.putL_len key x; omega) HT.out.2.1 HNN.out.2.2.2).mono ?_); rintro e w4 ⟨u', T', rfl, t1, t2, t3, t4⟩; have K4 : Hid (Kept m X w4) := K3.out.trans (.of t4); have HF : Hid (T'.list = l.putL key x ++ (k, y) :: r.list ∧ T'.even ∧ TIn (Up S w.heap.size) w4 (.pointer u') T' ∧ Below w3.heap.size w3 w4) := ⟨t1.trans (by rw [HT.out.1]), t2, t3.imp (fun b _ hb => upup (Nat.le_trans KX.out.size K3.out.size) b hb), t4⟩; clear t1 t2 t3 t4))
      all_goals
        go_wp2_with fail
        go_ret
        refine ⟨u', T', vi3, co3, rfl, ?_, HF.out.2.1, HF.out.2.2.1, ?_⟩
        · rw [HF.out.1]; simp only [PT.putL]; rw [if_neg (by rw [HCQ.out]; decide), if_neg (by rw [HCQ.out]; decide)]
        · exact ((HM2.out.trans HM3.out).trans (Met.of HM3.out.at_ HF.out.2.2.2)).wide (by omega) (by simp only [PT.height]; omega)

set_option maxHeartbeats 6400000 in
theorem Put_any {S : Nat → Prop} (m : Option Nat) (hS : ∀ b, S b → m ≠ some b) (key x : Bytes) (T : PT) (v pv : Value) (vi co : Nat) (w : World) (hT : TIn S w v T) (hp : PIn S w pv key x) (hM : MAt m w vi co) (hev : T.even) (hn : T.size + 1 ≤ 500000) (hv : vi + T.height < 1000000) (hc : co + T.height < 1000000) :
    Calls Tryz.prog 80 #[v, pv, mV m] w fun e w' => MadeM S m w w' e (T.putL key x) vi co (min 1 T.size) T.height := by
  obtain ⟨mu, hmu⟩ : ∃ u, mV m = .pointer u := by cases m <;> exact ⟨_, rfl⟩
  have HMV := Lib.hid hmu
  rw [hmu]
  clear hmu
  obtain ⟨pk, px, rfl, hpk, hpx⟩ := hp
  obtain ⟨tu, rfl⟩ := hT.ptr
  obtain ⟨A, n, c, rfl⟩ := hpk.slice
  obtain ⟨A', n', c', rfl⟩ := hpx.slice
  have hbox : Two (w.alloc (.cells #[.slice A n c, .slice A' n' c'] 60)) w.heap.size (.slice A n c) (.slice A' n' c') := heap_new w _
  have HB := Lib.hid ((Below.refl _ w).alloc (Nat.le_refl _) (.cells #[.slice A n c, .slice A' n' c'] 60))
  have HT := Lib.hid (fun W (h : Below w.heap.size w W) => hT.below h)
  have HP : Hid (∀ W, Below w.heap.size w W → PIn S W (.agg #[.slice A n c, .slice A' n' c']) key x) := fun W h => ⟨_, _, rfl, hpk.below h, hpx.below h⟩
  have HM := Lib.hid hM
  have HNN := Lib.hid (And.intro hev (And.intro hn (And.intro hv hc)))
  obtain ⟨b0, b1⟩ := hbox.cells
  clear hbox hpk hpx hT hM hev hn hv hc
  go_enter Tryz.func80, Tryz.ntmps80
  go_wp2_with fail
  refine (own_any (.agg #[.slice A n c, .slice A' n' c']) key x _ (HP.out _ HB.out)).mono ?_
  rintro e wa ⟨u, rfl, hu, hb1⟩
  have H1 : Hid (Below w.heap.size w wa) := HB.out.trans (hb1.mono HB.out.size)
  have HU : Hid (PIn (Up S w.heap.size) wa u key x) := hu.imp (fun b _ hb => .inr (Nat.le_trans HB.out.size hb))
  have HPUT : Hid (Calls Tryz.prog 94 #[.pointer tu, u, .pointer mu] wa fun e w' => MadeM (Up S w.heap.size) m wa w' e (T.putL key x) vi co (min 1 T.size) T.height) := by
    have := put_any m (up_far HM.out (Nat.le_refl _) hS) key x T (.pointer tu) u vi co wa ((HT.out wa H1.out).up w.heap.size) HU.out (HM.out.below H1.out) HNN.out.1 HNN.out.2.1 HNN.out.2.2.1 HNN.out.2.2.2
    rw [HMV.out] at this
    exact this
  clear hu hb1
  go_wp2_with fail
  refine HPUT.out.mono ?_
  rintro e wb ⟨u', T', vi', co', rfl, t1, t2, t3, t4⟩
  have HF : Hid (T'.list = T.putL key x ∧ T'.even ∧ TIn (Up S w.heap.size) wb (.pointer u') T' ∧ Met m w wb vi co vi' co' (min 1 T.size) T.height) := ⟨t1, t2, t3.imp (fun b _ hb => upup H1.out.size b hb), ((Met.of HM.out H1.out).trans t4).wide (by omega) (by omega)⟩
  clear t1 t2 t3 t4
  go_wp2_with fail
  go_ret
  exact ⟨u', T', vi', co', rfl, HF.out⟩

end Go.Proofs.YtphjaebkcimklaaGreatDoor
