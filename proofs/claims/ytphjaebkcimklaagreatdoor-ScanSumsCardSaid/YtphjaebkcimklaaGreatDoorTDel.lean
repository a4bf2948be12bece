/- The contracts of Pair and Delete, with the meter. -/
import Derived.Test.YtphjaebkcimklaaGreatDoorTFirst
set_option linter.unusedVariables false
set_option linter.unusedSimpArgs false
namespace Go.Proofs.YtphjaebkcimklaaGreatDoor
open Go.RowKit

set_option maxHeartbeats 6400000 in
theorem Pair_any {S : Nat → Prop} (m : Option Nat) (hS : ∀ b, S b → m ≠ some b) (l r : PT) (lv rv : Value) (vi co : Nat) (w : World) (hl : TIn S w lv l) (hr : TIn S w rv r) (hM : MAt m w vi co) (hel : l.even) (her : r.even) (hn : l.size + r.size + 1 ≤ 500000) (hv : vi + r.height < 1000000) :
    Calls Tryz.prog 98 #[lv, rv, mV m] w fun e w' => MadeM S m w w' e (l.list ++ r.list) vi co 0 r.height := by
  obtain ⟨mu, hmu⟩ : ∃ u, mV m = .pointer u := by cases m <;> exact ⟨_, rfl⟩
  have HMV := Lib.hid hmu
  rw [hmu]
  clear hmu
  cases l with
  | nil =>
    obtain rfl : lv = .pointer none := hl
    obtain ⟨ru, rfl⟩ := hr.ptr
    have HF : Hid (r.even ∧ TIn S w (.pointer ru) r ∧ MAt m w vi co) := ⟨her, hr, hM⟩
    clear hr hM hel her hn hv
    go_enter Tryz.func98, Tryz.ntmps98
    go_wp2_with fail
    go_ret
    exact ⟨ru, r, vi, co, rfl, rfl, HF.out.1, HF.out.2.1.up _, (Met.of HF.out.2.2 (Below.refl _ _)).wide (by omega) (by omega)⟩
  | node il ik ix ir =>
    obtain ⟨bl, hbl⟩ : ∃ bl, lv = .pointer (some bl) := by obtain ⟨b', _, _, _, _, e, _⟩ := hl; exact ⟨⟨b', 0, none⟩, e⟩
    subst hbl
    have HL := Lib.hid (fun W (h : Kept m w W) => hl.kept h hS)
    cases r with
    | nil =>
      obtain rfl : rv = .pointer none := hr
      have HF : Hid ((PT.node il ik ix ir).even ∧ MAt m w vi co) := ⟨hel, hM⟩
      clear hl hM hel her hn hv
      go_enter Tryz.func98, Tryz.ntmps98
      go_wp2_with fail
      go_ret
      exact ⟨_, PT.node il ik ix ir, vi, co, rfl, by simp [PT.list], HF.out.1, (HL.out w (Kept.refl _ _)).up _, (Met.of HF.out.2 (Below.refl _ _)).wide (by omega) (by omega)⟩
    | node jl jk jx jr =>
      obtain ⟨br, hbr⟩ : ∃ br, rv = .pointer (some br) := by obtain ⟨b', _, _, _, _, e, _⟩ := hr; exact ⟨⟨b', 0, none⟩, e⟩
      subst hbr
      have hf := first_any m hS (.node jl jk jx jr) (.pointer (some br)) vi co w (by simp only [PT.size]; omega) hr hM her (by omega) hv
      rw [HMV.out] at hf
      have HFI := Lib.hid hf
      have HNN : Hid ((PT.node il ik ix ir).even ∧ (PT.node il ik ix ir).size + (PT.node jl jk jx jr).size + 1 ≤ 500000) := ⟨hel, hn⟩
      have HFAR := Lib.hid (up_far hM (Nat.le_refl _) hS)
      clear hl hr hM hel her hn hv hf
      go_enter Tryz.func98, Tryz.ntmps98
      go_wp2_with fail
      refine HFI.out.mono ?_
      rintro e w2 ⟨A, n, c, A', n', c', u, k, x, T, vi2, co2, rfl, t1, t2, t3, t4, t5⟩
      have HT : Hid ((k, x) :: T.list = (PT.node jl jk jx jr).list ∧ PIn S w2 (.agg #[.slice A n c, .slice A' n' c']) k x ∧ T.even ∧ TIn (Up S w.heap.size) w2 (.pointer u) T ∧ Met m w w2 vi co vi2 co2 1 (PT.node jl jk jx jr).height) := ⟨t1, t2, t3, t4, t5⟩
      have HSZ : Hid ((PT.node il ik ix ir).size + 1 + T.size ≤ 500000) := by
        have h1 := congrArg List.length t1
        simp only [List.length_cons, PT.size_list] at h1
        have h2 := HNN.out.2
        exact (by omega : (PT.node il ik ix ir).size + 1 + T.size ≤ 500000)
      clear t1 t2 t3 t4 t5
      have hbox : Two (w2.alloc (.cells #[.slice A n c, .slice A' n' c'] 60)) w2.heap.size (.slice A n c) (.slice A' n' c') := heap_new w2 _
      have HB := Lib.hid ((Below.refl _ w2).alloc (Nat.le_refl _) (.cells #[.slice A n c, .slice A' n' c'] 60))
      obtain ⟨b0, b1⟩ := hbox.cells
      clear hbox
      go_wp2_with fail
      refine (join_any (S := Up S w.heap.size) ((PT.node il ik ix ir).size + T.size + 1) (.node il ik ix ir) T (.pointer (some bl)) (.agg #[.slice A n c, .slice A' n' c']) (.pointer u) k x _ (by omega) (((HL.out _ (HT.out.2.2.2.2.kept.trans (.of HB.out))).up w.heap.size)) ((HT.out.2.1.below HB.out).up w.heap.size) (HT.out.2.2.2.1.below HB.out) HSZ.out HNN.out.1 HT.out.2.2.1).mono ?_
      rintro e w3 ⟨u', T', rfl, t1, t2, t3, t4⟩
      have HF : Hid (T'.list = (PT.node il ik ix ir).list ++ (k, x) :: T.list ∧ T'.even ∧ TIn (Up S w.heap.size) w3 (.pointer u') T' ∧ Below w2.heap.size w2 w3) := ⟨t1, t2, t3.imp (fun b _ hb => upup (Nat.le_trans HT.out.2.2.2.2.kept.size HB.out.size) b hb), HB.out.trans (t4.mono HB.out.size)⟩
      clear t1 t2 t3 t4 b0 b1
      go_wp2_with fail
      go_ret
      refine ⟨u', T', vi2, co2, rfl, ?_, HF.out.2.1, HF.out.2.2.1, (HT.out.2.2.2.2.trans (Met.of HT.out.2.2.2.2.at_ HF.out.2.2.2)).wide (by omega) (by omega)⟩
      rw [HF.out.1, HT.out.1]

namespace PT
/-- The pairs of a tree without a key, along the keys. -/
def delL : PT → Bytes → Pairs
  | nil, _ => []
  | node l k x r, key => if Lib.compareBytes key k = 0 then l.list ++ r.list else if Lib.compareBytes key k = 1 then l.list ++ (k, x) :: r.delL key else l.delL key ++ (k, x) :: r.list
def has : PT → Bytes → Bool
  | nil, _ => false
  | node l k x r, key => if Lib.compareBytes key k = 0 then true else if Lib.compareBytes key k = 1 then r.has key else l.has key
theorem delL_len : ∀ (T : PT) (key : Bytes), (T.delL key).length ≤ T.size
  | nil, key => by simp [delL, size]
  | node l k x r, key => by
    have h1 := l.delL_len key
    have h2 := r.delL_len key
    have h3 := l.size_list
    have h4 := r.size_list
    unfold delL
    simp only [size]
    split
    · simp; omega
    · split <;> (simp; omega)
theorem delL_not : ∀ (T : PT) (key : Bytes), T.has key = false → T.delL key = T.list
  | nil, key, _ => rfl
  | node l k x r, key, h => by
    unfold has at h
    unfold delL
    split at h
    · cases h
    · next h0 =>
      rw [if_neg h0]
      split at h
      · next h1 => rw [if_pos h1, r.delL_not key h]; rfl
      · next h1 => rw [if_neg h1, l.delL_not key h]; rfl
end PT

/-- What Delete tells. -/
def DelIn (S : Nat → Prop) (m : Option Nat) (w w' : World) (e : Ending) (ok : Bool) (L : Pairs) (vi co lo hi : Nat) : Prop :=
  ∃ u T vi' co', e = .returned (.tuple #[.pointer u, .bool ok]) ∧ T.list = L ∧ T.even ∧ TIn (Up S w.heap.size) w' (.pointer u) T ∧ Met m w w' vi co vi' co' lo hi

set_option maxRecDepth 100000 in
set_option maxHeartbeats 12800000 in
theorem Delete_any {S S' : Nat → Prop} (m : Option Nat) (hS : ∀ b, S b → m ≠ some b) (hS' : ∀ b, S' b → m ≠ some b) (key : Bytes) : ∀ (T : PT) (v kv : Value) (vi co : Nat) (w : World), TIn S w v T → BIn S' w kv key → MAt m w vi co → T.even → T.size + 1 ≤ 500000 → vi + T.height < 1000000 → co + T.height < 1000000 →
    Calls Tryz.prog 82 #[v, kv, mV m] w fun e w' => DelIn S m w w' e (T.has key) (T.delL key) vi co (min 1 T.size) T.height := by
  obtain ⟨mu, hmu⟩ : ∃ u, mV m = .pointer u := by cases m <;> exact ⟨_, rfl⟩
  have HMV := Lib.hid hmu
  rw [hmu]
  clear hmu
  intro T
  induction T with
  | nil =>
    intro v kv vi co w hT hk hM hev hn hv hc
    obtain rfl : v = .pointer none := hT
    have HM := Lib.hid hM
    clear hk hM hev hn hv hc
    go_enter Tryz.func82, Tryz.ntmps82
    go_wp2_with fail
    go_ret2
    exact ⟨none, .nil, vi, co, rfl, rfl, trivial, rfl, (Met.of HM.out (Below.refl _ _)).wide (by simp [PT.size]) (by omega)⟩
  | node l k y r ihl ihr =>
    intro v kv vi co w hT hpk hM hev hn hv hc
    have HTT := Lib.hid (fun W (h : Kept m w W) => hT.kept h hS)
    obtain ⟨b, kv', yv, lv, rv, rfl, hSb, hh, hk, hy, hl, hr⟩ := hT
    obtain ⟨A, n, c, rfl⟩ := hpk.slice
    obtain ⟨Bk, mk, dk, rfl⟩ := hk.slice
    obtain ⟨Bx, mx, dx, rfl⟩ := hy.slice
    obtain ⟨lu, rfl⟩ := hl.ptr
    obtain ⟨ru, rfl⟩ := hr.ptr
    have hbl := (Array.getElem?_eq_some_iff.1 hh).1
    have hmb := hS b hSb
    simp only [PT.size] at hn
    simp only [PT.height] at hv hc
    have HL := Lib.hid (fun W (h : Kept m w W) => hl.kept h hS)
    have HR := Lib.hid (fun W (h : Kept m w W) => hr.kept h hS)
    have HKk := Lib.hid (fun W (h : Kept m w W) => hk.kept h hS)
    have HPk := Lib.hid (fun W (h : Kept m w W) => hpk.kept h hS')
    have HIP : Hid (∀ W, Kept m w W → PIn S W (.agg #[.slice Bk mk dk, .slice Bx mx dx]) k y) := fun W h => ⟨_, _, rfl, hk.kept h hS, hy.kept h hS⟩
    have HCC : Hid (∀ W, Kept m w W → W.cell? ⟨b, 0, none⟩ = some (.slice Bk mk dk) ∧ W.cell? ⟨b, 1, none⟩ = some (.slice Bx mx dx) ∧ W.cell? ⟨b, 2, none⟩ = some (.pointer lu) ∧ W.cell? ⟨b, 3, none⟩ = some (.pointer ru)) := fun W h => by
      have h2 := node_cells ((h.block b hbl hmb).trans hh)
      exact ⟨h2.1, h2.2.1, h2.2.2.1, h2.2.2.2.1⟩
    have HNN : Hid (l.size + 1 + r.size + 1 ≤ 500000 ∧ evenB l.size r.size = true ∧ l.even ∧ r.even) := ⟨hn, hev⟩
    have HV : Hid (vi + (1 + max l.height r.height) < 1000000 ∧ co + (1 + max l.height r.height) < 1000000) := ⟨hv, hc⟩
    have IHL : Hid (∀ W, Kept m w W → MAt m W (vi + 1) (co + 1) → Calls Tryz.prog 82 #[.pointer lu, .slice A n c, .pointer mu] W fun e w' => DelIn S m W w' e (l.has key) (l.delL key) (vi + 1) (co + 1) (min 1 l.size) l.height) := fun W h hm =>
      ihl (.pointer lu) (.slice A n c) (vi + 1) (co + 1) W (HL.out W h) (HPk.out W h) hm hev.2.1 (by omega) (by omega) (by omega)
    have IHR : Hid (∀ W, Kept m w W → MAt m W (vi + 1) (co + 1) → Calls Tryz.prog 82 #[.pointer ru, .slice A n c, .pointer mu] W fun e w' => DelIn S m W w' e (r.has key) (r.delL key) (vi + 1) (co + 1) (min 1 r.size) r.height) := fun W h hm =>
      ihr (.pointer ru) (.slice A n c) (vi + 1) (co + 1) W (HR.out W h) (HPk.out W h) hm hev.2.2 (by omega) (by omega) (by omega)
    have HVIS : Hid (Calls Tryz.prog 96 #[.pointer mu] w fun e w' => e = .returned (.tuple #[]) ∧ Kept m w w' ∧ MAt m w' (vi + 1) co) := by
      have := visit_any m vi co w hM (by omega)
      rw [HMV.out] at this
      exact this
    have HC0 : Hid (∀ W, Kept m w W → MAt m W (vi + 1) co → Calls Tryz.prog 97 #[.pointer mu, .slice A n c, .slice Bk mk dk] W fun e w' => e = .returned (.int .i64 (Lib.compareBytes key k)) ∧ Kept m W w' ∧ MAt m w' (vi + 1) (co + 1)) := fun W h hm => by
      have := mcompare_any m (.slice A n c) (.slice Bk mk dk) key k (vi + 1) co W hm (by have := HV.out.2; omega) (HPk.out W h) (HKk.out W h) hS' hS
      rw [HMV.out] at this
      exact this
    have HPR : Hid (∀ W, Kept m w W → MAt m W (vi + 1) (co + 1) → Calls Tryz.prog 98 #[.pointer lu, .pointer ru, .pointer mu] W fun e w' => MadeM S m W w' e (l.list ++ r.list) (vi + 1) (co + 1) 0 r.height) := fun W h hm => by
      have := Pair_any m hS l r (.pointer lu) (.pointer ru) (vi + 1) (co + 1) W (HL.out W h) (HR.out W h) hm hev.2.1 hev.2.2 (by omega) (by omega)
      rw [HMV.out] at this
      exact this
    clear hh hk hy hl hr hpk hM hev hn hv hc ihl ihr hmb
    go_enter Tryz.func82, Tryz.ntmps82
    go_wp2_with fail
    refine HVIS.out.mono ?_
    rintro e w1 ⟨rfl, hk1, hm1⟩
    have K1 := Lib.hid hk1
    have HM1 := Lib.hid hm1
    have hcc := HCC.out _ K1.out
    obtain ⟨d0, d1, d2, d3⟩ := hcc
    clear hk1 hm1
    go_wp2_with fail
    have HQ := cmp3 key k
    refine (HC0.out _ K1.out HM1.out).mono ?_
    rintro e w2 ⟨rfl, hk2, hm2⟩
    have K2 : Hid (Kept m w w2) := K1.out.trans hk2
    have HM2 : Hid (Met m w w2 vi co (vi + 1) (co + 1) 1 1) := ⟨K2.out, hm2, by omega, by omega, by omega, by omega⟩
    clear hk2 hm2 d0 d1 d2 d3
    rcases HQ with hq | hq | hq
    · have HCQ := Lib.hid hq
      rw [hq]
      clear hq
      have hcc := HCC.out _ K2.out
      have HMD : Hid (MAt m w2.drew (vi + 1) (co + 1)) := HM2.out.at_
      go_wp2_with fail
      go_region_held3 (fun w' => w'.cell? ⟨b, 0, none⟩ = some (.slice Bk mk dk) ∧ w'.cell? ⟨b, 1, none⟩ = some (.slice Bx mx dx) ∧ w'.cell? ⟨b, 2, none⟩ = some (.pointer lu) ∧ w'.cell? ⟨b, 3, none⟩ = some (.pointer ru))
        (first | with_reducible exact HCC.out _ K2.out | with_reducible exact HCC.out _ K2.out.drew2 | with_reducible exact HCC.out _ K4.out | go_keep)
        ((go_at_call 98; (with_reducible refine (HPR.out _ K2.out.drew2 HMD.out).mono ?_); rintro e w4 ⟨u', T', vi4, co4, rfl, t1, t2, t3, t4⟩; have K4 : Hid (Kept m w w4) := K2.out.drew2.trans t4.kept; have HF : Hid (T'.list = l.list ++ r.list ∧ T'.even ∧ TIn (Up S w.heap.size) w4 (.pointer u') T' ∧ Met m w2 w4 (vi + 1) (co + 1) vi4 co4 0 r.height) := ⟨t1, t2, t3.imp (fun b _ hb => up_imp K2.out.size b hb), ⟨⟨t4.kept.os, t4.kept.tape, t4.kept.output, t4.kept.size, t4.kept.block⟩, t4.at_, t4.low, t4.high, t4.up, t4.fit⟩⟩; clear t1 t2 t3 t4))
      all_goals
        go_wp2_with fail
        go_ret2
        refine ⟨u', T', vi4, co4, ?_, ?_, HF.out.2.1, HF.out.2.2.1, (HM2.out.trans HF.out.2.2.2).wide (by omega) (by simp only [PT.height]; omega)⟩
        · simp only [PT.has]; rw [if_pos HCQ.out]; rfl
        · rw [HF.out.1]; simp only [PT.delL]; rw [if_pos HCQ.out]
    · have HCQ := Lib.hid hq
      rw [hq]
      clear hq
      have hcc := HCC.out _ K2.out
      obtain ⟨d0, d1, d2, d3⟩ := hcc
      go_wp2_with fail
      refine (IHR.out _ K2.out HM2.out.at_).mono ?_
      rintro e w3 ⟨u, T, vi3, co3, rfl, t1, t2, t3, t4⟩
      have K3 : Hid (Kept m w w3) := K2.out.trans t4.kept
      have HT : Hid (T.list = r.delL key ∧ T.even ∧ TIn (Up S w.heap.size) w3 (.pointer u) T) := ⟨t1, t2, t3.imp (fun b _ hb => up_imp K2.out.size b hb)⟩
      have HM3 : Hid (Met m w w3 vi co vi3 co3 1 (1 + r.height)) := (HM2.out.trans t4).wide (by omega) (by omega)
      have hcc := HCC.out _ K3.out
      clear t1 t2 t3 t4 d0 d1 d2 d3
      cases hhas : r.has key
      · have HHAS := Lib.hid hhas
        clear hhas
        go_wp2_with fail
        go_ret2
        refine ⟨_, .node l k y r, vi3, co3, ?_, ?_, HNN.out.2, (HTT.out _ K3.out).up _, HM3.out.wide (by omega) (by simp only [PT.height]; omega)⟩
        · simp only [PT.has]; rw [if_neg (by rw [HCQ.out]; decide), if_pos (by rw [HCQ.out]), HHAS.out]; rfl
        · simp only [PT.delL]; rw [if_neg (by rw [HCQ.out]; decide), if_pos (by rw [HCQ.out]), r.delL_not key HHAS.out]; rfl
      · have HHAS := Lib.hid hhas
        clear hhas
        go_wp2_with fail
        go_region_held3 (fun w' => w'.cell? ⟨b, 0, none⟩ = some (.slice Bk mk dk) ∧ w'.cell? ⟨b, 1, none⟩ = some (.slice Bx mx dx) ∧ w'.cell? ⟨b, 2, none⟩ = some (.pointer lu) ∧ w'.cell? ⟨b, 3, none⟩ = some (.pointer ru))
          (first | with_reducible exact HCC.out _ K3.out | with_reducible exact HCC.out _ K2.out | with_reducible exact HCC.out _ K2.out.drew2 | with_reducible exact HCC.out _ K3.out.drew2 | with_reducible exact HCC.out _ K4.out | go_keep)
          ((go_at_call 99; (with_reducible refine (mk_any (.pointer lu) (.agg #[.slice Bk mk dk, .slice Bx mx dx]) (.pointer u) l T k y _ ((HL.out _ K3.out.drew2).up w.heap.size) ((HIP.out _ K3.out.drew2).up w.heap.size) (HT.out.2.2.below (below_drew2 (Below.refl _ _))) (by have h1 := PT.size_of HT.out.1; have h2 := HNN.out.1; have h3 := r.delL_len key; omega) HNN.out.2.2.1 HT.out.2.1).mono ?_); rintro e w4 ⟨u', T', rfl, t1, t2, t3, t4⟩; have K4 : Hid (Kept m w w4) := K3.out.drew2.trans (.of t4); have HF : Hid (T'.list = l.list ++ (k, y) :: r.delL key ∧ T'.even ∧ TIn (Up S w.heap.size) w4 (.pointer u') T' ∧ Below w3.heap.size w3 w4) := ⟨t1.trans (by rw [HT.out.1]), t2, t3.imp (fun b _ hb => upup K3.out.size b hb), below_drew1 t4⟩; clear t1 t2 t3 t4))
        all_goals
          go_wp2_with fail
          go_ret2
          refine ⟨u', T', vi3, co3, ?_, ?_, HF.out.2.1, HF.out.2.2.1, (HM3.out.trans (Met.of HM3.out.at_ HF.out.2.2.2)).wide (by omega) (by simp only [PT.height]; omega)⟩
          · simp only [PT.has]; rw [if_neg (by rw [HCQ.out]; decide), if_pos (by rw [HCQ.out]), HHAS.out]; rfl
          · rw [HF.out.1]; simp only [PT.delL]; rw [if_neg (by rw [HCQ.out]; decide), if_pos (by rw [HCQ.out])]
    · have HCQ := Lib.hid hq
      rw [hq]
      clear hq
      have hcc := HCC.out _ K2.out
      obtain ⟨d0, d1, d2, d3⟩ := hcc
      go_wp2_with fail
      refine (IHL.out _ K2.out HM2.out.at_).mono ?_
      rintro e w3 ⟨u, T, vi3, co3, rfl, t1, t2, t3, t4⟩
      have K3 : Hid (Kept m w w3) := K2.out.trans t4.kept
      have HT : Hid (T.list = l.delL key ∧ T.even ∧ TIn (Up S w.heap.size) w3 (.pointer u) T) := ⟨t1, t2, t3.imp (fun b _ hb => up_imp K2.out.size b hb)⟩
      have HM3 : Hid (Met m w w3 vi co vi3 co3 1 (1 + l.height)) := (HM2.out.trans t4).wide (by omega) (by omega)
      have hcc := HCC.out _ K3.out
      clear t1 t2 t3 t4 d0 d1 d2 d3
      cases hhas : l.has key
      · have HHAS := Lib.hid hhas
        clear hhas
        go_wp2_with fail
        go_ret2
        refine ⟨_, .node l k y r, vi3, co3, ?_, ?_, HNN.out.2, (HTT.out _ K3.out).up _, HM3.out.wide (by omega) (by simp only [PT.height]; omega)⟩
        · simp only [PT.has]; rw [if_neg (by rw [HCQ.out]; decide), if_neg (by rw [HCQ.out]; decide), HHAS.out]; rfl
        · simp only [PT.delL]; rw [if_neg (by rw [HCQ.out]; decide), if_neg (by rw [HCQ.out]; decide), l.delL_not key HHAS.out]; rfl
      · have HHAS := Lib.hid hhas
        clear hhas
        go_wp2_with fail
        go_region_held3 (fun w' => w'.cell? ⟨b, 0, none⟩ = some (.slice Bk mk dk) ∧ w'.cell? ⟨b, 1, none⟩ = some (.slice Bx mx dx) ∧ w'.cell? ⟨b, 2, none⟩ = some (.pointer lu) ∧ w'.cell? ⟨b, 3, none⟩ = some (.pointer ru))
          (first | with_reducible exact HCC.out _ K3.out | with_reducible exact HCC.out _ K2.out | with_reducible exact HCC.out _ K2.out.drew2 | with_reducible exact HCC.out _ K3.out.drew2 | with_reducible exact HCC.out _ K4.out | go_keep)
          ((go_at_call 99; (with_reducible refine (mk_any (.pointer u) (.agg #[.slice Bk mk dk, .slice Bx mx dx]) (.pointer ru) T r k y _ (HT.out.2.2.below (below_drew2 (Below.refl _ _))) ((HIP.out _ K3.out.drew2).up w.heap.size) ((HR.out _ K3.out.drew2).up w.heap.size) (by have h1 := PT.size_of HT.out.1; have h2 := HNN.out.1; have h3 := l.delL_len key; omega) HT.out.2.1 HNN.out.2.2.2).mono ?_); rintro e w4 ⟨u', T', rfl, t1, t2, t3, t4⟩; have K4 : Hid (Kept m w w4) := K3.out.drew2.trans (.of t4); have HF : Hid (T'.list = l.delL key ++ (k, y) :: r.list ∧ T'.even ∧ TIn (Up S w.heap.size) w4 (.pointer u') T' ∧ Below w3.heap.size w3 w4) := ⟨t1.trans (by rw [HT.out.1]), t2, t3.imp (fun b _ hb => upup K3.out.size b hb), below_drew1 t4⟩; clear t1 t2 t3 t4))
        all_goals
          go_wp2_with fail
          go_ret2
          refine ⟨u', T', vi3, co3, ?_, ?_, HF.out.2.1, HF.out.2.2.1, (HM3.out.trans (Met.of HM3.out.at_ HF.out.2.2.2)).wide (by omega) (by simp only [PT.height]; omega)⟩
          · simp only [PT.has]; rw [if_neg (by rw [HCQ.out]; decide), if_neg (by rw [HCQ.out]; decide), HHAS.out]; rfl
          · rw [HF.out.1]; simp only [PT.delL]; rw [if_neg (by rw [HCQ.out]; decide), if_neg (by rw [HCQ.out]; decide)]

end Go.Proofs.YtphjaebkcimklaaGreatDoor
