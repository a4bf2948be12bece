/- The contract of the tree's Get. -/
import Derived.Test.YtphjaebkcimklaaGreatDoorTMeter
import Derived.Deep.LoopGhost
set_option linter.unusedVariables false
set_option linter.unusedSimpArgs false
namespace Go.Proofs.YtphjaebkcimklaaGreatDoor
open Go.RowKit

theorem cmp3 (a b : Bytes) : Lib.compareBytes a b = 0 ∨ Lib.compareBytes a b = 1 ∨ Lib.compareBytes a b = -1 := by
  induction a generalizing b with
  | nil => cases b <;> simp [Lib.compareBytes]
  | cons x xs ih =>
    cases b with
    | nil => simp [Lib.compareBytes]
    | cons y ys =>
      unfold Lib.compareBytes
      split
      · simp
      · split
        · simp
        · exact ih ys

namespace PT
/-- What a tree holds at a key, along the keys. -/
def get : PT → Bytes → Option Bytes
  | nil, _ => none
  | node l k x r, key => if Lib.compareBytes key k = 0 then some x else if Lib.compareBytes key k = 1 then r.get key else l.get key
/-- How many nodes are met on the way. -/
def path : PT → Bytes → Nat
  | nil, _ => 0
  | node l k _ r, key => 1 + (if Lib.compareBytes key k = 0 then 0 else if Lib.compareBytes key k = 1 then r.path key else l.path key)
end PT

/-- What Get tells. -/
def GotIn (n : Nat) (w : World) (e : Ending) : Option Bytes → Prop
  | none => e = .returned (.tuple #[.slice none 0 0, .bool false])
  | some x => ∃ u, e = .returned (.tuple #[u, .bool true]) ∧ BIn (New n) w u x

set_option maxHeartbeats 3200000 in
theorem get_any {S S' : Nat → Prop} (T : PT) (key : Bytes) (m : Option Nat) (v kv : Value) (vi co : Nat) (w : World) (hT : TIn S w v T) (hK : BIn S' w kv key) (hM : MAt m w vi co)
    (hS : ∀ b, S b → m ≠ some b) (hS' : ∀ b, S' b → m ≠ some b) (hv : vi + T.path key ≤ 1000000) (hc : co + T.path key ≤ 1000000) :
    Calls Tryz.prog 110 #[v, kv, mV m] w fun e w' => GotIn w.heap.size w' e (T.get key) ∧ Kept m w w' ∧ MAt m w' (vi + T.path key) (co + T.path key) := by
  obtain ⟨A, n, c, rfl⟩ := hK.slice
  obtain ⟨vu, rfl⟩ := hT.ptr
  obtain ⟨mu, hmu⟩ : ∃ u, mV m = .pointer u := by cases m <;> exact ⟨_, rfl⟩
  have HMV := Lib.hid hmu
  rw [hmu]
  clear hmu
  have HT := Lib.hid hT
  have HK := Lib.hid hK
  have HM := Lib.hid hM
  have HV := Lib.hid (And.intro hv hc)
  clear hT hK hM hv hc
  go_enter Tryz.func110, Tryz.ntmps110
  go_wp2_with fail
  go_loopg [0] T.size (fun gk p wr => ∃ (T' : PT) (vi' co' : Nat), T'.size = gk ∧ TIn S wr p T' ∧ T'.get key = T.get key ∧ vi' + T'.path key = vi + T.path key ∧ co' + T'.path key = co + T.path key ∧ MAt m wr vi' co' ∧ Kept m w wr)
  case atStart => exact ⟨T, vi, co, rfl, HT.out, rfl, rfl, rfl, HM.out, Kept.refl _ _⟩
  case round =>
    obtain ⟨T', vi', co', hgk, hT', hget, hvi, hco, hM', hkept⟩ := hrel
    cases T' with
    | nil =>
      obtain rfl := (show _ = Value.pointer none from hT')
      have HG : Hid (T.get key = none) := hget.symm
      have hvi2 : vi' = vi + T.path key := by simpa [PT.path] using hvi
      have hco2 : co' = co + T.path key := by simpa [PT.path] using hco
      have HM2 := Lib.hid hM'
      have HKP := Lib.hid hkept
      rw [hvi2, hco2] at HM2
      clear hget hvi hco hM' hkept hT' hvi2 hco2
      go_wp2_with fail
      go_ret2
      exact ⟨by rw [HG.out]; rfl, HKP.out, HM2.out⟩
    | node l k x r =>
      obtain ⟨b, kx, xv, lv, rv, rfl, hSb, hh, hk, hx, hl, hr⟩ := hT'
      have hlt := (Array.getElem?_eq_some_iff.1 hh).1
      obtain ⟨Ak, nk, ck, rfl⟩ := hk.slice
      obtain ⟨Ax, nx, cx, rfl⟩ := hx.slice
      obtain ⟨lu, rfl⟩ := hl.ptr
      obtain ⟨ru, rfl⟩ := hr.ptr
      have hpath : 1 ≤ (PT.node l k x r).path key := by unfold PT.path; omega
      have hvv := HV.out
      have hvis := visit_any m vi' co' wr hM' (by omega)
      rw [HMV.out] at hvis
      have HVIS := Lib.hid hvis
      have HL := Lib.hid hl
      have HR := Lib.hid hr
      have HKk := Lib.hid hk
      have HXx := Lib.hid hx
      have HH := Lib.hid hh
      have HKP := Lib.hid hkept
      have HGET := Lib.hid hget
      have HNUM := Lib.hid (And.intro hvi hco)
      have HGK := Lib.hid hgk
      have HP1 := Lib.hid hpath
      have hlen : l.size < gk ∧ r.size < gk := by rw [← hgk]; simp only [PT.size]; omega
      have HLEN := Lib.hid hlen
      clear hvis hl hr hk hx hh hkept hget hvi hco hgk hM' hlen hpath hvv
      go_wp2_with fail
      refine HVIS.out.mono ?_
      rintro e w2 ⟨rfl, hk2, hM2⟩
      have hkey2 := (HK.out.kept (HKP.out.trans hk2) hS')
      have hcmp := mcompare_any m (.slice A n c) (.slice Ak nk ck) key k (vi' + 1) co' w2 hM2 (by have := HNUM.out; have := HV.out; have := HP1.out; omega) hkey2 (HKk.out.kept hk2 hS) hS' hS
      rw [HMV.out] at hcmp
      have HCMP := Lib.hid hcmp
      have hh2 := (hk2.block b hlt (hS b hSb)).trans HH.out
      obtain ⟨c0, c1, c2, c3, _⟩ := node_cells hh2
      have HK2 := Lib.hid hk2
      clear hcmp hkey2 hM2 hk2
      go_wp2_with fail
      refine HCMP.out.mono ?_
      rintro e w3 ⟨rfl, hk3, hM3⟩
      have hh3 := (hk3.block b (Array.getElem?_eq_some_iff.1 hh2).1 (hS b hSb)).trans hh2
      clear c0 c1 c2 c3 hh2
      obtain ⟨c0, c1, c2, c3, _⟩ := node_cells hh3
      have HKT := Lib.hid (HK2.out.trans hk3)
      have HM3 := Lib.hid hM3
      clear hk3 hM3 hh3
      rcases cmp3 key k with hc | hc | hc
      · have hcl := clone_any (.slice Ax nx cx) x w3 (HXx.out.kept HKT.out hS)
        have HCL := Lib.hid hcl
        have hp : (PT.node l k x r).path key = 1 := by simp [PT.path, hc]
        have hg : (PT.node l k x r).get key = some x := by simp [PT.get, hc]
        have HP := Lib.hid hp
        have HG := Lib.hid hg
        clear hcl hp hg
        rw [hc]
        clear hc
        go_wp2_with fail
        refine HCL.out.mono ?_
        rintro e w4 ⟨A4, n4, c4, rfl, hB4, hb4⟩
        have HB4 := Lib.hid hB4
        have HM4 := Lib.hid (HM3.out.below hb4)
        have HKF := Lib.hid ((HKP.out.trans HKT.out).trans (Kept.of hb4))
        have HSZ := Lib.hid (HKP.out.trans HKT.out).size
        clear hB4 hb4
        go_wp2_with fail
        go_ret2
        refine ⟨?_, HKF.out, ?_⟩
        · rw [← HGET.out, HG.out]; exact ⟨_, rfl, HB4.out.imp fun b _ hb => Nat.le_trans HSZ.out hb⟩
        · have h1 := HNUM.out
          rw [HP.out] at h1
          rw [← h1.1, ← h1.2]; exact HM4.out
      · have hp : (PT.node l k x r).path key = 1 + r.path key := by simp [PT.path, hc]
        have hg : (PT.node l k x r).get key = r.get key := by simp [PT.get, hc]
        have HP := Lib.hid hp
        have HG := Lib.hid hg
        clear hp hg
        rw [hc]
        clear hc
        go_wp2_with fail
        go_roundg r.size
        case measure => exact HLEN.out.2
        case rel =>
          have h1 := HNUM.out
          rw [HP.out] at h1
          exact ⟨r, vi' + 1, co' + 1, rfl, HR.out.kept HKT.out hS, by rw [← HG.out]; exact HGET.out, by omega, by omega, HM3.out, HKP.out.trans HKT.out⟩
      · have hp : (PT.node l k x r).path key = 1 + l.path key := by simp [PT.path, hc]
        have hg : (PT.node l k x r).get key = l.get key := by simp [PT.get, hc]
        have HP := Lib.hid hp
        have HG := Lib.hid hg
        clear hp hg
        rw [hc]
        clear hc
        go_wp2_with fail
        go_roundg l.size
        case measure => exact HLEN.out.1
        case rel =>
          have h1 := HNUM.out
          rw [HP.out] at h1
          exact ⟨l, vi' + 1, co' + 1, rfl, HL.out.kept HKT.out hS, by rw [← HG.out]; exact HGET.out, by omega, by omega, HM3.out, HKP.out.trans HKT.out⟩

end Go.Proofs.YtphjaebkcimklaaGreatDoor
