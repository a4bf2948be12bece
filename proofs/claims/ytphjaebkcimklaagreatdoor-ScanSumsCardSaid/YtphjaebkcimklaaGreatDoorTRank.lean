/- The package rank: below, Rank, At, Min, Max, Floor, Ceil. -/
import Derived.Test.YtphjaebkcimklaaGreatDoorTOpen
set_option linter.unusedVariables false
set_option linter.unusedSimpArgs false
namespace Go.Proofs.YtphjaebkcimklaaGreatDoor
open Go.RowKit

/-- The keys' box, as a closure holds it. -/
def KBox (W : World) (g : Nat) (v : Value) : Prop := W.heap[g]? = some (.cells #[v] 23 (0, 0))
theorem KBox.below {W W' : World} {g n : Nat} {v : Value} (h : KBox W g v) (hb : Below n W W') (hn : g < n) : KBox W' g v := (hb.block g hn).trans h
theorem KBox.cell {W : World} {g : Nat} {v : Value} (h : KBox W g v) : W.cell? ⟨g, 0, none⟩ = some v := by
  have := cell_of_row W g 0 _ _ _ h
  simpa using this

theorem rank1_any {S S' : Nat → Prop} (g : Nat) (kv key : Value) (k key' : Bytes) (w : World) (hg : KBox w g key) (hk : BIn S w kv k) (hkey : BIn S' w key key') :
    Calls Tryz.prog 83 #[kv, .pointer (some ⟨g, 0, none⟩)] w fun e w' => e = .returned (.bool (decide (cmp k key' = -1))) ∧ w = w' := by
  obtain ⟨A, n, c, rfl⟩ := hk.slice
  obtain ⟨A', n', c', rfl⟩ := hkey.slice
  have HC := Lib.hid (compare_any (.slice A n c) (.slice A' n' c') k key' w hk hkey)
  have c0 := hg.cell
  have HQ := cmp3 k key'
  clear hg hk hkey
  go_enter Tryz.func83, Tryz.ntmps83
  go_wp2_with fail
  refine HC.out.mono ?_
  rintro e w1 ⟨rfl, rfl⟩
  rcases HQ with h | h | h <;> rw [h] <;> (have h' : cmp k key' = _ := h; clear h; go_wp2_with fail; go_ret; exact ⟨by rw [h']; rfl, rfl⟩)

theorem fld39 (W : World) (A A' : Option Addr) (n n' c c' : Nat) : (Instr.field 60 (.agg #[.slice A n c, .slice A' n' c']) 0).run Tryz.prog W = .ok (.slice A n c) W := by kernel_rfl

namespace PT
/-- How many pairs the walk of below counts. -/
def belowT : PT → (Bytes → Bool) → Nat
  | nil, _ => 0
  | node l k _ r, p => if p k = true then l.size + 1 + r.belowT p else l.belowT p
theorem belowT_le : ∀ (T : PT) (p : Bytes → Bool), T.belowT p ≤ T.size
  | nil, _ => Nat.le_refl _
  | node l k x r, p => by
    have h1 := l.belowT_le p
    have h2 := r.belowT_le p
    simp only [belowT, size]
    split <;> omega
end PT

set_option maxRecDepth 100000 in
set_option maxHeartbeats 6400000 in
theorem below67_any {S : Nat → Prop} (g : Nat) (key : Value) (p : Bytes → Bool) (T : PT) (v : Value) (w : World) (hT : TIn S w v T) (hn : T.size ≤ 1000000)
    (hF : ∀ (W : World) (kv : Value) (k : Bytes), Below w.heap.size w W → BIn (fun _ => True) W kv k → Calls Tryz.prog 83 #[kv, .pointer (some ⟨g, 0, none⟩)] W fun e w' => e = .returned (.bool (p k)) ∧ W = w') :
    Calls Tryz.prog 69 #[v, .func (.func 83) #[] #[.pointer (some ⟨g, 0, none⟩)]] w fun e w' => e = .returned (.int .i64 (T.belowT p : Int)) ∧ Below w.heap.size w w' := by
  obtain ⟨tu, rfl⟩ := hT.ptr
  have HT := Lib.hid hT
  have HF := Lib.hid hF
  clear hT hF
  go_enter Tryz.func69, Tryz.ntmps69
  go_wp2_with fail
  go_loopg [0, 5] T.size (fun gk q m wr => ∃ (T' : PT) (k : Nat), T'.size = gk ∧ Hid (TIn S wr q T') ∧ m = .int .i64 (k : Int) ∧ k + T'.belowT p = T.belowT p ∧ k + T'.size ≤ T.size ∧ Hid (Below w.heap.size w wr))
  case atStart => exact ⟨T, 0, rfl, HT, rfl, by omega, by omega, Lib.hid (Below.refl _ _)⟩
  case round =>
    obtain ⟨T', k, hgk, hT', rfl, hb, hs, hB⟩ := hrel
    cases T' with
    | nil =>
      obtain rfl := (show _ = Value.pointer none from hT'.out)
      have hk : k = T.belowT p := by simpa [PT.belowT] using hb
      subst hk
      go_wp2_with fail
      go_ret
      exact ⟨rfl, hB.out⟩
    | node l ky x r =>
      obtain ⟨pu, hpu⟩ := hT'.out.ptr
      have hne : ∃ a, pu = some a := by obtain ⟨b', _, _, _, _, e, _⟩ := hT'.out; rw [hpu] at e; cases e; exact ⟨_, rfl⟩
      obtain ⟨pa, rfl⟩ := hne
      subst hpu
      have HRT := Lib.hid (root_any (.pointer (some pa)) (.node l ky x r) _ hT'.out)
      have hb1 : 1 ≤ (PT.node l ky x r).size := by simp only [PT.size]; omega
      go_wp2_with fail
      refine HRT.out.mono ?_
      rintro e w2 ⟨u, rfl, hu, hb2⟩
      obtain ⟨kv, xv, rfl, hkv, hxv⟩ := hu
      have HB2 : Hid (Below w.heap.size w w2) := hB.out.trans (hb2.mono hB.out.size)
      have HT2 : Hid (TIn S w2 (.pointer (some pa)) (.node l ky x r)) := hT'.out.below hb2
      have HCL := Lib.hid (HF.out w2 kv ky HB2.out (hkv.imp fun _ _ _ => trivial))
      obtain ⟨Ak, nk, ck, rfl⟩ := hkv.slice
      obtain ⟨Ax, nx, cx, rfl⟩ := hxv.slice
      have hfld := fun W => fld39 W Ak Ax nk nx ck cx
      have HL := Lib.hid (left_any (.node l ky x r) (.pointer (some pa)) w2 HT2.out)
      have HR := Lib.hid (right_any (.node l ky x r) (.pointer (some pa)) w2 HT2.out)
      clear hb2 hkv hxv
      cases hp : p ky
      · rw [hp] at HCL
        have hbb : k + l.belowT p = T.belowT p := by rw [PT.belowT, hp] at hb; simpa using hb
        have HP := Lib.hid hp
        have HBB := Lib.hid hbb
        have HGK := Lib.hid hgk
        have HS := Lib.hid hs
        clear hp hbb hb hgk
        go_wp2_with fail
        refine HCL.out.mono ?_
        rintro e w3 ⟨rfl, rfl⟩
        go_wp2_with fail
        refine HL.out.mono ?_
        rintro e w3 ⟨lu, rfl, hlu, rfl⟩
        have HLU := Lib.hid hlu
        clear hlu
        go_wp2_with fail
        go_roundg l.size
        case rel => exact ⟨l, k, rfl, HLU, rfl, HBB.out, by have := HS.out; simp only [PT.size] at this; omega, HB2⟩
        case measure => rw [← HGK.out]; simp only [PT.size]; omega
      · rw [hp] at HCL
        have hbb : k + (l.size + 1) + r.belowT p = T.belowT p := by rw [PT.belowT, hp] at hb; simp at hb; omega
        have HBB := Lib.hid hbb
        have HGK := Lib.hid hgk
        have hs2 : k + (l.size + 1 + r.size) ≤ T.size := hs
        clear hp hbb hb hgk hs
        go_wp2_with fail
        refine HCL.out.mono ?_
        rintro e w3 ⟨rfl, rfl⟩
        go_wp2_with fail
        refine HL.out.mono ?_
        rintro e w3 ⟨lu, rfl, hlu, rfl⟩
        have HLU := Lib.hid (tsize_any l lu w2 hlu)
        obtain ⟨lu', rfl⟩ := hlu.ptr
        clear hlu
        go_wp2_with fail
        refine HLU.out.mono ?_
        rintro e w3 ⟨rfl, rfl⟩
        go_wp2_with fail
        refine HR.out.mono ?_
        rintro e w3 ⟨ru, rfl, hru, rfl⟩
        have HRU := Lib.hid hru
        clear hru
        go_wp2_with fail
        go_roundg r.size
        case rel => exact ⟨r, k + (l.size + 1), rfl, HRU, by go_num, HBB.out, by omega, HB2⟩
        case measure => rw [← HGK.out]; simp only [PT.size]; omega

set_option maxHeartbeats 3200000 in
theorem rank_any {S S' : Nat → Prop} (T : PT) (v kv : Value) (key : Bytes) (w : World) (hT : TIn S w v T) (hk : BIn S' w kv key) (hn : T.size ≤ 1000000) :
    Calls Tryz.prog 67 #[v, kv] w fun e w' => e = .returned (.int .i64 (T.belowT (fun k => decide (cmp k key = -1)) : Int)) ∧ Below w.heap.size w w' := by
  obtain ⟨tu, rfl⟩ := hT.ptr
  obtain ⟨A, n, c, rfl⟩ := hk.slice
  have hB := (Below.refl _ w).alloc (Nat.le_refl _) (.cells #[.slice A n c] 23)
  have hbox : KBox (w.alloc (.cells #[.slice A n c] 23)) w.heap.size (.slice A n c) := heap_new w _
  have hX : (w.alloc (.cells #[.slice A n c] 23)).heap.size = w.heap.size + 1 := by simp
  have hbl := below67_any (S := S) w.heap.size (.slice A n c) (fun k => decide (cmp k key = -1)) T (.pointer tu) (w.alloc (.cells #[.slice A n c] 23)) (hT.below hB) hn
    (fun W kv' k hW hk' => rank1_any w.heap.size kv' (.slice A n c) k key W (hbox.below hW (by omega)) hk' ((hk.below hB).below hW))
  have HBL := Lib.hid hbl
  have HB := Lib.hid hB
  clear hbl hB hbox hT hk hX
  go_enter Tryz.func67, Tryz.ntmps67
  go_wp2_with fail
  refine HBL.out.mono ?_
  rintro e w2 ⟨rfl, hb2⟩
  have HB2 : Hid (Below w.heap.size w w2) := HB.out.trans (hb2.mono HB.out.size)
  clear hb2
  go_wp2_with fail
  go_ret
  exact ⟨rfl, HB2.out⟩

theorem below_plain : ∀ (T : PT) (p : Bytes → Bool), Asc T.list → (∀ a b, cmp a b = -1 → p b = true → p a = true) → T.belowT p = T.list.countP (fun q => p q.1)
  | .nil, _, _, _ => rfl
  | .node l k x r, p, h, hp => by
    obtain ⟨hl, hr, h1, h2⟩ := node_asc h
    have ihl := below_plain l p hl hp
    have ihr := below_plain r p hr hp
    simp only [PT.belowT, PT.list]
    rw [List.countP_append, List.countP_cons]
    by_cases hk : p k = true
    · rw [if_pos hk, if_pos hk, ihr]
      have : l.list.countP (fun q => p q.1) = l.list.length := List.countP_eq_length.2 fun q hq => hp _ _ (h1 q hq) hk
      rw [this, PT.size_list]; omega
    · rw [if_neg hk, if_neg hk, ihl]
      have : r.list.countP (fun q => p q.1) = 0 := by
        rw [List.countP_eq_zero]
        intro q hq hpq
        exact hk (hp _ _ (h2 q hq) hpq)
      rw [this]; omega

/-- What At tells. -/
def AtR (w w' : World) (e : Ending) (L : Pairs) (i : Int) : Prop :=
  ∃ A n c A' n' c', e = .returned (.tuple #[.agg #[.slice A n c, .slice A' n' c'], .bool (decide (0 ≤ i ∧ i < (L.length : Int)))]) ∧
    PIn (New w.heap.size) w' (.agg #[.slice A n c, .slice A' n' c']) (if 0 ≤ i ∧ i < (L.length : Int) then L.getD i.toNat ([], []) else ([], [])).1 (if 0 ≤ i ∧ i < (L.length : Int) then L.getD i.toNat ([], []) else ([], [])).2 ∧ Below w.heap.size w w'

theorem at_none {w W : World} (L : Pairs) (i : Int) (h : ¬ (0 ≤ i ∧ i < (L.length : Int))) (hb : Below w.heap.size w W) : AtR w W (.returned (.tuple #[.agg #[.slice none 0 0, .slice none 0 0], .bool false])) L i := by
  refine ⟨none, 0, 0, none, 0, 0, ?_, ?_, hb⟩
  · rw [decide_eq_false h]
  · rw [if_neg h]; exact ⟨_, _, rfl, BIn.nil _ _, BIn.nil _ _⟩
theorem list_at {l r : PT} {k x : Bytes} {i : Nat} :
    (i < l.size → (PT.node l k x r).list.getD i ([], []) = l.list.getD i ([], [])) ∧ (i = l.size → (PT.node l k x r).list.getD i ([], []) = (k, x)) ∧ (l.size < i → (PT.node l k x r).list.getD i ([], []) = r.list.getD (i - l.size - 1) ([], [])) := by
  simp only [PT.list, List.getD_eq_getElem?_getD]
  refine ⟨fun h => ?_, fun h => ?_, fun h => ?_⟩
  · rw [List.getElem?_append_left (by rw [PT.size_list]; exact h)]
  · subst h
    rw [List.getElem?_append_right (by rw [PT.size_list]; exact Nat.le_refl _), PT.size_list]; simp
  · rw [List.getElem?_append_right (by rw [PT.size_list]; omega), PT.size_list, show i - l.size = (i - l.size - 1) + 1 by omega]; simp

set_option maxRecDepth 100000 in
set_option maxHeartbeats 6400000 in
theorem at_any {S : Nat → Prop} (T : PT) (v : Value) (i : Int) (w : World) (hT : TIn S w v T) (hn : T.size ≤ 1000000) (hi : (Lit.int .i64 i).wf = true) :
    Calls Tryz.prog 68 #[v, .int .i64 i] w fun e w' => AtR w w' e T.list i := by
  obtain ⟨tu, rfl⟩ := hT.ptr
  have hbi := bounds_i64 hi
  have hB := (Below.refl _ w).alloc (Nat.le_refl _) (.cells #[.slice none 0 0, .slice none 0 0] 60)
  have hbox : Two (w.alloc (.cells #[.slice none 0 0, .slice none 0 0] 60)) w.heap.size (.slice none 0 0) (.slice none 0 0) := heap_new w _
  have HX : Hid ((w.alloc (.cells #[.slice none 0 0, .slice none 0 0] 60)).heap.size = w.heap.size + 1) := (by simp : (w.alloc (.cells #[.slice none 0 0, .slice none 0 0] 60)).heap.size = w.heap.size + 1)
  have HB := Lib.hid hB
  have HT := Lib.hid (hT.below hB)
  have HSZ := Lib.hid (tsize_any T (.pointer tu) _ (hT.below hB))
  have HBX := Lib.hid hbox
  have HLL := Lib.hid T.size_list
  clear hB hbox hT
  by_cases hin : 0 ≤ i ∧ i < (T.size : Int)
  · obtain ⟨h0, h1⟩ := hin
    have h0' : ¬ i < 0 := by omega
    have h1' : ¬ (T.size : Int) ≤ i := by omega
    obtain ⟨j, hj⟩ : ∃ j : Nat, i = (j : Int) := ⟨i.toNat, by omega⟩
    subst hj
    have hjs : j < T.size := by omega
    have HJ := Lib.hid hjs
    have h1n : ¬ T.size ≤ j := by omega
    have HINW := Lib.hid (And.intro h0 h1)
    go_enter Tryz.func68, Tryz.ntmps68
    go_wp2_with fail
    generalize w.alloc (.cells #[.slice none 0 0, .slice none 0 0] 60) = X at *
    refine HSZ.out.mono ?_
    rintro e w1 ⟨rfl, rfl⟩
    clear h0 h1
    go_wp2_with fail
    go_loopg [0, 1] T.size (fun gk q m wr => ∃ (T' : PT) (k : Nat), T'.size = gk ∧ Hid (TIn S wr q T') ∧ m = .int .i64 (k : Int) ∧ k < T'.size ∧ Hid (T'.list.getD k ([], []) = T.list.getD j ([], [])) ∧ Hid (Two wr w.heap.size (.slice none 0 0) (.slice none 0 0)) ∧ Hid (Below w.heap.size w wr) ∧ w.heap.size < wr.heap.size ∧ T'.size ≤ T.size)
    case atStart => exact ⟨T, j, rfl, HT, rfl, HJ.out, Lib.hid rfl, HBX, HB, by have := HX.out; omega, Nat.le_refl _⟩
    case round =>
      obtain ⟨T', k, hgk, hT', rfl, hk, hget, hbx, hB, hws, hle⟩ := hrel
      cases T' with
      | nil => simp [PT.size] at hk
      | node l ky x r =>
        obtain ⟨pu, hpu⟩ := hT'.out.ptr
        subst hpu
        have HL := Lib.hid (left_any (.node l ky x r) (.pointer pu) _ hT'.out)
        have HR := Lib.hid (right_any (.node l ky x r) (.pointer pu) _ hT'.out)
        have HRT := Lib.hid (root_any (.pointer pu) (.node l ky x r) _ hT'.out)
        have hla := list_at (l := l) (r := r) (k := ky) (x := x) (i := k)
        have HLA := Lib.hid hla
        have HGK := Lib.hid hgk
        simp only [PT.size] at hk hle
        clear hgk hla
        go_wp2_with fail
        refine HL.out.mono ?_
        rintro e w3 ⟨lu, rfl, hlu, rfl⟩
        obtain ⟨lu', rfl⟩ := hlu.ptr
        have HLS := Lib.hid (tsize_any l (.pointer lu') _ hlu)
        have HLU := Lib.hid hlu
        clear hlu
        go_wp2_with fail
        refine HLS.out.mono ?_
        rintro e w3 ⟨rfl, rfl⟩
        by_cases hlt : (k : Int) < (l.size : Int)
        · go_wp2_with fail
          refine HL.out.mono ?_
          rintro e w3 ⟨lu2, rfl, hlu2, rfl⟩
          have HLU2 := Lib.hid hlu2
          clear hlu2
          go_wp2_with fail
          go_roundg l.size
          case rel => exact ⟨l, k, rfl, HLU2, rfl, by omega, Lib.hid ((HLA.out.1 (by omega)).symm.trans hget.out), hbx, hB, hws, by omega⟩
          case measure => rw [← HGK.out]; simp only [PT.size]; omega
        · by_cases hgt : (l.size : Int) < (k : Int)
          · go_wp2_with fail
            refine HR.out.mono ?_
            rintro e w3 ⟨ru, rfl, hru, rfl⟩
            have HRU := Lib.hid hru
            clear hru
            go_wp2_with fail
            go_roundg r.size
            case rel => exact ⟨r, k - l.size - 1, rfl, HRU, by go_num, by omega, Lib.hid ((HLA.out.2.2 (by omega)).symm.trans hget.out), hbx, hB, hws, by omega⟩
            case measure => rw [← HGK.out]; simp only [PT.size]; omega
          · have HKE : Hid ((ky, x) = T.list.getD j ([], [])) := ((HLA.out.2.1 (by omega)).symm.trans hget.out)
            go_wp2_with fail
            refine HRT.out.mono ?_
            rintro e w3 ⟨u, rfl, hu, hb3⟩
            obtain ⟨kv, xv, rfl, hkv, hxv⟩ := hu
            obtain ⟨Ak, nk, ck, rfl⟩ := hkv.slice
            obtain ⟨Ax, nx, cx, rfl⟩ := hxv.slice
            have HB3 : Hid (Below w.heap.size w w3) := hB.out.trans (hb3.mono hB.out.size)
            have HX3 : Hid (Two w3 w.heap.size (.slice none 0 0) (.slice none 0 0)) := hbx.out.below hb3 hws
            have HU3 := Lib.hid (And.intro hkv hxv)
            obtain ⟨z0, z1⟩ := HX3.out.cells
            have f0 := frozen_of_row _ _ 0 _ _ HX3.out
            have f1 := frozen_of_row _ _ 1 _ _ HX3.out
            clear hkv hxv hb3
            go_wp2_with fail
            try simp only [Exit.inBlock, Exit.then]
            refine bodyPost_ret (results_two rfl _ _ w.heap.size _ _ (by rfl) (Two.set HX3.out _ _)) rfl ?_
            have hd : (0 ≤ (j : Int) ∧ (j : Int) < (T.list.length : Int)) := by rw [HLL.out]; have := HJ.out; omega
            refine ⟨Ak, nk, ck, Ax, nx, cx, ?_, ?_, (HB3.out.setCell (p := ⟨w.heap.size, 0, none⟩) (Nat.le_refl _) _).setCell (p := ⟨w.heap.size, 1, none⟩) (Nat.le_refl _) _⟩
            · rw [decide_eq_true hd]; rfl
            · rw [if_pos hd, Int.toNat_natCast, ← HKE.out]
              exact ⟨_, _, rfl, (BIn.set2 (b := w.heap.size) HU3.out.1 hws _ _).imp (fun b _ hb => Nat.le_trans (Nat.le_of_lt hws) hb), (BIn.set2 (b := w.heap.size) HU3.out.2 hws _ _).imp (fun b _ hb => Nat.le_trans (Nat.le_of_lt hws) hb)⟩
  · have hd : ¬ (0 ≤ i ∧ i < (T.list.length : Int)) := by rw [HLL.out]; exact hin
    have HD := Lib.hid hd
    obtain ⟨z0, z1⟩ := HBX.out.cells
    have f0 := frozen_of_row _ _ 0 _ _ HBX.out
    have f1 := frozen_of_row _ _ 1 _ _ HBX.out
    have HFIN := Lib.hid (at_none T.list i hd HB.out)
    by_cases h0 : i < 0
    · clear hd hin
      go_enter Tryz.func68, Tryz.ntmps68
      go_wp2_with fail
      try simp only [Exit.inBlock, Exit.then]
      refine bodyPost_ret (results_two rfl _ _ w.heap.size _ _ (by rfl) HBX.out) rfl ?_
      exact HFIN.out
    · have h1 : (T.size : Int) ≤ i := by omega
      clear hd hin
      go_enter Tryz.func68, Tryz.ntmps68
      go_wp2_with fail
      refine HSZ.out.mono ?_
      rintro e w1 ⟨rfl, rfl⟩
      go_wp2_with fail
      try simp only [Exit.inBlock, Exit.then]
      refine bodyPost_ret (results_two rfl _ _ w.heap.size _ _ (by rfl) HBX.out) rfl ?_
      exact HFIN.out

end Go.Proofs.YtphjaebkcimklaaGreatDoor
