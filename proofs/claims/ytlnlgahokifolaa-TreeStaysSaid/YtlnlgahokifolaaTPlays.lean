/- The law TreePlays. -/
import Derived.Test.YtlnlgahokifolaaTAwake
set_option linter.unusedVariables false
set_option linter.unusedSimpArgs false
namespace Go.Proofs.Ytlnlgahokifolaa
open Go.RowKit

/-- A tree and a map, one to the other, on the way of a law. -/
structure Both (w W : World) (u : Option Addr) (A : Option Addr) (c : Nat) (T : PT) (n : Nat) : Prop where
  tin : TIn (fun _ => True) W (.pointer u) T
  min : MIn (fun _ => True) W A T.list.length T.list
  cap : T.list.length ≤ c
  even : T.even
  asc : Asc T.list
  keys : ∀ p ∈ T.list, p.1.length ≤ 100000
  size : T.size ≤ n
  below : Below w.heap.size w W
theorem Both.nil (w W : World) (h : Below w.heap.size w W) : Both w W none none 0 .nil 0 :=
  ⟨rfl, ⟨rfl, fun h => by simp [PT.list] at h⟩, by simp [PT.list], trivial, List.Pairwise.nil, by simp [PT.list], by simp [PT.size], h⟩
theorem Both.on {w W W' : World} {u A : Option Addr} {c n : Nat} {T : PT} (h : Both w W u A c T n) (hb : Below W.heap.size W W') : Both w W' u A c T n :=
  ⟨h.tin.below hb, h.min.below hb, h.cap, h.even, h.asc, h.keys, h.size, h.below.trans (hb.mono h.below.size)⟩

/-- One step of a law: the tree and the map stay one. -/
theorem step_both {S : Nat → Prop} (m : Option Nat) (vi co : Nat) (op : Int) (k x : Bytes) (w W : World) (u A : Option Addr) (c n : Nat) (T : PT) (ov : Value) (h : Both w W u A c T n) (hO : OIn (fun _ => True) W ov op k x) (hk : k.length ≤ 100000)
    (hm : ∀ b, m = some b → w.heap.size ≤ b) (hS : ∀ b, S b → m ≠ some b) (hT : TIn S W (.pointer u) T) (hM : MIn S W A T.list.length T.list) (hO' : OIn S W ov op k x) (hA : MAt m W vi co) (hn : n ≤ 1000) (hv : vi + T.height < 1000000) (hco : co + T.height < 1000000) :
    Calls Try.prog 15 #[.pointer u, .slice A T.list.length c, ov, mV m] W fun e W' => ∃ u' A' c' T' vi' co', e = .returned (.tuple #[.pointer u', .slice A' T'.list.length c', .bool true]) ∧ Hid (Both w W' u' A' c' T' (n + 1) ∧ Met m W W' vi co vi' co' 0 T.height ∧ (1 ≤ op → op ≤ 3 → 0 < T.size → vi < vi')) := by
  refine (step_any m hS T T.list (.pointer u) ov A c vi co op k x W hT hM h.cap hO' hk h.even h.asc h.asc h.keys hA (by have := h.size; omega) (by rw [PT.size_list]; have := h.size; omega) hv hco).mono ?_
  rintro e W' ⟨u', T', A', c', M', b, vi', co', rfl, hs, hb⟩
  have hM' := hs.same rfl
  subst hM'
  rw [hb rfl]
  refine ⟨u', A', c', T', vi', co', rfl, Lib.hid ⟨⟨hs.tin.imp (fun _ _ _ => trivial), hs.min.imp (fun _ _ _ => trivial), hs.cap, hs.even, hs.asc, hs.keys, by have := hs.ts; have := h.size; omega, ?_⟩, hs.met, hs.low⟩⟩
  have hk := hs.met.kept
  exact ⟨hk.os.trans h.below.os, hk.tape.trans h.below.tape, hk.output.trans h.below.output, Nat.le_trans h.below.size hk.size, fun b' hb' => (hk.block b' (Nat.lt_of_lt_of_le hb' h.below.size) (fun e => by have := hm b' e; omega)).trans (h.below.block b' hb')⟩

theorem OIn.of {w : World} {op : Int} {kv xv : Value} {k x : Bytes} (hk : BRaw w kv k) (hx : BRaw w xv x) (hk1 : k.length ≤ 100) (hx1 : x.length ≤ 100) : OIn (fun _ => True) w (.agg #[.int .i64 op, kv, xv]) op k x :=
  ⟨kv, xv, rfl, hk.fine (by omega), hx.fine (by omega)⟩
theorem OIn.below {S : Nat → Prop} {w w1 : World} {v : Value} {op : Int} {k x : Bytes} (h : OIn S w v op k x) (hb : Below w.heap.size w w1) : OIn S w1 v op k x := by
  obtain ⟨kv, xv, e, h1, h2⟩ := h
  exact ⟨kv, xv, e, h1.below hb, h2.below hb⟩

set_option maxRecDepth 100000 in
set_option maxHeartbeats 12800000 in
theorem plays_any (A : Option Addr) (n c : Nat) (L : List (Int × Bytes × Bytes)) (w : World) (h : Ops w A n L) :
    Calls Try.prog 3 #[.slice A n c] w fun e w' => e = .returned (.bool true) ∧ Below w.heap.size w w' := by
  have HO := Lib.hid h
  have HF := Lib.hid (fine_any A n c L 80 w h (by omega))
  clear h
  go_enter Try.func3, Try.ntmps3
  go_wp2_with fail
  refine HF.out.mono ?_
  rintro e w1 ⟨r, rfl, hr, hb1⟩
  have HB1 := Lib.hid hb1
  clear hb1
  cases r with
  | false =>
    clear hr
    go_wp2_with fail
    refine (awake_any w1).mono ?_
    rintro e w2 ⟨rfl, hb2⟩
    have HB2 : Hid (Below w.heap.size w w2) := HB1.out.trans (hb2.mono HB1.out.size)
    clear hb2
    go_wp2_with fail
    go_ret
    exact ⟨rfl, HB2.out⟩
  | true =>
    have HFI := Lib.hid (hr rfl)
    have hn80 : n ≤ 80 := by have := (hr rfl).1; rw [HO.out.len] at this; exact this
    clear hr
    go_wp2_with fail
    go_loopw [3, 4, 14] (fun t x v wr => ∃ (j : Nat) (u A' : Option Addr) (c' : Nat) (T : PT), v = .int .i64 (j : Int) ∧ j ≤ n ∧ t = .pointer u ∧ x = .slice A' T.list.length c' ∧ Hid (Both w wr u A' c' T j)) (fun _ _ v _ => n - (intOf v).toNat)
    case atStart => exact ⟨0, none, none, 0, .nil, rfl, by omega, rfl, rfl, Lib.hid (Both.nil w _ HB1.out)⟩
    case round =>
      obtain ⟨j, u, A', c', T, rfl, hj, rfl, rfl, hI⟩ := hrel
      by_cases hlt : j < n
      · obtain ⟨b, o, rfl, hbl, hc⟩ := (HO.out.below hI.out.below).cell (by omega)
        obtain ⟨kv, xv, c0, c1, c2, hk, hx⟩ := hc j hlt
        have hmem : L.getD j (0, [], []) ∈ L := by
          have hjl : j < L.length := by rw [HO.out.len]; exact hlt
          rw [List.getD_eq_getElem?_getD, List.getElem?_eq_getElem hjl, Option.getD_some]; exact List.getElem_mem hjl
        have hfl := HFI.out.2 _ hmem
        obtain ⟨op, hop⟩ : ∃ op, (L.getD j (0, [], [])).1 = op := ⟨_, rfl⟩
        rw [hop] at c0
        have hOI : OIn (fun _ => True) wr (.agg #[.int .i64 op, kv, xv]) op (L.getD j (0, [], [])).2.1 (L.getD j (0, [], [])).2.2 := OIn.of hk hx hfl.1 hfl.2
        obtain ⟨Ak, nk, ck, rfl, _⟩ := hk
        obtain ⟨Ax, nx, cx, rfl, _⟩ := hx
        have hbx : Below wr.heap.size wr (wr.alloc (.cells #[.int .i64 op, .slice Ak nk ck, .slice Ax nx cx] 29)) := (Below.refl _ _).alloc (Nat.le_refl _) _
        have hI2 := hI.out.on hbx
        have hO2 := hOI.below hbx
        have HST := Lib.hid (step_both (S := fun _ => True) none 0 0 op (L.getD j (0, [], [])).2.1 (L.getD j (0, [], [])).2.2 w _ u A' c' j T _ hI2 hO2 (by omega) (by simp) (by simp) hI2.tin hI2.min hO2 (fun b e => by cases e) (by omega) (by have := T.height_le; have := hI.out.size; omega) (by have := T.height_le; have := hI.out.size; omega))
        have al : (0 : Int) ≤ (j : Int) := by omega
        have al3 : (j : Int) < (n : Int) := by omega
        clear hc hmem hfl hop hOI hbx hI2 hO2
        go_wp2_with fail
        refine HST.out.mono ?_
        rintro e w2 ⟨u', A2, c2, T', vi', co', rfl, hN⟩
        go_wp2_with fail
        refine (list_any T' (.pointer u') w2 hN.out.1.tin (by have := hN.out.1.size; omega)).mono ?_
        rintro e w3 ⟨A3, c3, rfl, hc3, hL3, hb3⟩
        have HI3 := Lib.hid (hN.out.1.on hb3)
        have hL3' : LIn (New w2.heap.size) w3 A3 T'.list.length T'.list := by rw [PT.size_list]; exact hL3
        have HIS := Lib.hid (mis_any T'.list A3 A2 T'.list.length c3 c2 w3 hL3' HI3.out.min (by rw [PT.size_list]; have := HI3.out.size; omega))
        rw [← PT.size_list]
        clear hc3 hL3 hL3' hb3
        go_wp2_with fail
        refine HIS.out.mono ?_
        rintro e w4 ⟨rfl, q, rfl⟩
        go_wp2_with fail
        go_roundw
        case rel => exact ⟨j + 1, u', A2, c2, T', by go_num, by omega, rfl, rfl, Lib.hid (HI3.out.on (below_drewN' q))⟩
        case measure => simp [intOf]; omega
      · go_wp2_with fail
        refine (awake_any wr).mono ?_
        rintro e w2 ⟨rfl, hb2⟩
        have HB2 : Hid (Below w.heap.size w w2) := hI.out.below.trans (hb2.mono hI.out.below.size)
        clear hb2
        go_wp2_with fail
        go_ret
        exact ⟨rfl, HB2.out⟩

end Go.Proofs.Ytlnlgahokifolaa
