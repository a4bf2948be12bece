/- The laws' made: the tree of some calls, and its model. -/
import Derived.Test.YtnfhbljhohjkhaaTPlays
import Derived.Test.YtnfhbljhohjkhaaTQuiet
set_option linter.unusedVariables false
set_option linter.unusedSimpArgs false
namespace Go.Proofs.Ytnfhbljhohjkhaa
open Go.RowKit

set_option maxRecDepth 100000 in
set_option maxHeartbeats 3200000 in
theorem made13_any (A : Option Addr) (n c : Nat) (L : List (Int × Bytes × Bytes)) (w : World) (h : Ops w A n L) (hf : FineL L 1000) :
    Calls Try.prog 17 #[.slice A n c] w fun e w' => ∃ u A' c' T, e = .returned (.tuple #[.pointer u, .slice A' T.list.length c']) ∧ Hid (Both w w' u A' c' T n) := by
  have HO := Lib.hid h
  have HFI := Lib.hid hf
  have hn80 : n ≤ 1000 := by have := hf.1; rw [h.len] at this; exact this
  clear h hf
  go_enter Try.func17, Try.ntmps17
  go_wp2_with fail
  go_loopw [4, 5, 10] (fun t x v wr => ∃ (j : Nat) (u A' : Option Addr) (c' : Nat) (T : PT), v = .int .i64 (j : Int) ∧ j ≤ n ∧ t = .pointer u ∧ x = .slice A' T.list.length c' ∧ Hid (Both w wr u A' c' T j)) (fun _ _ v _ => n - (intOf v).toNat)
  case atStart => exact ⟨0, none, none, 0, .nil, rfl, by omega, rfl, rfl, Lib.hid (Both.nil w _ (Below.refl _ _))⟩
  case round =>
    obtain ⟨j, u, A', c', T, rfl, hj, rfl, rfl, hI⟩ := hrel
    by_cases hlt : j < n
    · obtain ⟨b, o, rfl, hbl, hc⟩ := (HO.out.below hI.out.below).cell (by omega)
      obtain ⟨kv, xv, c0, c1, c2, hk, hx⟩ := hc j hlt
      have hmem : L.getD j (0, [], []) ∈ L := by
        have hjl : j < L.length := by rw [HO.out.len]; exact hlt
        rw [List.getD_eq_getElem?_getD, List.getElem?_eq_getElem hjl, Option.getD_some]; exact List.getElem_mem hjl
      have hfl := HFI.out.2 _ hmem
      obtain ⟨op, hop⟩ : ∃ op, (L.getD j (0, [], [])).1 = op := ⟨_, rfl⟩
      rw [hop] at c0
      have hOI : OIn (fun _ => True) wr (.agg #[.int .i64 op, kv, xv]) op (L.getD j (0, [], [])).2.1 (L.getD j (0, [], [])).2.2 := OIn.of hk hx hfl.1 hfl.2
      obtain ⟨Ak, nk, ck, rfl, _⟩ := hk
      obtain ⟨Ax, nx, cx, rfl, _⟩ := hx
      have hbx : Below wr.heap.size wr (wr.alloc (.cells #[.int .i64 op, .slice Ak nk ck, .slice Ax nx cx] 83)) := (Below.refl _ _).alloc (Nat.le_refl _) _
      have hI2 := hI.out.on hbx
      have hO2 := hOI.below hbx
      have HST := Lib.hid (step_both (S := fun _ => True) none 0 0 op (L.getD j (0, [], [])).2.1 (L.getD j (0, [], [])).2.2 w _ u A' c' j T _ hI2 hO2 (by omega) (by simp) (by simp) hI2.tin hI2.min hO2 (fun b e => by cases e) (by omega) (by have := T.height_le; have := hI.out.size; omega) (by have := T.height_le; have := hI.out.size; omega))
      have al : (0 : Int) ≤ (j : Int) := by omega
      have al3 : (j : Int) < (n : Int) := by omega
      clear hc hmem hfl hop hOI hbx hI2 hO2
      go_wp2_with fail
      refine HST.out.mono ?_
      rintro e w2 ⟨u', A2, c2, T', vi', co', rfl, hN⟩
      go_wp2_with fail
      go_roundw
      case rel => exact ⟨j + 1, u', A2, c2, T', by go_num, by omega, rfl, rfl, Lib.hid hN.out.1⟩
      case measure => simp [intOf]; omega
    · obtain rfl : j = n := by omega
      go_wp2_with fail
      go_ret2
      exact ⟨u, A', c', T, rfl, hI⟩

set_option maxRecDepth 100000 in
set_option maxHeartbeats 3200000 in
theorem made14_any (A : Option Addr) (n c : Nat) (L : List (Int × Bytes × Bytes)) (w : World) (h : Ops w A n L) (hf : FineL L 1000) :
    Calls Try.prog 31 #[.slice A n c] w fun e w' => ∃ u A' c' T, e = .returned (.tuple #[.pointer u, .slice A' T.list.length c']) ∧ Hid (Both w w' u A' c' T n) := by
  have HO := Lib.hid h
  have HFI := Lib.hid hf
  have hn80 : n ≤ 1000 := by have := hf.1; rw [h.len] at this; exact this
  clear h hf
  go_enter Try.func31, Try.ntmps31
  go_wp2_with fail
  go_loopw [4, 5, 10] (fun t x v wr => ∃ (j : Nat) (u A' : Option Addr) (c' : Nat) (T : PT), v = .int .i64 (j : Int) ∧ j ≤ n ∧ t = .pointer u ∧ x = .slice A' T.list.length c' ∧ Hid (Both w wr u A' c' T j)) (fun _ _ v _ => n - (intOf v).toNat)
  case atStart => exact ⟨0, none, none, 0, .nil, rfl, by omega, rfl, rfl, Lib.hid (Both.nil w _ (Below.refl _ _))⟩
  case round =>
    obtain ⟨j, u, A', c', T, rfl, hj, rfl, rfl, hI⟩ := hrel
    by_cases hlt : j < n
    · obtain ⟨b, o, rfl, hbl, hc⟩ := (HO.out.below hI.out.below).cell (by omega)
      obtain ⟨kv, xv, c0, c1, c2, hk, hx⟩ := hc j hlt
      have hmem : L.getD j (0, [], []) ∈ L := by
        have hjl : j < L.length := by rw [HO.out.len]; exact hlt
        rw [List.getD_eq_getElem?_getD, List.getElem?_eq_getElem hjl, Option.getD_some]; exact List.getElem_mem hjl
      have hfl := HFI.out.2 _ hmem
      obtain ⟨op, hop⟩ : ∃ op, (L.getD j (0, [], [])).1 = op := ⟨_, rfl⟩
      rw [hop] at c0
      have hOI : OIn (fun _ => True) wr (.agg #[.int .i64 op, kv, xv]) op (L.getD j (0, [], [])).2.1 (L.getD j (0, [], [])).2.2 := OIn.of hk hx hfl.1 hfl.2
      obtain ⟨Ak, nk, ck, rfl, _⟩ := hk
      obtain ⟨Ax, nx, cx, rfl, _⟩ := hx
      have hbx : Below wr.heap.size wr (wr.alloc (.cells #[.int .i64 op, .slice Ak nk ck, .slice Ax nx cx] 83)) := (Below.refl _ _).alloc (Nat.le_refl _) _
      have hI2 := hI.out.on hbx
      have hO2 := hOI.below hbx
      have HST := Lib.hid (step_both (S := fun _ => True) none 0 0 op (L.getD j (0, [], [])).2.1 (L.getD j (0, [], [])).2.2 w _ u A' c' j T _ hI2 hO2 (by omega) (by simp) (by simp) hI2.tin hI2.min hO2 (fun b e => by cases e) (by omega) (by have := T.height_le; have := hI.out.size; omega) (by have := T.height_le; have := hI.out.size; omega))
      have al : (0 : Int) ≤ (j : Int) := by omega
      have al3 : (j : Int) < (n : Int) := by omega
      clear hc hmem hfl hop hOI hbx hI2 hO2
      go_wp2_with fail
      refine HST.out.mono ?_
      rintro e w2 ⟨u', A2, c2, T', vi', co', rfl, hN⟩
      go_wp2_with fail
      go_roundw
      case rel => exact ⟨j + 1, u', A2, c2, T', by go_num, by omega, rfl, rfl, Lib.hid hN.out.1⟩
      case measure => simp [intOf]; omega
    · obtain rfl : j = n := by omega
      go_wp2_with fail
      go_ret2
      exact ⟨u, A', c', T, rfl, hI⟩

set_option maxRecDepth 100000 in
set_option maxHeartbeats 3200000 in
theorem made15_any (A : Option Addr) (n c : Nat) (L : List (Int × Bytes × Bytes)) (w : World) (h : Ops w A n L) (hf : FineL L 1000) :
    Calls Try.prog 42 #[.slice A n c] w fun e w' => ∃ u A' c' T, e = .returned (.tuple #[.pointer u, .slice A' T.list.length c']) ∧ Hid (Both w w' u A' c' T n) := by
  have HO := Lib.hid h
  have HFI := Lib.hid hf
  have hn80 : n ≤ 1000 := by have := hf.1; rw [h.len] at this; exact this
  clear h hf
  go_enter Try.func42, Try.ntmps42
  go_wp2_with fail
  go_loopw [4, 5, 10] (fun t x v wr => ∃ (j : Nat) (u A' : Option Addr) (c' : Nat) (T : PT), v = .int .i64 (j : Int) ∧ j ≤ n ∧ t = .pointer u ∧ x = .slice A' T.list.length c' ∧ Hid (Both w wr u A' c' T j)) (fun _ _ v _ => n - (intOf v).toNat)
  case atStart => exact ⟨0, none, none, 0, .nil, rfl, by omega, rfl, rfl, Lib.hid (Both.nil w _ (Below.refl _ _))⟩
  case round =>
    obtain ⟨j, u, A', c', T, rfl, hj, rfl, rfl, hI⟩ := hrel
    by_cases hlt : j < n
    · obtain ⟨b, o, rfl, hbl, hc⟩ := (HO.out.below hI.out.below).cell (by omega)
      obtain ⟨kv, xv, c0, c1, c2, hk, hx⟩ := hc j hlt
      have hmem : L.getD j (0, [], []) ∈ L := by
        have hjl : j < L.length := by rw [HO.out.len]; exact hlt
        rw [List.getD_eq_getElem?_getD, List.getElem?_eq_getElem hjl, Option.getD_some]; exact List.getElem_mem hjl
      have hfl := HFI.out.2 _ hmem
      obtain ⟨op, hop⟩ : ∃ op, (L.getD j (0, [], [])).1 = op := ⟨_, rfl⟩
      rw [hop] at c0
      have hOI : OIn (fun _ => True) wr (.agg #[.int .i64 op, kv, xv]) op (L.getD j (0, [], [])).2.1 (L.getD j (0, [], [])).2.2 := OIn.of hk hx hfl.1 hfl.2
      obtain ⟨Ak, nk, ck, rfl, _⟩ := hk
      obtain ⟨Ax, nx, cx, rfl, _⟩ := hx
      have hbx : Below wr.heap.size wr (wr.alloc (.cells #[.int .i64 op, .slice Ak nk ck, .slice Ax nx cx] 83)) := (Below.refl _ _).alloc (Nat.le_refl _) _
      have hI2 := hI.out.on hbx
      have hO2 := hOI.below hbx
      have HST := Lib.hid (step_both (S := fun _ => True) none 0 0 op (L.getD j (0, [], [])).2.1 (L.getD j (0, [], [])).2.2 w _ u A' c' j T _ hI2 hO2 (by omega) (by simp) (by simp) hI2.tin hI2.min hO2 (fun b e => by cases e) (by omega) (by have := T.height_le; have := hI.out.size; omega) (by have := T.height_le; have := hI.out.size; omega))
      have al : (0 : Int) ≤ (j : Int) := by omega
      have al3 : (j : Int) < (n : Int) := by omega
      clear hc hmem hfl hop hOI hbx hI2 hO2
      go_wp2_with fail
      refine HST.out.mono ?_
      rintro e w2 ⟨u', A2, c2, T', vi', co', rfl, hN⟩
      go_wp2_with fail
      go_roundw
      case rel => exact ⟨j + 1, u', A2, c2, T', by go_num, by omega, rfl, rfl, Lib.hid hN.out.1⟩
      case measure => simp [intOf]; omega
    · obtain rfl : j = n := by omega
      go_wp2_with fail
      go_ret2
      exact ⟨u, A', c', T, rfl, hI⟩

theorem BIn.empty {S : Nat → Prop} {w : World} {A : Option Addr} {n c : Nat} (h : BIn S w (.slice A n c) []) : n = 0 := by
  obtain ⟨A', n', c', e, _, hR, _⟩ := h
  cases e
  exact hR.len.symm

set_option maxHeartbeats 1600000 in
theorem isT_any {S S' : Nat → Prop} (T : PT) (v : Value) (A : Option Addr) (c : Nat) (M : Pairs) (w : World) (hT : TIn S w v T) (hev : T.even) (hasc : Asc T.list) (hM : MIn S' w A M.length M) (he : T.list = M) (hn : T.size ≤ 100000) :
    Calls Try.prog 20 #[v, .slice A M.length c] w fun e w' => e = .returned (.bool true) ∧ Below w.heap.size w w' := by
  subst he
  obtain ⟨tu, rfl⟩ := hT.ptr
  have HT := Lib.hid (fun W (h : Below w.heap.size w W) => hT.below h)
  have HM := Lib.hid (fun W (h : Below w.heap.size w W) => hM.below h)
  have HS := Lib.hid (sound_any T (.pointer tu) w hT hev hasc (by omega))
  have hsz := T.size_list
  have hsz2 : (T.size : Int) = (T.list.length : Int) := by omega
  have HLL := Lib.hid hsz
  clear hT hM hev hasc hsz
  go_enter Try.func20, Try.ntmps20
  go_wp2_with fail
  refine HS.out.mono ?_
  rintro e w1 ⟨rfl, hb1⟩
  have B1 := Lib.hid hb1
  clear hb1
  go_wp2_with fail
  refine (tsize_any T (.pointer tu) w1 (HT.out w1 B1.out)).mono ?_
  rintro e w2 ⟨rfl, rfl⟩
  go_wp2_with fail
  refine (list_any T (.pointer tu) w1 (HT.out w1 B1.out) (by omega)).mono ?_
  rintro e w3 ⟨A3, c3, rfl, _, hL3, hb3⟩
  rw [← HLL.out] at hL3
  have B3 : Hid (Below w.heap.size w w3) := B1.out.trans (hb3.mono B1.out.size)
  have HI := Lib.hid (mis_any T.list A3 A T.list.length c3 c w3 hL3 (HM.out w3 B3.out) (by have := HLL.out; omega))
  have hsz4 : T.size = T.list.length := HLL.out.symm
  clear hL3 hb3
  rw [← HLL.out]
  clear hsz2 hsz4
  go_wp2_with fail
  refine HI.out.mono ?_
  rintro e w4 ⟨rfl, q, rfl⟩
  go_wp2_with fail
  go_ret
  exact ⟨rfl, below_drewN B3.out q⟩

end Go.Proofs.Ytnfhbljhohjkhaa
