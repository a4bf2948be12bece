/- The law TreeMeters. -/
import Derived.Test.YtlnlgahokifolaaTPlays
set_option linter.unusedVariables false
set_option linter.unusedSimpArgs false
namespace Go.Proofs.Ytlnlgahokifolaa
open Go.RowKit

set_option maxHeartbeats 3200000 in
theorem visits_any (v n : Nat) (w : World) (hn : n ≤ 1000) (hv : v ≤ 1000000) (h : v ≤ 2 ∨ 2 ^ (v - 2) ≤ (n + 1) * (n + 1) * (n + 1)) :
    Calls Try.prog 20 #[.int .i64 (v : Int), .int .i64 (n : Int)] w fun e w' => e = .returned (.bool true) ∧ w = w' := by
  by_cases hv2 : v ≤ 2
  · have hv3 : (v : Int) ≤ 2 := by omega
    go_enter Try.func20, Try.ntmps20
    go_wp2_with fail
    go_ret
    exact ⟨rfl, rfl⟩
  · have hv3 : ¬ (v : Int) ≤ 2 := by omega
    have hB : 2 ^ (v - 2) ≤ (n + 1) * (n + 1) * (n + 1) := by rcases h with h | h; exact absurd h hv2; exact h
    have hB1 : (n + 1) * (n + 1) ≤ 1001 * 1001 := Nat.mul_le_mul (by omega) (by omega)
    have hB2 : (n + 1) * (n + 1) * (n + 1) ≤ 1001 * 1001 * 1001 := Nat.mul_le_mul hB1 (by omega)
    have m1 : ((n : Int) + 1) * ((n : Int) + 1) = (((n + 1) * (n + 1) : Nat) : Int) := by simp
    have m2 : (((n + 1) * (n + 1) : Nat) : Int) * ((n : Int) + 1) = (((n + 1) * (n + 1) * (n + 1) : Nat) : Int) := by simp
    have HB := Lib.hid hB
    generalize (n + 1) * (n + 1) * (n + 1) = B at *
    generalize (n + 1) * (n + 1) = B1 at *
    clear hB h
    go_enter Try.func20, Try.ntmps20
    go_wp2_with fail
    go_loop [6, 7] (fun p i => ∃ k : Nat, 2 ≤ k ∧ k ≤ v ∧ p = .int .i64 ((2 ^ (k - 2) : Nat) : Int) ∧ i = .int .i64 (k : Int)) (fun _ i => v - (intOf i).toNat)
    case atStart => exact ⟨2, by omega, by omega, rfl, rfl⟩
    case round =>
      obtain ⟨k, hk2, hkv, rfl, rfl⟩ := hrel
      by_cases hlt : k < v
      · have hp : 2 ^ (k + 1 - 2) ≤ 2 ^ (v - 2) := Nat.pow_le_pow_right (by omega) (by omega)
        have hp2 : 2 ^ (k + 1 - 2) = 2 ^ (k - 2) * 2 := by rw [show k + 1 - 2 = (k - 2) + 1 by omega, Nat.pow_succ]
        have hb := HB.out
        have HP := Lib.hid hp2
        rw [hp2] at hp
        generalize 2 ^ (k - 2) = P at *
        generalize 2 ^ (v - 2) = Q at *
        clear hp2
        go_wp2_with fail
        go_round
        case rel => exact ⟨k + 1, by omega, by omega, by rw [HP.out]; go_num, by go_num⟩
        case measure => simp [intOf]; omega
      · go_wp2_with fail
        go_ret
        exact ⟨rfl, rfl⟩

theorem OIn.imp {S S' : Nat → Prop} {w : World} {v : Value} {op : Int} {k x : Bytes} (h : OIn S w v op k x) (hS : ∀ b, b < w.heap.size → S b → S' b) : OIn S' w v op k x := by
  obtain ⟨kv, xv, e, h1, h2⟩ := h
  exact ⟨kv, xv, e, h1.imp hS, h2.imp hS⟩

set_option maxRecDepth 100000 in
set_option maxHeartbeats 12800000 in
theorem meters_any (A : Option Addr) (n c : Nat) (L : List (Int × Bytes × Bytes)) (w : World) (h : Ops w A n L) :
    Calls Try.prog 5 #[.slice A n c] w fun e w' => e = .returned (.bool true) ∧ Below w.heap.size w w' := by
  have HO := Lib.hid h
  have HF := Lib.hid (fine_any A n c L 80 w h (by omega))
  clear h
  go_enter Try.func5, Try.ntmps5
  go_wp2_with fail
  refine HF.out.mono ?_
  rintro e w1 ⟨r, rfl, hr, hb1⟩
  have HB1 := Lib.hid hb1
  clear hb1
  cases r with
  | false =>
    clear hr
    go_wp2_with fail
    refine (awake_any w1).mono ?_
    rintro e w2 ⟨rfl, hb2⟩
    have HB2 : Hid (Below w.heap.size w w2) := HB1.out.trans (hb2.mono HB1.out.size)
    clear hb2
    go_wp2_with fail
    go_ret
    exact ⟨rfl, HB2.out⟩
  | true =>
    have HFI := Lib.hid (hr rfl)
    have hn80 : n ≤ 80 := by have := (hr rfl).1; rw [HO.out.len] at this; exact this
    clear hr
    go_wp2_with fail
    go_loopw [3, 4, 16] (fun t x v wr => ∃ (j : Nat) (u A' : Option Addr) (c' : Nat) (T : PT), v = .int .i64 (j : Int) ∧ j ≤ n ∧ t = .pointer u ∧ x = .slice A' T.list.length c' ∧ Hid (Both w wr u A' c' T j)) (fun _ _ v _ => n - (intOf v).toNat)
    case atStart => exact ⟨0, none, none, 0, .nil, rfl, by omega, rfl, rfl, Lib.hid (Both.nil w _ HB1.out)⟩
    case round =>
      obtain ⟨j, u, A', c', T, rfl, hj, rfl, rfl, hI⟩ := hrel
      by_cases hlt : j < n
      · obtain ⟨b, o, rfl, hbl, hc⟩ := (HO.out.below hI.out.below).cell (by omega)
        obtain ⟨kv, xv, c0, c1, c2, hk, hx⟩ := hc j hlt
        have hmem : L.getD j (0, [], []) ∈ L := by
          have hjl : j < L.length := by rw [HO.out.len]; exact hlt
          rw [List.getD_eq_getElem?_getD, List.getElem?_eq_getElem hjl, Option.getD_some]; exact List.getElem_mem hjl
        have hfl := HFI.out.2 _ hmem
        obtain ⟨op, hop⟩ : ∃ op, (L.getD j (0, [], [])).1 = op := ⟨_, rfl⟩
        rw [hop] at c0
        have hOI : OIn (fun _ => True) wr (.agg #[.int .i64 op, kv, xv]) op (L.getD j (0, [], [])).2.1 (L.getD j (0, [], [])).2.2 := OIn.of hk hx hfl.1 hfl.2
        obtain ⟨Ak, nk, ck, rfl, _⟩ := hk
        obtain ⟨Ax, nx, cx, rfl, _⟩ := hx
        have hbx : Below wr.heap.size wr (wr.alloc (.cells #[.int .i64 op, .slice Ak nk ck, .slice Ax nx cx] 29)) := (Below.refl _ _).alloc (Nat.le_refl _) _
        have hbm : Below wr.heap.size wr ((wr.alloc (.cells #[.int .i64 op, .slice Ak nk ck, .slice Ax nx cx] 29)).alloc (.cells #[.int .i64 ((0 : Nat) : Int), .int .i64 ((0 : Nat) : Int)] 41)) := hbx.alloc hbx.size _
        have hbox : (wr.alloc (.cells #[.int .i64 op, .slice Ak nk ck, .slice Ax nx cx] 29)).heap[wr.heap.size]? = some (.cells #[.int .i64 op, .slice Ak nk ck, .slice Ax nx cx] 29 (0, 0)) := heap_new wr _
        have hmt : MAt (some (wr.heap.size + 1)) ((wr.alloc (.cells #[.int .i64 op, .slice Ak nk ck, .slice Ax nx cx] 29)).alloc (.cells #[.int .i64 ((0 : Nat) : Int), .int .i64 ((0 : Nat) : Int)] 41)) 0 0 := fun b' e => by
          have hs : (wr.alloc (.cells #[.int .i64 op, .slice Ak nk ck, .slice Ax nx cx] 29)).heap.size = wr.heap.size + 1 := by simp
          cases e
          rw [← hs]
          exact heap_new _ _
        have hbox2 := heap_old (.cells #[.int .i64 ((0 : Nat) : Int), .int .i64 ((0 : Nat) : Int)] 41) hbox
        have hI2 := hI.out.on hbm
        have hO2 := hOI.below hbm
        have hT2 : TIn (fun b => b < wr.heap.size) _ (.pointer u) T := (hI.out.tin.imp fun b hlt _ => hlt).below hbm
        have hM2 : MIn (fun b => b < wr.heap.size) _ A' T.list.length T.list := (hI.out.min.imp fun b hlt _ => hlt).below hbm
        have hO3 := (hOI.imp (S' := fun b => b < wr.heap.size) fun b hlt _ => hlt).below hbm
        have hws := hI.out.below.size
        have hst := step_both (S := fun b => b < wr.heap.size) (some (wr.heap.size + 1)) 0 0 op (L.getD j (0, [], [])).2.1 (L.getD j (0, [], [])).2.2 w _ u A' c' j T _ hI2 hO2 (by omega)
          (fun b e => by cases e; omega) (fun b hb e => by cases e; omega) hT2 hM2 hO3 hmt (by omega) (by have := T.height_le; have := hI.out.size; omega) (by have := T.height_le; have := hI.out.size; omega)
        have hsz := tsize_any T (.pointer u) _ hI2.tin
        have HST := Lib.hid hst
        have HSZ := Lib.hid hsz
        have HBX := Lib.hid hbox2
        have HTE := Lib.hid (And.intro hI.out.even hI.out.size)
        have HWS := Lib.hid hws
        have al : (0 : Int) ≤ (j : Int) := by omega
        have al3 : (j : Int) < (n : Int) := by omega
        clear hc hmem hfl hop hOI hbx hbm hI2 hO2 hO3 hT2 hM2 hmt hst hsz hbox hbox2 hws
        go_wp2_with fail
        refine HSZ.out.mono ?_
        rintro e w2 ⟨rfl, rfl⟩
        go_wp2_with fail
        refine HST.out.mono ?_
        rintro e w3 ⟨u', A2, c2, T', vi', co', rfl, hN⟩
        have hm := hN.out.2.1.at_ _ rfl
        have hbx3 := (hN.out.2.1.kept.block wr.heap.size (Array.getElem?_eq_some_iff.1 HBX.out).1 (by simp)).trans HBX.out
        have hm0 := cell_of_row _ _ 0 _ _ _ hm
        have hm1 := cell_of_row _ _ 1 _ _ _ hm
        have hx0 := cell_of_row _ _ 0 _ _ _ hbx3
        dsimp at hm0 hm1 hx0
        have hvi : vi' ≤ T.height := by have := hN.out.2.1.high; omega
        have hth : T.height ≤ 1000 := by have := T.height_le; have := HTE.out.2; omega
        have hco : ¬ (vi' : Int) < (co' : Int) := by have := hN.out.2.1.fit; omega
        have hvs := visits_any vi' T.size w3 (by have := HTE.out.2; omega) (by omega) (.inr (Nat.le_trans (Nat.pow_le_pow_right (by omega) (by omega)) (height_cube T HTE.out.1)))
        have HVS := Lib.hid hvs
        have HLOW := Lib.hid hN.out.2.2
        have HI3 := Lib.hid hN.out.1
        clear hm hbx3 hvs
        go_wp2_with fail
        refine HVS.out.mono ?_
        rintro e w4 ⟨rfl, rfl⟩
        by_cases h1 : 1 ≤ op
        · by_cases h2 : op ≤ 3
          · by_cases h3 : 0 < T.size
            · have h3' : 0 < (T.size : Int) := by omega
              have hv0 : ¬ (vi' : Int) = 0 := by have := HLOW.out h1 h2 h3; omega
              go_wp2_with fail
              go_roundw
              case rel => exact ⟨j + 1, u', A2, c2, T', by go_num, by omega, rfl, rfl, HI3⟩
              case measure => simp [intOf]; omega
            · have h3' : ¬ 0 < (T.size : Int) := by omega
              go_wp2_with fail
              go_roundw
              case rel => exact ⟨j + 1, u', A2, c2, T', by go_num, by omega, rfl, rfl, HI3⟩
              case measure => simp [intOf]; omega
          · go_wp2_with fail
            go_roundw
            case rel => exact ⟨j + 1, u', A2, c2, T', by go_num, by omega, rfl, rfl, HI3⟩
            case measure => simp [intOf]; omega
        · go_wp2_with fail
          go_roundw
          case rel => exact ⟨j + 1, u', A2, c2, T', by go_num, by omega, rfl, rfl, HI3⟩
          case measure => simp [intOf]; omega
      · go_wp2_with fail
        refine (awake_any wr).mono ?_
        rintro e w2 ⟨rfl, hb2⟩
        have HB2 : Hid (Below w.heap.size w w2) := hI.out.below.trans (hb2.mono hI.out.below.size)
        clear hb2
        go_wp2_with fail
        go_ret
        exact ⟨rfl, HB2.out⟩

end Go.Proofs.Ytlnlgahokifolaa
