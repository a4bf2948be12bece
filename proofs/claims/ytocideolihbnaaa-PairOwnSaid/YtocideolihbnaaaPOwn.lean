/- The package pair: Own: the same pairs in new memory. -/
import Derived.Test.YtocideolihbnaaaTOpen
import Derived.Test.YtocideolihbnaaaSRow
set_option linter.unusedVariables false
set_option linter.unusedSimpArgs false
namespace Go.Proofs.Ytocideolihbnaaa
open Go.RowKit

theorem OwnL.below {base n c : Nat} {W W1 : World} {A : Option Addr} {vs : List Value} {L : Pairs} (h : OwnL base W A n c vs L) (hb : Below W.heap.size W W1) : OwnL base W1 A n c vs L :=
  ⟨h.is, h.len, own_below h.own hb, h.ps.carry hb.size fun b _ hlt => hb.block b hlt⟩
theorem OwnL.snoc {base n c c' : Nat} {W w1 : World} {A A' : Option Addr} {vs : List Value} {L : Pairs} {kv xv : Value} {k x : Bytes} (h : OwnL base W A n c vs L) (hbase : base ≤ W.heap.size)
    (hk : BIn (fun b => base ≤ b ∧ (Value.slice A n c).ownBlock ≠ some b) W kv k) (hx : BIn (fun b => base ≤ b ∧ (Value.slice A n c).ownBlock ≠ some b) W xv x)
    (hown : w1.ownsRow base 34 2 (.slice A' (n + 1) c') (n + 1) (vs ++ [kv, xv])) (hg : W.grownBy w1 (Value.slice A n c).ownBlock)
    (ho : (Value.slice A' (n + 1) c').ownBlock = (Value.slice A n c).ownBlock ∨ (Value.slice A' (n + 1) c').ownBlock = some W.heap.size) : OwnL base w1 A' (n + 1) c' (vs ++ [kv, xv]) (L ++ [(k, x)]) := by
  refine ⟨?_, by rw [List.length_append, h.len]; rfl, hown, ?_⟩
  · rcases hown.2 with ⟨hv, hn⟩ | ⟨g, cap, cur, hv, _⟩
    · omega
    · injection hv with h1 h2 h3; rw [h1]; simp
  · have hp := (h.ps.snoc hk hx).grown hg (fun b hb _ e => hb.2 e)
    refine ⟨hp.len, fun j hj => ?_⟩
    obtain ⟨a, b, h1, h2, h3, h4⟩ := (h.ps.snoc hk hx).at_ j hj
    have mv : ∀ {v : Value} {l : Bytes}, BIn (fun b => base ≤ b ∧ (Value.slice A n c).ownBlock ≠ some b) W v l → BIn (fun b => base ≤ b ∧ (Value.slice A' (n + 1) c').ownBlock ≠ some b) w1 v l := fun {v l} hb => by
      have hb2 := hb.imp (S' := fun b => (base ≤ b ∧ (Value.slice A n c).ownBlock ≠ some b) ∧ b < W.heap.size) fun b hlt hS => ⟨hS, hlt⟩
      refine (hb2.grown hg (fun b hb _ e => hb.1.2 e)).imp fun b _ hS => ⟨hS.1.1, fun e => ?_⟩
      rcases ho with ho | ho
      · rw [ho] at e; exact hS.1.2 e
      · rw [ho] at e; injection e with e; omega
    exact ⟨a, b, h1, h2, mv h3, mv h4⟩
theorem take_snoc' (L : Pairs) (j : Nat) (h : j < L.length) : L.take (j + 1) = L.take j ++ [((L.getD j ([], [])).1, (L.getD j ([], [])).2)] := by
  rw [List.take_succ_eq_append_getElem h, List.getD_eq_getElem?_getD, List.getElem?_eq_getElem h]
  rfl

set_option maxRecDepth 100000 in
set_option maxHeartbeats 3200000 in
theorem Own_any {S : Nat → Prop} (L : Pairs) (A : Option Addr) (n c : Nat) (w : World) (hL : LIn S w A n L) (hn : n ≤ 100000) (hcn : n ≤ c) :
    Calls Try.prog 14 #[.slice A n c] w fun e w' => ∃ A' c' vs, e = .returned (.slice A' n c') ∧ OwnL w.heap.size w' A' n c' vs L ∧ Below w.heap.size w w' := by
  obtain ⟨i0, hi, hz0, hz1, hz2⟩ := info_parts info39b
  have HL := Lib.hid hL
  clear hL
  go_enter Try.func14, Try.ntmps14
  go_wp2_with (refine wpList_make_own _ rfl _ _ 22 rfl w.heap.size 34 i0 _ 2 Try.underlying22 hi hz0 hz1 .i64 .i64 _ n rfl rfl rfl (by rw [hz2]; omega) (by unfold maxLen; omega) (Nat.le_refl _) ?_)
  intro w1 hown hgr
  have hb1 : Below w.heap.size w w1 := ⟨hgr.os, hgr.tape, hgr.output, hgr.size, fun b hb => hgr.block b hb (by simp)⟩
  have HI : Hid (OwnL w.heap.size w1 (some ⟨w.heap.size, 0, none⟩) 0 n [] (L.take 0) ∧ Below w.heap.size w w1) := ⟨⟨by simp, by simp, hown, ⟨rfl, fun j hj => by simp at hj⟩⟩, hb1⟩
  clear hown hgr hb1
  go_wp2_with fail
  go_loopw [3, 11] (fun u v wr => ∃ (j : Nat) (A' : Option Addr) (c' : Nat) (vs : List Value), u = .slice A' j c' ∧ v = .int .i64 (j : Int) ∧ j ≤ n ∧ Hid (OwnL w.heap.size wr A' j c' vs (L.take j) ∧ Below w.heap.size w wr)) (fun _ v _ => n - (intOf v).toNat)
  case atStart => exact ⟨0, _, _, [], rfl, rfl, by omega, HI⟩
  case round =>
    obtain ⟨j, A', c', vs, rfl, rfl, hj, hI⟩ := hrel
    by_cases hlt : j < n
    · obtain ⟨b, o, rfl, hbl, hSb, hc⟩ := (HL.out.below hI.out.2).cell (by omega)
      obtain ⟨kv, xv, c0, c1, hk, hx⟩ := hc j hlt
      obtain ⟨Ak, nk, ck, rfl⟩ := hk.slice
      obtain ⟨Ax, nx, cx, rfl⟩ := hx.slice
      have hjl : j < L.length := by rw [HL.out.len]; exact hlt
      have HT := Lib.hid (take_snoc' L j hjl)
      have al : (0 : Int) ≤ (j : Int) := by omega
      have al3 : (j : Int) < (n : Int) := by omega
      have hbx := (Below.refl _ wr).alloc (Nat.le_refl _) (.cells #[.slice Ak nk ck, .slice Ax nx cx] 34)
      have htw : Two (wr.alloc (.cells #[.slice Ak nk ck, .slice Ax nx cx] 34)) wr.heap.size (.slice Ak nk ck) (.slice Ax nx cx) := heap_new wr _
      have HX : Hid (OwnL w.heap.size (wr.alloc (.cells #[.slice Ak nk ck, .slice Ax nx cx] 34)) A' j c' vs (L.take j) ∧ Below w.heap.size w (wr.alloc (.cells #[.slice Ak nk ck, .slice Ax nx cx] 34)) ∧ BIn S (wr.alloc (.cells #[.slice Ak nk ck, .slice Ax nx cx] 34)) (.slice Ak nk ck) (L.getD j ([], [])).1 ∧ BIn S (wr.alloc (.cells #[.slice Ak nk ck, .slice Ax nx cx] 34)) (.slice Ax nx cx) (L.getD j ([], [])).2) :=
        ⟨hI.out.1.below hbx, hI.out.2.alloc hI.out.2.size _, hk.below hbx, hx.below hbx⟩
      have HW := Lib.hid htw
      clear hc hk hx hbx htw
      go_upto_region 5 with fail
      have hgl : Hid (wr.heap.size < (wr.alloc (.cells #[.slice Ak nk ck, .slice Ax nx cx] 34)).heap.size) := (by simp : wr.heap.size < (wr.alloc (.cells #[.slice Ak nk ck, .slice Ax nx cx] 34)).heap.size)
      have hgn : Hid (∀ k, (Value.slice A' j c').ownBlock = some k → k ≠ wr.heap.size) := fun k e h => by have := hI.out.1.own.lt k e; omega
      generalize wr.heap.size = g at *
      generalize wr.alloc (.cells #[.slice Ak nk ck, .slice Ax nx cx] 34) = X at *
      have HC : Hid (∀ W, Below X.heap.size X W → W.cell? ⟨g, 0, none⟩ = some (.slice Ak nk ck) ∧ W.cell? ⟨g, 1, none⟩ = some (.slice Ax nx cx)) := fun W h => (HW.out.below h hgl.out).cells
      have hlen : vs.length = j * 2 := by have := HX.out.1.own.1; omega
      clear c0 c1
      go_region_held3 (fun w' => w'.cell? ⟨g, 0, none⟩ = some (.slice Ak nk ck) ∧ w'.cell? ⟨g, 1, none⟩ = some (.slice Ax nx cx))
        (first | with_reducible exact HC.out _ (below_drew2 (Below.refl _ _)) | with_reducible exact HC.out _ B1.out | with_reducible exact HC.out _ B2.out | with_reducible exact HC.out _ (B2.out.alloc B2.out.size _) | with_reducible exact C5.out)
        (first
          | (go_at_call 30; (with_reducible refine (clone_any (.slice Ak nk ck) (L.getD j ([], [])).1 _ (HX.out.2.2.1.below (below_drew2 (Below.refl _ _)))).mono ?_); rintro e wa ⟨A1, n1, c1, rfl, hB1, hb1⟩; have B1 : Hid (Below X.heap.size X wa) := below_drew1 hb1; have K1 : Hid (BIn (New X.heap.size) wa (.slice A1 n1 c1) (L.getD j ([], [])).1) := hB1; clear hB1 hb1)
          | (go_at_call 30; (with_reducible refine (clone_any (.slice Ax nx cx) (L.getD j ([], [])).2 _ (HX.out.2.2.2.below B1.out)).mono ?_); rintro e wb ⟨A2, n2, c2, rfl, hB2, hb2⟩; have B2 : Hid (Below X.heap.size X wb) := B1.out.trans (hb2.mono B1.out.size); have K2 : Hid (BIn (New X.heap.size) wb (.slice A1 n1 c1) (L.getD j ([], [])).1 ∧ BIn (New X.heap.size) wb (.slice A2 n2 c2) (L.getD j ([], [])).2) := ⟨K1.out.below hb2, hB2.imp fun b _ hb => Nat.le_trans B1.out.size hb⟩; clear hB2 hb2)
          | (have hbn : Below wb.heap.size wb (wb.alloc (.cells #[.slice A1 n1 c1, .slice A2 n2 c2] 34)) := (Below.refl _ _).alloc (Nat.le_refl _) _
             have HXY : Hid (OwnL w.heap.size (wb.alloc (.cells #[.slice A1 n1 c1, .slice A2 n2 c2] 34)) A' j c' vs (L.take j)) := (HX.out.1.below B2.out).below hbn
             refine step_append_v _ (by rfl) (.tmp 15) (.tmp 23) 22 (by rfl) w.heap.size 34 i0 _ 2 48 Try.underlying22 hi hz0 hz1 hz2 rfl (by omega) (.slice A' j c') j vs (by simp [Act.eval]) HXY.out.own ⟨wb.heap.size, 0, none⟩ 1 1 [.slice A1 n1 c1, .slice A2 n2 c2] (by simp [Act.eval]) rfl (World.news_of_block (heap_new wb _)) (by simp [Value.oneCell']) (by unfold maxLen; omega) (by omega) (by have h1 := HX.out.2.1.size; have h2 := B2.out.size; simp; omega) ?_
             intro A3 c3 w3 h3 g3 o3
             have C5 : Hid (w3.cell? ⟨g, 0, none⟩ = some (.slice Ak nk ck) ∧ w3.cell? ⟨g, 1, none⟩ = some (.slice Ax nx cx)) := Two.cells ((g3.block g (by have h1 := hgl.out; have h2 := B2.out.size; simp; omega) (fun e => hgn.out g e.symm rfl)).trans (HW.out.below (B2.out.alloc B2.out.size _) hgl.out))
             have hfar : ∀ b, New X.heap.size b → w.heap.size ≤ b ∧ (Value.slice A' j c').ownBlock ≠ some b := fun b hb => ⟨Nat.le_trans HX.out.2.1.size hb, fun e => by have h1 := HX.out.1.own.lt b e; have h2 : X.heap.size ≤ b := hb; omega⟩
             have HRES : Hid (OwnL w.heap.size w3 A3 (j + 1) c3 (vs ++ [.slice A1 n1 c1, .slice A2 n2 c2]) (L.take (j + 1)) ∧ Below w.heap.size w w3) := ⟨by
               rw [HT.out]
               exact HXY.out.snoc (by have h1 := HX.out.2.1.size; have h2 := B2.out.size; simp; omega) ((K2.out.1.below hbn).imp fun b _ hb => hfar b hb) ((K2.out.2.below hbn).imp fun b _ hb => hfar b hb) h3 g3 o3, ((HX.out.2.1.trans (B2.out.mono HX.out.2.1.size)).alloc (by have h1 := HX.out.2.1.size; have h2 := B2.out.size; omega) _).grown g3 (by have h1 := HX.out.2.1.size; have h2 := B2.out.size; simp; omega) (fun k e => (HX.out.1.own.lt k e).1)⟩
             clear h3 g3 o3 hbn hfar))
      go_wp2_with fail
      go_roundw
      case rel => exact ⟨j + 1, A3, c3, _, rfl, by go_num, by omega, HRES⟩
      case measure => simp [intOf]; omega
    · obtain rfl : j = n := by omega
      have HE : Hid (L.take j = L) := List.take_of_length_le (by rw [HL.out.len]; exact Nat.le_refl _)
      go_wp2_with fail
      go_ret
      exact ⟨A', c', vs, rfl, by have := hI.out.1; rw [HE.out] at this; exact this, hI.out.2⟩

end Go.Proofs.Ytocideolihbnaaa
