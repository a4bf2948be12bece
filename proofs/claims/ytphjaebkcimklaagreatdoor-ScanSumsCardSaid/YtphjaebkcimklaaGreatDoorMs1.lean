/- Texts put together: SRow POwn. -/
import Derived.Test.YtphjaebkcimklaaGreatDoorTEven
import Derived.Test.YtphjaebkcimklaaGreatDoorTStr
import Derived.Test.YtphjaebkcimklaaGreatDoorTQuiet
import Derived.Test.YtphjaebkcimklaaGreatDoorMs0
import Derived.StillTailTactics
import Derived.Test.YtphjaebkcimklaaGreatDoorTOpen
/- A row of pairs as a sort sees it; two exchanged ranges; two blocks rotated. -/
set_option linter.unusedVariables false
set_option linter.unusedSimpArgs false
namespace Go.Proofs.YtphjaebkcimklaaGreatDoor
open Go.RowKit Stab

/-- The pairs' values, by their numbers. -/
abbrev Vals := Nat → Value × Value
def SliceVals (vals : Vals) : Prop := ∀ i, (∃ A n c, (vals i).1 = .slice A n c) ∧ ∃ A n c, (vals i).2 = .slice A n c
/-- A block holds the pairs in some order. -/
structure Row (g n : Nat) (vals : Vals) (f : Nat → Nat) (W : World) : Prop where
  obj : ∃ arr : Array Value, W.heap[g]? = some (.cells arr 60 (0, 0)) ∧ ∀ p, p < n → arr[p * 2]? = some (vals (f p)).1 ∧ arr[p * 2 + 1]? = some (vals (f p)).2
theorem Row.cells {g n : Nat} {vals : Vals} {f : Nat → Nat} {W : World} (h : Row g n vals f W) {p : Nat} (hp : p < n) : W.cell? ⟨g, p * 2, none⟩ = some (vals (f p)).1 ∧ W.cell? ⟨g, p * 2 + 1, none⟩ = some (vals (f p)).2 := by
  obtain ⟨arr, ha, hc⟩ := h.obj
  simp only [World.cell?, ha]
  exact hc p hp
theorem Row.free {g n : Nat} {vals : Vals} {f : Nat → Nat} {W : World} (h : Row g n vals f W) {i : Nat} (hi : i < n * 2) : W.frozen? ⟨g, i, none⟩ = false := by
  obtain ⟨arr, ha, hc⟩ := h.obj
  exact frozen_of_row W g i _ _ ha
theorem Row.lt {g n : Nat} {vals : Vals} {f : Nat → Nat} {W : World} (h : Row g n vals f W) : g < W.heap.size := by
  obtain ⟨arr, ha, _⟩ := h.obj
  exact (Array.getElem?_eq_some_iff.1 ha).1
theorem Row.below {g n : Nat} {vals : Vals} {f : Nat → Nat} {W W1 : World} (h : Row g n vals f W) (hb : Below W.heap.size W W1) : Row g n vals f W1 := by
  obtain ⟨arr, ha, hc⟩ := h.obj
  exact ⟨arr, (hb.block g (Array.getElem?_eq_some_iff.1 ha).1).trans ha, hc⟩
/-- What lies at two places is exchanged. -/
theorem Row.swp {g n : Nat} {vals : Vals} {f : Nat → Nat} {W : World} (h : Row g n vals f W) {i j : Nat} (hi : i < n) (hj : j < n) :
    Row g n vals (swp f i j) ((((W.setCell ⟨g, i * 2, none⟩ (vals (f j)).1).setCell ⟨g, i * 2 + 1, none⟩ (vals (f j)).2).setCell ⟨g, j * 2, none⟩ (vals (f i)).1).setCell ⟨g, j * 2 + 1, none⟩ (vals (f i)).2) := by
  obtain ⟨arr, ha, hc⟩ := h.obj
  refine ⟨(((arr.setIfInBounds (i * 2) (vals (f j)).1).setIfInBounds (i * 2 + 1) (vals (f j)).2).setIfInBounds (j * 2) (vals (f i)).1).setIfInBounds (j * 2 + 1) (vals (f i)).2, ?_, fun p hp => ?_⟩
  · simp [World.setCell, Array.getElem?_modify, ha]
  · have hlt : ∀ q, q < n → q * 2 + 1 < arr.size := fun q hq => (Array.getElem?_eq_some_iff.1 (hc q hq).2).1
    have l1 := hlt i hi
    have l2 := hlt j hj
    have l3 := hlt p hp
    have hcp := hc p hp
    simp only [Array.getElem?_setIfInBounds, Array.size_setIfInBounds]
    unfold Stab.swp
    by_cases e1 : p = j
    · subst e1
      by_cases e2 : p = i
      · subst e2
        refine ⟨?_, ?_⟩
        · rw [if_neg (by omega), if_pos rfl, if_pos (by omega), if_pos rfl]
        · rw [if_pos rfl, if_pos (by omega), if_pos rfl]
      · refine ⟨?_, ?_⟩
        · rw [if_neg (by omega), if_pos rfl, if_pos (by omega), if_neg e2, if_pos rfl]
        · rw [if_pos rfl, if_pos (by omega), if_neg e2, if_pos rfl]
    · by_cases e2 : p = i
      · subst e2
        refine ⟨?_, ?_⟩
        · rw [if_neg (by omega), if_neg (by omega), if_neg (by omega), if_pos rfl, if_pos (by omega), if_pos rfl]
        · rw [if_neg (by omega), if_neg (by omega), if_pos rfl, if_pos (by omega), if_pos rfl]
      · refine ⟨?_, ?_⟩
        · rw [if_neg (by omega), if_neg (by omega), if_neg (by omega), if_neg (by omega), if_neg e2, if_neg e1]; exact hcp.1
        · rw [if_neg (by omega), if_neg (by omega), if_neg (by omega), if_neg (by omega), if_neg e2, if_neg e1]; exact hcp.2
theorem kept_swp {g : Nat} {W W1 : World} (hk : Kept (some g) W W1) (i j k l : Nat) (a b c d : Value) : Kept (some g) W ((((W1.setCell ⟨g, i, none⟩ a).setCell ⟨g, j, none⟩ b).setCell ⟨g, k, none⟩ c).setCell ⟨g, l, none⟩ d) :=
  (((hk.trans (Kept.set i a)).trans (Kept.set j b)).trans (Kept.set k c)).trans (Kept.set l d)
/-- A row on its way: its order, and all else as it was. -/
structure On (g n : Nat) (vals : Vals) (f : Nat → Nat) (w W : World) : Prop where
  row : Row g n vals f W
  kept : Kept (some g) w W
theorem On.swp {g n : Nat} {vals : Vals} {f : Nat → Nat} {w W : World} (h : On g n vals f w W) {i j : Nat} (hi : i < n) (hj : j < n) :
    On g n vals (swp f i j) w ((((W.setCell ⟨g, i * 2, none⟩ (vals (f j)).1).setCell ⟨g, i * 2 + 1, none⟩ (vals (f j)).2).setCell ⟨g, j * 2, none⟩ (vals (f i)).1).setCell ⟨g, j * 2 + 1, none⟩ (vals (f i)).2) :=
  ⟨h.row.swp hi hj, kept_swp h.kept _ _ _ _ _ _ _ _⟩
theorem On.below {g n : Nat} {vals : Vals} {f : Nat → Nat} {w W W1 : World} (h : On g n vals f w W) (hb : Below W.heap.size W W1) : On g n vals f w W1 :=
  ⟨h.row.below hb, h.kept.trans (Kept.of hb)⟩

/-- What the walks lean on. -/
structure Env (g n c : Nat) (vals : Vals) (key : Nat → Bytes) (w : World) : Prop where
  hv : SliceVals vals
  hk : ∀ i, BIn (fun b => b ≠ g) w (vals i).1 (key i)
  hn : n ≤ 100000
  hc : n ≤ c

def less (key : Nat → Bytes) (i j : Nat) : Bool := decide (cmp (key i) (key j) = -1)
def lt (key : Nat → Bytes) (i j : Nat) : Prop := cmp (key i) (key j) = -1 ∨ (key i = key j ∧ i < j)
theorem ord (key : Nat → Bytes) : Ord (less key) (lt key) := by
  refine ⟨fun x y h => .inl (of_decide_eq_true h), fun x y h hxy => ?_, fun x y z h1 h2 => ?_⟩
  · have h' := of_decide_eq_false h
    rcases cmp3 (key x) (key y) with e | e | e
    · exact .inr ⟨((cmp_eq0 _ _).1 e).symm, hxy⟩
    · exact .inl (cmp_gt e)
    · exact absurd e h'
  · rcases h1 with h1 | ⟨e1, h1⟩ <;> rcases h2 with h2 | ⟨e2, h2⟩
    · exact .inl (cmp_lt_trans _ _ _ h1 h2)
    · exact .inl (by rw [← e2]; exact h1)
    · exact .inl (by rw [e1]; exact h2)
    · exact .inr ⟨e1.trans e2, by omega⟩
theorem irr (key : Nat → Bytes) : ∀ x, ¬ lt key x x := by
  intro x h
  rcases h with h | ⟨_, h⟩
  · rw [cmp_self] at h; exact absurd h (by decide)
  · omega
theorem less_neg {key : Nat → Bytes} {i j : Nat} {cv : Int} (h : cmp (key i) (key j) = cv) : less key i j = decide (cv < 0) := by
  unfold less
  rw [decide_eq_decide, h]
  have := cmp3 (key i) (key j)
  have h' : Lib.compareBytes (key i) (key j) = cv := h
  rw [h'] at this
  omega

end Go.Proofs.YtphjaebkcimklaaGreatDoor

/- The package pair: Own: the same pairs in new memory. -/
set_option linter.unusedVariables false
set_option linter.unusedSimpArgs false
namespace Go.Proofs.YtphjaebkcimklaaGreatDoor
open Go.RowKit

theorem OwnL.below {base n c : Nat} {W W1 : World} {A : Option Addr} {vs : List Value} {L : Pairs} (h : OwnL base W A n c vs L) (hb : Below W.heap.size W W1) : OwnL base W1 A n c vs L :=
  ⟨h.is, h.len, own_below h.own hb, h.ps.carry hb.size fun b _ hlt => hb.block b hlt⟩
theorem OwnL.snoc {base n c c' : Nat} {W w1 : World} {A A' : Option Addr} {vs : List Value} {L : Pairs} {kv xv : Value} {k x : Bytes} (h : OwnL base W A n c vs L) (hbase : base ≤ W.heap.size)
    (hk : BIn (fun b => base ≤ b ∧ (Value.slice A n c).ownBlock ≠ some b) W kv k) (hx : BIn (fun b => base ≤ b ∧ (Value.slice A n c).ownBlock ≠ some b) W xv x)
    (hown : w1.ownsRow base 60 2 (.slice A' (n + 1) c') (n + 1) (vs ++ [kv, xv])) (hg : W.grownBy w1 (Value.slice A n c).ownBlock)
    (ho : (Value.slice A' (n + 1) c').ownBlock = (Value.slice A n c).ownBlock ∨ (Value.slice A' (n + 1) c').ownBlock = some W.heap.size) : OwnL base w1 A' (n + 1) c' (vs ++ [kv, xv]) (L ++ [(k, x)]) := by
  refine ⟨?_, by rw [List.length_append, h.len]; rfl, hown, ?_⟩
  · rcases hown.2 with ⟨hv, hn⟩ | ⟨g, cap, cur, hv, _⟩
    · omega
    · injection hv with h1 h2 h3; rw [h1]; simp
  · have hp := (h.ps.snoc hk hx).grown hg (fun b hb _ e => hb.2 e)
    refine ⟨hp.len, fun j hj => ?_⟩
    obtain ⟨a, b, h1, h2, h3, h4⟩ := (h.ps.snoc hk hx).at_ j hj
    have mv : ∀ {v : Value} {l : Bytes}, BIn (fun b => base ≤ b ∧ (Value.slice A n c).ownBlock ≠ some b) W v l → BIn (fun b => base ≤ b ∧ (Value.slice A' (n + 1) c').ownBlock ≠ some b) w1 v l := fun {v l} hb => by
      have hb2 := hb.imp (S' := fun b => (base ≤ b ∧ (Value.slice A n c).ownBlock ≠ some b) ∧ b < W.heap.size) fun b hlt hS => ⟨hS, hlt⟩
      refine (hb2.grown hg (fun b hb _ e => hb.1.2 e)).imp fun b _ hS => ⟨hS.1.1, fun e => ?_⟩
      rcases ho with ho | ho
      · rw [ho] at e; exact hS.1.2 e
      · rw [ho] at e; injection e with e; omega
    exact ⟨a, b, h1, h2, mv h3, mv h4⟩
theorem take_snoc' (L : Pairs) (j : Nat) (h : j < L.length) : L.take (j + 1) = L.take j ++ [((L.getD j ([], [])).1, (L.getD j ([], [])).2)] := by
  rw [List.take_succ_eq_append_getElem h, List.getD_eq_getElem?_getD, List.getElem?_eq_getElem h]
  rfl

set_option maxRecDepth 100000 in
set_option maxHeartbeats 3200000 in
theorem Own_any {S : Nat → Prop} (L : Pairs) (A : Option Addr) (n c : Nat) (w : World) (hL : LIn S w A n L) (hn : n ≤ 100000) (hcn : n ≤ c) :
    Calls Tryz.prog 118 #[.slice A n c] w fun e w' => ∃ A' c' vs, e = .returned (.slice A' n c') ∧ OwnL w.heap.size w' A' n c' vs L ∧ Below w.heap.size w w' := by
  obtain ⟨i0, hi, hz0, hz1, hz2⟩ := info_parts info39b
  have HL := Lib.hid hL
  clear hL
  go_enter Tryz.func118, Tryz.ntmps118
  go_wp2_with (refine wpList_make_own _ rfl _ _ 69 rfl w.heap.size 60 i0 _ 2 Tryz.underlying69 hi hz0 hz1 .i64 .i64 _ n rfl rfl rfl (by rw [hz2]; omega) (by unfold maxLen; omega) (Nat.le_refl _) ?_)
  intro w1 hown hgr
  have hb1 : Below w.heap.size w w1 := ⟨hgr.os, hgr.tape, hgr.output, hgr.size, fun b hb => hgr.block b hb (by simp)⟩
  have HI : Hid (OwnL w.heap.size w1 (some ⟨w.heap.size, 0, none⟩) 0 n [] (L.take 0) ∧ Below w.heap.size w w1) := ⟨⟨by simp, by simp, hown, ⟨rfl, fun j hj => by simp at hj⟩⟩, hb1⟩
  clear hown hgr hb1
  go_wp2_with fail
  go_loopw [3, 11] (fun u v wr => ∃ (j : Nat) (A' : Option Addr) (c' : Nat) (vs : List Value), u = .slice A' j c' ∧ v = .int .i64 (j : Int) ∧ j ≤ n ∧ Hid (OwnL w.heap.size wr A' j c' vs (L.take j) ∧ Below w.heap.size w wr)) (fun _ v _ => n - (intOf v).toNat)
  case atStart => exact ⟨0, _, _, [], rfl, rfl, by omega, HI⟩
  case round =>
    obtain ⟨j, A', c', vs, rfl, rfl, hj, hI⟩ := hrel
    by_cases hlt : j < n
    · obtain ⟨b, o, rfl, hbl, hSb, hc⟩ := (HL.out.below hI.out.2).cell (by omega)
      obtain ⟨kv, xv, c0, c1, hk, hx⟩ := hc j hlt
      obtain ⟨Ak, nk, ck, rfl⟩ := hk.slice
      obtain ⟨Ax, nx, cx, rfl⟩ := hx.slice
      have hjl : j < L.length := by rw [HL.out.len]; exact hlt
      have HT := Lib.hid (take_snoc' L j hjl)
      have al : (0 : Int) ≤ (j : Int) := by omega
      have al3 : (j : Int) < (n : Int) := by omega
      have hbx := (Below.refl _ wr).alloc (Nat.le_refl _) (.cells #[.slice Ak nk ck, .slice Ax nx cx] 60)
      have htw : Two (wr.alloc (.cells #[.slice Ak nk ck, .slice Ax nx cx] 60)) wr.heap.size (.slice Ak nk ck) (.slice Ax nx cx) := heap_new wr _
      have HX : Hid (OwnL w.heap.size (wr.alloc (.cells #[.slice Ak nk ck, .slice Ax nx cx] 60)) A' j c' vs (L.take j) ∧ Below w.heap.size w (wr.alloc (.cells #[.slice Ak nk ck, .slice Ax nx cx] 60)) ∧ BIn S (wr.alloc (.cells #[.slice Ak nk ck, .slice Ax nx cx] 60)) (.slice Ak nk ck) (L.getD j ([], [])).1 ∧ BIn S (wr.alloc (.cells #[.slice Ak nk ck, .slice Ax nx cx] 60)) (.slice Ax nx cx) (L.getD j ([], [])).2) :=
        ⟨hI.out.1.below hbx, hI.out.2.alloc hI.out.2.size _, hk.below hbx, hx.below hbx⟩
      have HW := Lib.hid htw
      clear hc hk hx hbx htw
      go_upto_region 5 with fail
      have hgl : Hid (wr.heap.size < (wr.alloc (.cells #[.slice Ak nk ck, .slice Ax nx cx] 60)).heap.size) := (by simp : wr.heap.size < (wr.alloc (.cells #[.slice Ak nk ck, .slice Ax nx cx] 60)).heap.size)
      have hgn : Hid (∀ k, (Value.slice A' j c').ownBlock = some k → k ≠ wr.heap.size) := fun k e h => by have := hI.out.1.own.lt k e; omega
      generalize wr.heap.size = g at *
      generalize wr.alloc (.cells #[.slice Ak nk ck, .slice Ax nx cx] 60) = X at *
      have HC : Hid (∀ W, Below X.heap.size X W → W.cell? ⟨g, 0, none⟩ = some (.slice Ak nk ck) ∧ W.cell? ⟨g, 1, none⟩ = some (.slice Ax nx cx)) := fun W h => (HW.out.below h hgl.out).cells
      have hlen : vs.length = j * 2 := by have := HX.out.1.own.1; omega
      clear c0 c1
      go_region_held3 (fun w' => w'.cell? ⟨g, 0, none⟩ = some (.slice Ak nk ck) ∧ w'.cell? ⟨g, 1, none⟩ = some (.slice Ax nx cx))
        (first | with_reducible exact HC.out _ (below_drew2 (Below.refl _ _)) | with_reducible exact HC.out _ B1.out | with_reducible exact HC.out _ B2.out | with_reducible exact HC.out _ (B2.out.alloc B2.out.size _) | with_reducible exact C5.out)
        (first
          | (go_at_call 41; (with_reducible refine (clone_any (.slice Ak nk ck) (L.getD j ([], [])).1 _ (HX.out.2.2.1.below (below_drew2 (Below.refl _ _)))).mono ?_); rintro e wa ⟨A1, n1, c1, rfl, hB1, hb1⟩; have B1 : Hid (Below X.heap.size X wa) := below_drew1 hb1; have K1 : Hid (BIn (New X.heap.size) wa (.slice A1 n1 c1) (L.getD j ([], [])).1) := hB1; clear hB1 hb1)
          | (go_at_call 41; (with_reducible refine (clone_any (.slice Ax nx cx) (L.getD j ([], [])).2 _ (HX.out.2.2.2.below B1.out)).mono ?_); rintro e wb ⟨A2, n2, c2, rfl, hB2, hb2⟩; have B2 : Hid (Below X.heap.size X wb) := B1.out.trans (hb2.mono B1.out.size); have K2 : Hid (BIn (New X.heap.size) wb (.slice A1 n1 c1) (L.getD j ([], [])).1 ∧ BIn (New X.heap.size) wb (.slice A2 n2 c2) (L.getD j ([], [])).2) := ⟨K1.out.below hb2, hB2.imp fun b _ hb => Nat.le_trans B1.out.size hb⟩; clear hB2 hb2)
          | (have hbn : Below wb.heap.size wb (wb.alloc (.cells #[.slice A1 n1 c1, .slice A2 n2 c2] 60)) := (Below.refl _ _).alloc (Nat.le_refl _) _
             have HXY : Hid (OwnL w.heap.size (wb.alloc (.cells #[.slice A1 n1 c1, .slice A2 n2 c2] 60)) A' j c' vs (L.take j)) := (HX.out.1.below B2.out).below hbn
             refine step_append_v _ (by rfl) (.tmp 15) (.tmp 23) 69 (by rfl) w.heap.size 60 i0 _ 2 48 Tryz.underlying69 hi hz0 hz1 hz2 rfl (by omega) (.slice A' j c') j vs (by simp [Act.eval]) HXY.out.own ⟨wb.heap.size, 0, none⟩ 1 1 [.slice A1 n1 c1, .slice A2 n2 c2] (by simp [Act.eval]) rfl (World.news_of_block (heap_new wb _)) (by simp [Value.oneCell']) (by unfold maxLen; omega) (by omega) (by have h1 := HX.out.2.1.size; have h2 := B2.out.size; simp; omega) ?_
             intro A3 c3 w3 h3 g3 o3
             have C5 : Hid (w3.cell? ⟨g, 0, none⟩ = some (.slice Ak nk ck) ∧ w3.cell? ⟨g, 1, none⟩ = some (.slice Ax nx cx)) := Two.cells ((g3.block g (by have h1 := hgl.out; have h2 := B2.out.size; simp; omega) (fun e => hgn.out g e.symm rfl)).trans (HW.out.below (B2.out.alloc B2.out.size _) hgl.out))
             have hfar : ∀ b, New X.heap.size b → w.heap.size ≤ b ∧ (Value.slice A' j c').ownBlock ≠ some b := fun b hb => ⟨Nat.le_trans HX.out.2.1.size hb, fun e => by have h1 := HX.out.1.own.lt b e; have h2 : X.heap.size ≤ b := hb; omega⟩
             have HRES : Hid (OwnL w.heap.size w3 A3 (j + 1) c3 (vs ++ [.slice A1 n1 c1, .slice A2 n2 c2]) (L.take (j + 1)) ∧ Below w.heap.size w w3) := ⟨by
               rw [HT.out]
               exact HXY.out.snoc (by have h1 := HX.out.2.1.size; have h2 := B2.out.size; simp; omega) ((K2.out.1.below hbn).imp fun b _ hb => hfar b hb) ((K2.out.2.below hbn).imp fun b _ hb => hfar b hb) h3 g3 o3, ((HX.out.2.1.trans (B2.out.mono HX.out.2.1.size)).alloc (by have h1 := HX.out.2.1.size; have h2 := B2.out.size; omega) _).grown g3 (by have h1 := HX.out.2.1.size; have h2 := B2.out.size; simp; omega) (fun k e => (HX.out.1.own.lt k e).1)⟩
             clear h3 g3 o3 hbn hfar))
      go_wp2_with fail
      go_roundw
      case rel => exact ⟨j + 1, A3, c3, _, rfl, by go_num, by omega, HRES⟩
      case measure => simp [intOf]; omega
    · obtain rfl : j = n := by omega
      have HE : Hid (L.take j = L) := List.take_of_length_le (by rw [HL.out.len]; exact Nat.le_refl _)
      go_wp2_with fail
      go_ret
      exact ⟨A', c', vs, rfl, by have := hI.out.1; rw [HE.out] at this; exact this, hI.out.2⟩

end Go.Proofs.YtphjaebkcimklaaGreatDoor
