/- A row of pairs as a sort sees it; two exchanged ranges; two blocks rotated. -/
import Derived.Test.YtocideolihbnaaaTEven
import Derived.Test.YtocideolihbnaaaTStr
import Derived.Test.YtocideolihbnaaaTQuiet
import Derived.Test.YtocideolihbnaaaSPure2
import Derived.StillTailTactics
set_option linter.unusedVariables false
set_option linter.unusedSimpArgs false
namespace Go.Proofs.Ytocideolihbnaaa
open Go.RowKit Stab

/-- The pairs' values, by their numbers. -/
abbrev Vals := Nat → Value × Value
def SliceVals (vals : Vals) : Prop := ∀ i, (∃ A n c, (vals i).1 = .slice A n c) ∧ ∃ A n c, (vals i).2 = .slice A n c
/-- A block holds the pairs in some order. -/
structure Row (g n : Nat) (vals : Vals) (f : Nat → Nat) (W : World) : Prop where
  obj : ∃ arr : Array Value, W.heap[g]? = some (.cells arr 34 (0, 0)) ∧ ∀ p, p < n → arr[p * 2]? = some (vals (f p)).1 ∧ arr[p * 2 + 1]? = some (vals (f p)).2
theorem Row.cells {g n : Nat} {vals : Vals} {f : Nat → Nat} {W : World} (h : Row g n vals f W) {p : Nat} (hp : p < n) : W.cell? ⟨g, p * 2, none⟩ = some (vals (f p)).1 ∧ W.cell? ⟨g, p * 2 + 1, none⟩ = some (vals (f p)).2 := by
  obtain ⟨arr, ha, hc⟩ := h.obj
  simp only [World.cell?, ha]
  exact hc p hp
theorem Row.free {g n : Nat} {vals : Vals} {f : Nat → Nat} {W : World} (h : Row g n vals f W) {i : Nat} (hi : i < n * 2) : W.frozen? ⟨g, i, none⟩ = false := by
  obtain ⟨arr, ha, hc⟩ := h.obj
  exact frozen_of_row W g i _ _ ha
theorem Row.lt {g n : Nat} {vals : Vals} {f : Nat → Nat} {W : World} (h : Row g n vals f W) : g < W.heap.size := by
  obtain ⟨arr, ha, _⟩ := h.obj
  exact (Array.getElem?_eq_some_iff.1 ha).1
theorem Row.below {g n : Nat} {vals : Vals} {f : Nat → Nat} {W W1 : World} (h : Row g n vals f W) (hb : Below W.heap.size W W1) : Row g n vals f W1 := by
  obtain ⟨arr, ha, hc⟩ := h.obj
  exact ⟨arr, (hb.block g (Array.getElem?_eq_some_iff.1 ha).1).trans ha, hc⟩
/-- What lies at two places is exchanged. -/
theorem Row.swp {g n : Nat} {vals : Vals} {f : Nat → Nat} {W : World} (h : Row g n vals f W) {i j : Nat} (hi : i < n) (hj : j < n) :
    Row g n vals (swp f i j) ((((W.setCell ⟨g, i * 2, none⟩ (vals (f j)).1).setCell ⟨g, i * 2 + 1, none⟩ (vals (f j)).2).setCell ⟨g, j * 2, none⟩ (vals (f i)).1).setCell ⟨g, j * 2 + 1, none⟩ (vals (f i)).2) := by
  obtain ⟨arr, ha, hc⟩ := h.obj
  refine ⟨(((arr.setIfInBounds (i * 2) (vals (f j)).1).setIfInBounds (i * 2 + 1) (vals (f j)).2).setIfInBounds (j * 2) (vals (f i)).1).setIfInBounds (j * 2 + 1) (vals (f i)).2, ?_, fun p hp => ?_⟩
  · simp [World.setCell, Array.getElem?_modify, ha]
  · have hlt : ∀ q, q < n → q * 2 + 1 < arr.size := fun q hq => (Array.getElem?_eq_some_iff.1 (hc q hq).2).1
    have l1 := hlt i hi
    have l2 := hlt j hj
    have l3 := hlt p hp
    have hcp := hc p hp
    simp only [Array.getElem?_setIfInBounds, Array.size_setIfInBounds]
    unfold Stab.swp
    by_cases e1 : p = j
    · subst e1
      by_cases e2 : p = i
      · subst e2
        refine ⟨?_, ?_⟩
        · rw [if_neg (by omega), if_pos rfl, if_pos (by omega), if_pos rfl]
        · rw [if_pos rfl, if_pos (by omega), if_pos rfl]
      · refine ⟨?_, ?_⟩
        · rw [if_neg (by omega), if_pos rfl, if_pos (by omega), if_neg e2, if_pos rfl]
        · rw [if_pos rfl, if_pos (by omega), if_neg e2, if_pos rfl]
    · by_cases e2 : p = i
      · subst e2
        refine ⟨?_, ?_⟩
        · rw [if_neg (by omega), if_neg (by omega), if_neg (by omega), if_pos rfl, if_pos (by omega), if_pos rfl]
        · rw [if_neg (by omega), if_neg (by omega), if_pos rfl, if_pos (by omega), if_pos rfl]
      · refine ⟨?_, ?_⟩
        · rw [if_neg (by omega), if_neg (by omega), if_neg (by omega), if_neg (by omega), if_neg e2, if_neg e1]; exact hcp.1
        · rw [if_neg (by omega), if_neg (by omega), if_neg (by omega), if_neg (by omega), if_neg e2, if_neg e1]; exact hcp.2
theorem kept_swp {g : Nat} {W W1 : World} (hk : Kept (some g) W W1) (i j k l : Nat) (a b c d : Value) : Kept (some g) W ((((W1.setCell ⟨g, i, none⟩ a).setCell ⟨g, j, none⟩ b).setCell ⟨g, k, none⟩ c).setCell ⟨g, l, none⟩ d) :=
  (((hk.trans (Kept.set i a)).trans (Kept.set j b)).trans (Kept.set k c)).trans (Kept.set l d)
/-- A row on its way: its order, and all else as it was. -/
structure On (g n : Nat) (vals : Vals) (f : Nat → Nat) (w W : World) : Prop where
  row : Row g n vals f W
  kept : Kept (some g) w W
theorem On.swp {g n : Nat} {vals : Vals} {f : Nat → Nat} {w W : World} (h : On g n vals f w W) {i j : Nat} (hi : i < n) (hj : j < n) :
    On g n vals (swp f i j) w ((((W.setCell ⟨g, i * 2, none⟩ (vals (f j)).1).setCell ⟨g, i * 2 + 1, none⟩ (vals (f j)).2).setCell ⟨g, j * 2, none⟩ (vals (f i)).1).setCell ⟨g, j * 2 + 1, none⟩ (vals (f i)).2) :=
  ⟨h.row.swp hi hj, kept_swp h.kept _ _ _ _ _ _ _ _⟩
theorem On.below {g n : Nat} {vals : Vals} {f : Nat → Nat} {w W W1 : World} (h : On g n vals f w W) (hb : Below W.heap.size W W1) : On g n vals f w W1 :=
  ⟨h.row.below hb, h.kept.trans (Kept.of hb)⟩

/-- What the walks lean on. -/
structure Env (g n c : Nat) (vals : Vals) (key : Nat → Bytes) (w : World) : Prop where
  hv : SliceVals vals
  hk : ∀ i, BIn (fun b => b ≠ g) w (vals i).1 (key i)
  hn : n ≤ 100000
  hc : n ≤ c

set_option maxHeartbeats 1600000 in
theorem cmp58_any {S S' S1 S2 : Nat → Prop} (kv xv kv' xv' : Value) (k k' : Bytes) (W : World) (h1 : BIn S W kv k) (h2 : BIn S' W kv' k') (hx : ∃ A n c, xv = .slice A n c) (hx' : ∃ A n c, xv' = .slice A n c) :
    Calls Try.prog 25 #[.agg #[kv, xv], .agg #[kv', xv']] W fun e W' => e = .returned (.int .i64 (cmp k k')) ∧ Below W.heap.size W W' := by
  obtain ⟨A, n, c, rfl⟩ := h1.slice
  obtain ⟨A', n', c', rfl⟩ := h2.slice
  obtain ⟨B, m, d, rfl⟩ := hx
  obtain ⟨B', m', d', rfl⟩ := hx'
  have hb1 := (Below.refl _ W).alloc (Nat.le_refl _) (.cells #[.slice A n c, .slice B m d] 34)
  have hb2 := hb1.alloc hb1.size (.cells #[.slice A' n' c', .slice B' m' d'] 34)
  have t1 : Two ((W.alloc (.cells #[.slice A n c, .slice B m d] 34)).alloc (.cells #[.slice A' n' c', .slice B' m' d'] 34)) W.heap.size (.slice A n c) (.slice B m d) := heap_old _ (heap_new W _)
  have t2 : Two ((W.alloc (.cells #[.slice A n c, .slice B m d] 34)).alloc (.cells #[.slice A' n' c', .slice B' m' d'] 34)) (W.heap.size + 1) (.slice A' n' c') (.slice B' m' d') := by
    have := heap_new (W.alloc (.cells #[.slice A n c, .slice B m d] 34)) (.cells #[.slice A' n' c', .slice B' m' d'] 34)
    rw [World.size_alloc] at this
    exact this
  have HC := Lib.hid (compare_any (.slice A n c) (.slice A' n' c') k k' _ (h1.below hb2) (h2.below hb2))
  have HB := Lib.hid hb2
  obtain ⟨a0, a1⟩ := t1.cells
  obtain ⟨b0, b1⟩ := t2.cells
  clear hb1 hb2 t1 t2 h1 h2
  go_enter Try.func25, Try.ntmps25
  go_wp2_with fail
  refine HC.out.mono ?_
  rintro e w1 ⟨rfl, rfl⟩
  go_wp2_with fail
  go_ret
  exact ⟨rfl, HB.out⟩

theorem Env.cmp {g n c : Nat} {vals : Vals} {key : Nat → Bytes} {w W : World} {f : Nat → Nat} (h : Env g n c vals key w) (hO : On g n vals f w W) (i j : Nat) :
    Calls Try.prog 25 #[.agg #[(vals i).1, (vals i).2], .agg #[(vals j).1, (vals j).2]] W fun e W' => e = .returned (.int .i64 (cmp (key i) (key j))) ∧ Below W.heap.size W W' :=
  cmp58_any (S1 := fun _ => True) (S2 := fun _ => True) _ _ _ _ _ _ W ((h.hk i).kept hO.kept fun b hb e => hb (Option.some.inj e).symm) ((h.hk j).kept hO.kept fun b hb e => hb (Option.some.inj e).symm) (h.hv i).2 (h.hv j).2

def less (key : Nat → Bytes) (i j : Nat) : Bool := decide (cmp (key i) (key j) = -1)
def lt (key : Nat → Bytes) (i j : Nat) : Prop := cmp (key i) (key j) = -1 ∨ (key i = key j ∧ i < j)
theorem ord (key : Nat → Bytes) : Ord (less key) (lt key) := by
  refine ⟨fun x y h => .inl (of_decide_eq_true h), fun x y h hxy => ?_, fun x y z h1 h2 => ?_⟩
  · have h' := of_decide_eq_false h
    rcases cmp3 (key x) (key y) with e | e | e
    · exact .inr ⟨((cmp_eq0 _ _).1 e).symm, hxy⟩
    · exact .inl (cmp_gt e)
    · exact absurd e h'
  · rcases h1 with h1 | ⟨e1, h1⟩ <;> rcases h2 with h2 | ⟨e2, h2⟩
    · exact .inl (cmp_lt_trans _ _ _ h1 h2)
    · exact .inl (by rw [← e2]; exact h1)
    · exact .inl (by rw [e1]; exact h2)
    · exact .inr ⟨e1.trans e2, by omega⟩
theorem irr (key : Nat → Bytes) : ∀ x, ¬ lt key x x := by
  intro x h
  rcases h with h | ⟨_, h⟩
  · rw [cmp_self] at h; exact absurd h (by decide)
  · omega
theorem less_neg {key : Nat → Bytes} {i j : Nat} {cv : Int} (h : cmp (key i) (key j) = cv) : less key i j = decide (cv < 0) := by
  unfold less
  rw [decide_eq_decide, h]
  have := cmp3 (key i) (key j)
  have h' : Lib.compareBytes (key i) (key j) = cv := h
  rw [h'] at this
  omega

def fnC : Value := .func (.func 25) #[] #[]

set_option maxRecDepth 100000 in
set_option maxHeartbeats 1600000 in
theorem swapRange_any (g n c : Nat) (vals : Vals) (key : Nat → Bytes) (fn : Value) (f : Nat → Nat) (a b k : Nat) (w W : World) (he : Env g n c vals key w) (h : On g n vals f w W) (hab : a + k ≤ b) (hb : b + k ≤ n) :
    Calls Try.prog 40 #[.slice (some ⟨g, 0, none⟩) n c, .int .i64 (a : Int), .int .i64 (b : Int), .int .i64 (k : Int), fn] W fun e W' => e = .returned (.tuple #[]) ∧ On g n vals (swr f a b k) w W' := by
  have HE := Lib.hid he
  have H0 := Lib.hid h
  have hn := he.hn
  have hc := he.hc
  clear he h
  go_enter Try.func40, Try.ntmps40
  go_wp2_with fail
  go_loopw [10] (fun v wr => ∃ i : Nat, v = .int .i64 (i : Int) ∧ i ≤ k ∧ Hid (On g n vals (swr f a b i) w wr)) (fun v _ => k - (intOf v).toNat)
  case atStart => exact ⟨0, rfl, by omega, by rw [swr_zero]; exact H0⟩
  case round =>
    obtain ⟨i, rfl, hi, hO⟩ := hrel
    by_cases hlt : i < k
    · have hlt' : (i : Int) < (k : Int) := by omega
      have HS := Lib.hid (swr_succ f a b i k hab hlt)
      obtain ⟨ai, hai⟩ : ∃ ai, a + i = ai := ⟨_, rfl⟩
      obtain ⟨bi, hbi⟩ : ∃ bi, b + i = bi := ⟨_, rfl⟩
      rw [hai, hbi] at HS
      obtain ⟨p0, p1⟩ := hO.out.row.cells (show ai < n by omega)
      obtain ⟨q0, q1⟩ := hO.out.row.cells (show bi < n by omega)
      have f0 := hO.out.row.free (show ai * 2 < n * 2 by omega)
      have f1 := hO.out.row.free (show ai * 2 + 1 < n * 2 by omega)
      have f2 := hO.out.row.free (show bi * 2 < n * 2 by omega)
      have f3 := hO.out.row.free (show bi * 2 + 1 < n * 2 by omega)
      have HN := Lib.hid ((hO.out.swp (show ai < n by omega) (show bi < n by omega)).below (below_drew2 (Below.refl _ _)))
      obtain ⟨A1, n1, c1, e1⟩ := (HE.out.hv ((swr f a b i) ai)).1
      obtain ⟨A2, n2, c2, e2⟩ := (HE.out.hv ((swr f a b i) ai)).2
      obtain ⟨A3, n3, c3, e3⟩ := (HE.out.hv ((swr f a b i) bi)).1
      obtain ⟨A4, n4, c4, e4⟩ := (HE.out.hv ((swr f a b i) bi)).2
      rw [e1] at p0 HN
      rw [e2] at p1 HN
      rw [e3] at q0 HN
      rw [e4] at q1 HN
      clear e1 e2 e3 e4
      have wa : IntKind.i64.wrap ((a : Int) + (i : Int)) = (ai : Int) := by rw [i64_small (by omega)]; omega
      have wb : IntKind.i64.wrap ((b : Int) + (i : Int)) = (bi : Int) := by rw [i64_small (by omega)]; omega
      have l1 : (ai : Int) < (n : Int) := by omega
      have l2 : (bi : Int) < (n : Int) := by omega
      have l3 : (0 : Int) ≤ (ai : Int) := by omega
      have l4 : (0 : Int) ≤ (bi : Int) := by omega
      have hne : ¬ ai = bi := by omega
      have hne2 : ¬ bi = ai := by omega
      clear hai hbi
      go_upto_region 3 with fail
      go_region
      go_wp2_with fail
      go_roundw
      case rel => exact ⟨i + 1, by go_num, by omega, by rw [← HS.out]; exact HN⟩
      case measure => simp [intOf]; omega
    · obtain rfl : i = k := by omega
      go_wp2_with fail
      exact bodyPost_end (results_none rfl _ _ _) rfl ⟨rfl, hO.out⟩

set_option maxRecDepth 100000 in
set_option maxHeartbeats 1600000 in
theorem rotate_any (g n c : Nat) (vals : Vals) (key : Nat → Bytes) (fn : Value) (f : Nat → Nat) (a m b : Nat) (w W : World) (he : Env g n c vals key w) (h : On g n vals f w W) (ham : a < m) (hmb : m < b) (hb : b ≤ n) :
    Calls Try.prog 39 #[.slice (some ⟨g, 0, none⟩) n c, .int .i64 (a : Int), .int .i64 (m : Int), .int .i64 (b : Int), fn] W fun e W' => e = .returned (.tuple #[]) ∧ On g n vals (rot f a m b) w W' := by
  have HE := Lib.hid he
  have H0 := Lib.hid h
  have hn := he.hn
  have hc := he.hc
  clear he h
  go_enter Try.func39, Try.ntmps39
  go_wp2_with fail
  go_loopw [10, 11] (fun u v wr => ∃ (i j : Nat) (fk : Nat → Nat), u = .int .i64 (i : Int) ∧ v = .int .i64 (j : Int) ∧ 0 < i ∧ 0 < j ∧ i ≤ m ∧ m + j ≤ b ∧ Hid (On g n vals fk w wr ∧ rot fk (m - i) m (m + j) = rot f a m b)) (fun u v _ => (intOf u).toNat + (intOf v).toNat)
  case atStart =>
    refine ⟨m - a, b - m, f, by rw [show ((m - a : Nat) : Int) = (m : Int) - (a : Int) by omega], by rw [show ((b - m : Nat) : Int) = (b : Int) - (m : Int) by omega], by omega, by omega, by omega, by omega, Lib.hid ⟨H0.out, ?_⟩⟩
    rw [show m - (m - a) = a by omega, show m + (b - m) = b by omega]
  case round =>
    obtain ⟨i, j, fk, rfl, rfl, hi, hj, him, hjb, hI⟩ := hrel
    by_cases hij : i = j
    · subst hij
      have hs := swapRange_any g n c vals key fn fk (m - i) m i w wr HE.out hI.out.1 (by omega) (by omega)
      rw [show ((m - i : Nat) : Int) = (m : Int) - (i : Int) by omega] at hs
      have HS := Lib.hid hs
      have HR : Hid (swr fk (m - i) m i = rot f a m b) := (rot_same fk m i him).symm.trans hI.out.2
      clear hs
      go_wp2_with fail
      refine HS.out.mono ?_
      rintro e w1 ⟨rfl, hO⟩
      rw [HR.out] at hO
      have HO := Lib.hid hO
      clear hO
      go_wp2_with fail
      exact bodyPost_end (results_none rfl _ _ _) rfl ⟨rfl, HO.out⟩
    · have hne : ¬ (i : Int) = (j : Int) := by omega
      by_cases hgt : j < i
      · have hgt' : (j : Int) < (i : Int) := by omega
        have hs := swapRange_any g n c vals key fn fk (m - i) m j w wr HE.out hI.out.1 (by omega) (by omega)
        rw [show ((m - i : Nat) : Int) = (m : Int) - (i : Int) by omega] at hs
        have HS := Lib.hid hs
        have HR : Hid (rot (swr fk (m - i) m j) (m - (i - j)) m (m + j) = rot f a m b) := (rot_big fk m i j hgt him).symm.trans hI.out.2
        clear hs
        go_wp2_with fail
        refine HS.out.mono ?_
        rintro e w1 ⟨rfl, hO⟩
        have HO := Lib.hid hO
        clear hO
        go_wp2_with fail
        go_roundw
        case rel => exact ⟨i - j, j, _, by rw [show ((i - j : Nat) : Int) = (i : Int) - (j : Int) by omega], rfl, by omega, hj, by omega, hjb, Lib.hid ⟨HO.out, HR.out⟩⟩
        case measure => simp [intOf]; omega
      · have hgt' : ¬ (j : Int) < (i : Int) := by omega
        have hs := swapRange_any g n c vals key fn fk (m - i) (m + j - i) i w wr HE.out hI.out.1 (by omega) (by omega)
        rw [show ((m - i : Nat) : Int) = (m : Int) - (i : Int) by omega, show ((m + j - i : Nat) : Int) = (m : Int) + (j : Int) - (i : Int) by omega] at hs
        have HS := Lib.hid hs
        have HR : Hid (rot (swr fk (m - i) (m + j - i) i) (m - i) m (m + (j - i)) = rot f a m b) := (rot_small fk m i j (by omega) him).symm.trans hI.out.2
        clear hs
        go_wp2_with fail
        refine HS.out.mono ?_
        rintro e w1 ⟨rfl, hO⟩
        have HO := Lib.hid hO
        clear hO
        go_wp2_with fail
        go_roundw
        case rel => exact ⟨i, j - i, _, rfl, by rw [show ((j - i : Nat) : Int) = (j : Int) - (i : Int) by omega], hi, by omega, him, by omega, Lib.hid ⟨HO.out, HR.out⟩⟩
        case measure => simp [intOf]; omega

end Go.Proofs.Ytocideolihbnaaa
