/- The package pair: Come: sorted, the last of each key. -/
import Derived.Test.YtnfhbljhohjkhaaPOwn
import Derived.Test.YtnfhbljhohjkhaaSStable
set_option linter.unusedVariables false
set_option linter.unusedSimpArgs false
namespace Go.Proofs.Ytnfhbljhohjkhaa
open Go.RowKit Stab

/-! ### bytes.Equal -/
set_option maxHeartbeats 1600000 in
theorem equal_any {S S' : Nat → Prop} (v u : Value) (a b : Bytes) (w : World) (h : BIn S w v a) (h' : BIn S' w u b) :
    Calls Try.prog 77 #[v, u] w fun e w' => e = .returned (.bool (decide (a = b))) ∧ w = w' := by
  obtain ⟨A, n, c, rfl⟩ := h.slice
  obtain ⟨A', n', c', rfl⟩ := h'.slice
  have h1 := conv_bytes h
  have h2 := conv_bytes h'
  have HE : Hid (decide (strO a = strO b) = decide (a = b)) := by
    have : decide (strO a = strO b) = decide (a = b) := by rw [decide_eq_decide]; exact strO_inj
    exact this
  rw [← HE.out]
  clear h h'
  generalize strO a = sa at *
  generalize strO b = sb at *
  by_cases he : sa = sb
  · subst he
    rw [decide_eq_true rfl]
    go_enter Try.func77, Try.ntmps77
    go_wp2_with fail
    go_ret
    exact ⟨by simp, rfl⟩
  · have he2 := text_ne he
    rw [decide_eq_false he]
    clear HE
    go_enter Try.func77, Try.ntmps77
    go_wp2_with fail
    go_ret
    exact ⟨by simp [he], rfl⟩

/-! ### What the call owns, as a sort sees it -/
def valsOf (n : Nat) (vs : List Value) : Vals := fun i => if i < n then (vs.getD (i * 2) (.slice none 0 0), vs.getD (i * 2 + 1) (.slice none 0 0)) else (.slice none 0 0, .slice none 0 0)
def keyOf' (L : Pairs) (i : Nat) : Bytes := (L.getD i ([], [])).1
theorem OwnL.sees {base n c : Nat} {W : World} {A : Option Addr} {vs : List Value} {L : Pairs} (h : OwnL base W A n c vs L) (hn : n ≤ 100000) :
    ∃ g, A = some ⟨g, 0, none⟩ ∧ base ≤ g ∧ g < W.heap.size ∧ Env g n c (valsOf n vs) (keyOf' L) W ∧ On g n (valsOf n vs) (fun p => p) W W ∧
      ∀ i, i < n → BIn (fun b => base ≤ b ∧ b ≠ g) W (valsOf n vs i).1 (L.getD i ([], [])).1 ∧ BIn (fun b => base ≤ b ∧ b ≠ g) W (valsOf n vs i).2 (L.getD i ([], [])).2 := by
  have hlen := h.len
  have hvl := h.own.1
  obtain ⟨g, hA, hb, hlt, arr, harr, hcell⟩ : ∃ g, A = some ⟨g, 0, none⟩ ∧ base ≤ g ∧ g < W.heap.size ∧ ∃ arr : Array Value, W.heap[g]? = some (.cells arr 40 (0, 0)) ∧ ∀ j, j < n * 2 → arr[j]? = vs[j]? := by
    rcases h.own.2 with ⟨hv, _⟩ | ⟨g, cap, cur, hv, hb, hg, hc, hm, hs, ht⟩
    · injection hv with h1 h2 h3; exact absurd h1 h.is
    · injection hv with h1 h2 h3
      refine ⟨g, h1, hb, (Array.getElem?_eq_some_iff.1 hg).1, cur, hg, fun j hj => ?_⟩
      have := h.own
      rw [h1] at this
      have h4 := World.ownsRow.cellAt this j hj
      have h5 : W.cell? ⟨g, j, none⟩ = cur[j]? := by simp [World.cell?, hg]
      exact h5.symm.trans h4
  have hc : n ≤ c := by
    rcases h.own.2 with ⟨hv, h0⟩ | ⟨g, cap, cur, hv, hb, hg, hc, hm, hs, ht⟩
    · omega
    · injection hv with h1 h2 h3; omega
  have hown : ∀ i, i < n → BIn (fun b => base ≤ b ∧ b ≠ g) W (valsOf n vs i).1 (L.getD i ([], [])).1 ∧ BIn (fun b => base ≤ b ∧ b ≠ g) W (valsOf n vs i).2 (L.getD i ([], [])).2 := by
    intro i hi
    obtain ⟨kv, xv, e1, e2, e3, e4⟩ := h.ps.at_ i (by omega)
    simp only [valsOf, if_pos hi]
    have g1 : vs.getD (i * 2) (.slice none 0 0) = kv := by rw [List.getD_eq_getElem?_getD, e1]; rfl
    have g2 : vs.getD (i * 2 + 1) (.slice none 0 0) = xv := by rw [List.getD_eq_getElem?_getD, e2]; rfl
    rw [g1, g2]
    have far : ∀ b, base ≤ b ∧ (Value.slice A n c).ownBlock ≠ some b → base ≤ b ∧ b ≠ g := fun b hb => ⟨hb.1, fun e => hb.2 (by rw [hA, e]; rfl)⟩
    exact ⟨e3.imp fun b _ hb => far b hb, e4.imp fun b _ hb => far b hb⟩
  refine ⟨g, hA, hb, hlt, ⟨fun i => ?_, fun i => ?_, hn, hc⟩, ⟨⟨arr, harr, fun p hp => ?_⟩, Kept.refl _ _⟩, hown⟩
  · by_cases hi : i < n
    · exact ⟨(hown i hi).1.slice, (hown i hi).2.slice⟩
    · simp only [valsOf, if_neg hi]; exact ⟨⟨_, _, _, rfl⟩, ⟨_, _, _, rfl⟩⟩
  · by_cases hi : i < n
    · exact (hown i hi).1.imp fun b _ hb => hb.2
    · simp only [valsOf, if_neg hi, keyOf']
      have : L.getD i ([], []) = ([], []) := by rw [List.getD_eq_getElem?_getD, List.getElem?_eq_none (by omega)]; rfl
      rw [this]; exact BIn.nil _ _
  · rw [hcell _ (by omega), hcell _ (by omega)]
    simp only [valsOf, if_pos hp]
    obtain ⟨kv, xv, e1, e2, _, _⟩ := h.ps.at_ p (by omega)
    rw [List.getD_eq_getElem?_getD, List.getD_eq_getElem?_getD, e1, e2]
    exact ⟨rfl, rfl⟩
/-- The pairs in their new order. -/
def sortL (L : Pairs) (f : Nat → Nat) (n : Nat) : Pairs := (List.range n).map fun p => L.getD (f p) ([], [])
theorem sortL_len (L : Pairs) (f : Nat → Nat) (n : Nat) : (sortL L f n).length = n := by simp [sortL]
theorem sortL_at (L : Pairs) (f : Nat → Nat) (n : Nat) {p : Nat} (hp : p < n) : (sortL L f n).getD p ([], []) = L.getD (f p) ([], []) := by
  simp [sortL, List.getD_eq_getElem?_getD, List.getElem?_map, List.getElem?_range hp]
theorem On.reads {base g n c : Nat} {W W' : World} {vs : List Value} {L : Pairs} {f : Nat → Nat} (h : On g n (valsOf n vs) f W W') (hb : base ≤ g) (hg : g < W.heap.size)
    (hown : ∀ i, i < n → BIn (fun b => base ≤ b ∧ b ≠ g) W (valsOf n vs i).1 (L.getD i ([], [])).1 ∧ BIn (fun b => base ≤ b ∧ b ≠ g) W (valsOf n vs i).2 (L.getD i ([], [])).2) (hf : ∀ p, p < n → f p < n) :
    LIn (fun b => base ≤ b) W' (some ⟨g, 0, none⟩) n (sortL L f n) := by
  refine ⟨sortL_len L f n, fun hn => ⟨g, 0, rfl, Nat.lt_of_lt_of_le hg h.kept.size, hb, fun j hj => ?_⟩⟩
  obtain ⟨c0, c1⟩ := h.row.cells hj
  obtain ⟨k1, k2⟩ := hown (f j) (hf j hj)
  rw [sortL_at L f n hj, Nat.zero_add]
  exact ⟨_, _, c0, c1, (k1.kept h.kept fun b hb e => hb.2 (Option.some.inj e).symm).imp fun b _ hb => hb.1, (k2.kept h.kept fun b hb e => hb.2 (Option.some.inj e).symm).imp fun b _ hb => hb.1⟩

/-! ### The last of each key -/
def keepB (M : Pairs) (p : Nat) : Bool := !(decide (p + 1 < M.length) && decide ((M.getD (p + 1) ([], [])).1 = (M.getD p ([], [])).1))
def dd (M : Pairs) (j : Nat) : Pairs := ((List.range j).filter fun p => keepB M p).map fun p => M.getD p ([], [])
theorem dd_succ (M : Pairs) (j : Nat) : dd M (j + 1) = dd M j ++ (if keepB M j = true then [((M.getD j ([], [])).1, (M.getD j ([], [])).2)] else []) := by
  unfold dd
  rw [List.range_succ, List.filter_append, List.map_append]
  congr 1
  by_cases h : keepB M j = true
  · rw [if_pos h]; simp [h]
  · rw [if_neg h]; simp [h]
theorem dd_len (M : Pairs) (j : Nat) : (dd M j).length ≤ j := by
  unfold dd
  rw [List.length_map]
  exact Nat.le_trans (List.length_filter_le _ _) (by simp)

theorem World.cell?_of_below {w W : World} {a : Addr} {v : Value} (h : Below w.heap.size w W) (hc : w.cell? a = some v) : W.cell? a = some v := (h.cell (World.block_lt_of_cell? w a hc)).trans hc
/-- What Come tells: a list, and the order that led to it. -/
def Came (w w' : World) (e : Ending) (L : Pairs) (n : Nat) : Prop := ∃ A' c' f, e = .returned (.slice A' (dd (sortL L f n) n).length c') ∧ (dd (sortL L f n) n).length ≤ c' ∧ LIn (New w.heap.size) w' A' (dd (sortL L f n) n).length (dd (sortL L f n) n) ∧
  Post (lt (keyOf' L)) 0 n (fun p => p) f ∧ Below w.heap.size w w' ∧ ((A' = none ∧ c' = 0) ∨ ∃ g, A' = some ⟨g, 0, none⟩)

end Go.Proofs.Ytnfhbljhohjkhaa
