/- Texts put together: SIns SOne SMerge SStable PCome PPlain PSame. -/
import Derived.Test.YtphjaebkcimklaaGreatDoorMs1
import Derived.Deep.DeepCutAuto
import Derived.Test.YtphjaebkcimklaaGreatDoorTPlain
/- Insertion sort over a row of pairs. -/
set_option linter.unusedVariables false
set_option linter.unusedSimpArgs false
namespace Go.Proofs.YtphjaebkcimklaaGreatDoor
open Go.RowKit Stab

end Go.Proofs.YtphjaebkcimklaaGreatDoor

/- The merge of a stable sort over a row of pairs: where one side is a single pair. -/
set_option linter.unusedVariables false
set_option linter.unusedSimpArgs false
namespace Go.Proofs.YtphjaebkcimklaaGreatDoor
open Go.RowKit Stab

end Go.Proofs.YtphjaebkcimklaaGreatDoor

/- The merge of a stable sort over a row of pairs; the sort. -/
set_option linter.unusedVariables false
set_option linter.unusedSimpArgs false
namespace Go.Proofs.YtphjaebkcimklaaGreatDoor
open Go.RowKit Stab

theorem wsm (x : Int) (h : -10000000 ≤ x ∧ x ≤ 10000000) : IntKind.i64.wrap x = x := i64_small (by omega)

end Go.Proofs.YtphjaebkcimklaaGreatDoor

/- The stable sort over a row of pairs. -/
set_option linter.unusedVariables false
set_option linter.unusedSimpArgs false
namespace Go.Proofs.YtphjaebkcimklaaGreatDoor
open Go.RowKit Stab

/-! ### Blocks, each in order -/
structure Blk (lt : Nat → Nat → Prop) (lo hi : Nat) (f : Nat → Nat) : Prop where
  asc : Asc' lt lo hi f
  own : ∀ p, lo ≤ p → p < hi → lo ≤ f p ∧ f p < hi
theorem Blk.congr {lt : Nat → Nat → Prop} {lo hi : Nat} {f g : Nat → Nat} (h : Blk lt lo hi f) (he : ∀ p, lo ≤ p → p < hi → g p = f p) : Blk lt lo hi g :=
  ⟨fun p q h1 h2 h3 => by rw [he p h1 (by omega), he q (by omega) h3]; exact h.asc p q h1 h2 h3, fun p h1 h2 => by rw [he p h1 h2]; exact h.own p h1 h2⟩
theorem Blk.pre {lt : Nat → Nat → Prop} {a m b : Nat} {f : Nat → Nat} (h1 : Blk lt a m f) (h2 : Blk lt m b f) (ha : a ≤ m) (hb : m ≤ b) : Pre lt a m b f :=
  ⟨ha, hb, h1.asc, h2.asc, fun p q h3 h4 h5 h6 => by have := h1.own p h3 h4; have := h2.own q h5 h6; omega⟩
theorem Blk.merged {lt : Nat → Nat → Prop} {a m b : Nat} {f g : Nat → Nat} (h1 : Blk lt a m f) (h2 : Blk lt m b f) (ha : a ≤ m) (hb : m ≤ b) (hp : Post lt a b f g) : Blk lt a b g := by
  refine ⟨hp.2, fun p h3 h4 => ?_⟩
  obtain ⟨q, hq1, hq2, e⟩ := hp.1.fro p h3 h4
  rw [e]
  by_cases hqm : q < m
  · have := h1.own q hq1 hqm; omega
  · have := h2.own q (by omega) hq2; omega
theorem Blk.fresh {lt : Nat → Nat → Prop} {a b : Nat} {f g : Nat → Nat} (hf : ∀ p, a ≤ p → p < b → f p = p) (hp : Post lt a b f g) : Blk lt a b g := by
  refine ⟨hp.2, fun p h3 h4 => ?_⟩
  obtain ⟨q, hq1, hq2, e⟩ := hp.1.fro p h3 h4
  rw [e, hf q hq1 hq2]; omega
inductive Chain (lt : Nat → Nat → Prop) (bs n : Nat) (f : Nat → Nat) : Nat → Prop
  | stop (lo : Nat) (h : n ≤ lo) : Chain lt bs n f lo
  | step (lo : Nat) (h : lo < n) (hb : Blk lt lo (min (lo + bs) n) f) (hc : Chain lt bs n f (lo + bs)) : Chain lt bs n f lo
theorem Chain.congr {lt : Nat → Nat → Prop} {bs n : Nat} {f g : Nat → Nat} {lo : Nat} (h : Chain lt bs n f lo) : (∀ p, lo ≤ p → g p = f p) → Chain lt bs n g lo := by
  induction h with
  | stop lo h => intro _; exact .stop lo h
  | step lo h hb hc ih => intro he; exact .step lo h (hb.congr fun p h1 _ => he p h1) (ih fun p h1 => he p (by omega))
theorem Chain.at_ {lt : Nat → Nat → Prop} {bs n : Nat} {f : Nat → Nat} {lo : Nat} (h : Chain lt bs n f lo) (hlt : lo < n) : Blk lt lo (min (lo + bs) n) f ∧ Chain lt bs n f (lo + bs) := by
  cases h with
  | stop _ h => omega
  | step _ h hb hc => exact ⟨hb, hc⟩
/-- What lies ahead of a place is done. -/
def Pref (lt : Nat → Nat → Prop) (bs n a : Nat) (f : Nat → Nat) : Prop := ∀ g : Nat → Nat, (∀ p, p < a → g p = f p) → Chain lt bs n g a → Chain lt bs n g 0
theorem Pref.zero (lt : Nat → Nat → Prop) (bs n : Nat) (f : Nat → Nat) : Pref lt bs n 0 f := fun g _ h => h
theorem Pref.step {lt : Nat → Nat → Prop} {bs n a b : Nat} {f g : Nat → Nat} (h : Pref lt bs n a f) (hb : b = a + bs) (hbn : b ≤ n) (h0 : 0 < bs) (hm : Mix a b f g) (hblk : Blk lt a b g) : Pref lt bs n b g := by
  intro k hk hc
  refine h k (fun p hp => (hk p (by omega)).trans (hm.out p (by omega))) (.step a (by omega) ?_ (by rw [← hb]; exact hc))
  rw [Nat.min_eq_left (by omega), ← hb]
  exact hblk.congr fun p _ h2 => hk p h2
/-- The last, short one. -/
theorem Pref.last {lt : Nat → Nat → Prop} {bs n a : Nat} {f g : Nat → Nat} (h : Pref lt bs n a f) (hbn : n < a + bs) (hm : Mix a n f g) (hblk : a < n → Blk lt a n g) : Chain lt bs n g 0 := by
  refine h g (fun p hp => hm.out p (by omega)) ?_
  by_cases ha : a < n
  · refine .step a ha ?_ (.stop _ (by omega))
    rw [Nat.min_eq_right (by omega)]
    exact hblk ha
  · exact .stop _ (by omega)

end Go.Proofs.YtphjaebkcimklaaGreatDoor

/- The package pair: Come: sorted, the last of each key. -/
set_option linter.unusedVariables false
set_option linter.unusedSimpArgs false
namespace Go.Proofs.YtphjaebkcimklaaGreatDoor
open Go.RowKit Stab

/-! ### bytes.Equal -/
set_option maxHeartbeats 1600000 in
theorem equal_any {S S' : Nat → Prop} (v u : Value) (a b : Bytes) (w : World) (h : BIn S w v a) (h' : BIn S' w u b) :
    Calls Tryz.prog 38 #[v, u] w fun e w' => e = .returned (.bool (decide (a = b))) ∧ w = w' := by
  obtain ⟨A, n, c, rfl⟩ := h.slice
  obtain ⟨A', n', c', rfl⟩ := h'.slice
  have h1 := conv_bytes h
  have h2 := conv_bytes h'
  have HE : Hid (decide (strO a = strO b) = decide (a = b)) := by
    have : decide (strO a = strO b) = decide (a = b) := by rw [decide_eq_decide]; exact strO_inj
    exact this
  rw [← HE.out]
  clear h h'
  generalize strO a = sa at *
  generalize strO b = sb at *
  by_cases he : sa = sb
  · subst he
    rw [decide_eq_true rfl]
    go_enter Tryz.func38, Tryz.ntmps38
    go_wp2_with fail
    go_ret
    exact ⟨by simp, rfl⟩
  · have he2 := text_ne he
    rw [decide_eq_false he]
    clear HE
    go_enter Tryz.func38, Tryz.ntmps38
    go_wp2_with fail
    go_ret
    exact ⟨by simp [he], rfl⟩

/-! ### What the call owns, as a sort sees it -/
def valsOf (n : Nat) (vs : List Value) : Vals := fun i => if i < n then (vs.getD (i * 2) (.slice none 0 0), vs.getD (i * 2 + 1) (.slice none 0 0)) else (.slice none 0 0, .slice none 0 0)
def keyOf' (L : Pairs) (i : Nat) : Bytes := (L.getD i ([], [])).1
theorem OwnL.sees {base n c : Nat} {W : World} {A : Option Addr} {vs : List Value} {L : Pairs} (h : OwnL base W A n c vs L) (hn : n ≤ 100000) :
    ∃ g, A = some ⟨g, 0, none⟩ ∧ base ≤ g ∧ g < W.heap.size ∧ Env g n c (valsOf n vs) (keyOf' L) W ∧ On g n (valsOf n vs) (fun p => p) W W ∧
      ∀ i, i < n → BIn (fun b => base ≤ b ∧ b ≠ g) W (valsOf n vs i).1 (L.getD i ([], [])).1 ∧ BIn (fun b => base ≤ b ∧ b ≠ g) W (valsOf n vs i).2 (L.getD i ([], [])).2 := by
  have hlen := h.len
  have hvl := h.own.1
  obtain ⟨g, hA, hb, hlt, arr, harr, hcell⟩ : ∃ g, A = some ⟨g, 0, none⟩ ∧ base ≤ g ∧ g < W.heap.size ∧ ∃ arr : Array Value, W.heap[g]? = some (.cells arr 60 (0, 0)) ∧ ∀ j, j < n * 2 → arr[j]? = vs[j]? := by
    rcases h.own.2 with ⟨hv, _⟩ | ⟨g, cap, cur, hv, hb, hg, hc, hm, hs, ht⟩
    · injection hv with h1 h2 h3; exact absurd h1 h.is
    · injection hv with h1 h2 h3
      refine ⟨g, h1, hb, (Array.getElem?_eq_some_iff.1 hg).1, cur, hg, fun j hj => ?_⟩
      have := h.own
      rw [h1] at this
      have h4 := World.ownsRow.cellAt this j hj
      have h5 : W.cell? ⟨g, j, none⟩ = cur[j]? := by simp [World.cell?, hg]
      exact h5.symm.trans h4
  have hc : n ≤ c := by
    rcases h.own.2 with ⟨hv, h0⟩ | ⟨g, cap, cur, hv, hb, hg, hc, hm, hs, ht⟩
    · omega
    · injection hv with h1 h2 h3; omega
  have hown : ∀ i, i < n → BIn (fun b => base ≤ b ∧ b ≠ g) W (valsOf n vs i).1 (L.getD i ([], [])).1 ∧ BIn (fun b => base ≤ b ∧ b ≠ g) W (valsOf n vs i).2 (L.getD i ([], [])).2 := by
    intro i hi
    obtain ⟨kv, xv, e1, e2, e3, e4⟩ := h.ps.at_ i (by omega)
    simp only [valsOf, if_pos hi]
    have g1 : vs.getD (i * 2) (.slice none 0 0) = kv := by rw [List.getD_eq_getElem?_getD, e1]; rfl
    have g2 : vs.getD (i * 2 + 1) (.slice none 0 0) = xv := by rw [List.getD_eq_getElem?_getD, e2]; rfl
    rw [g1, g2]
    have far : ∀ b, base ≤ b ∧ (Value.slice A n c).ownBlock ≠ some b → base ≤ b ∧ b ≠ g := fun b hb => ⟨hb.1, fun e => hb.2 (by rw [hA, e]; rfl)⟩
    exact ⟨e3.imp fun b _ hb => far b hb, e4.imp fun b _ hb => far b hb⟩
  refine ⟨g, hA, hb, hlt, ⟨fun i => ?_, fun i => ?_, hn, hc⟩, ⟨⟨arr, harr, fun p hp => ?_⟩, Kept.refl _ _⟩, hown⟩
  · by_cases hi : i < n
    · exact ⟨(hown i hi).1.slice, (hown i hi).2.slice⟩
    · simp only [valsOf, if_neg hi]; exact ⟨⟨_, _, _, rfl⟩, ⟨_, _, _, rfl⟩⟩
  · by_cases hi : i < n
    · exact (hown i hi).1.imp fun b _ hb => hb.2
    · simp only [valsOf, if_neg hi, keyOf']
      have : L.getD i ([], []) = ([], []) := by rw [List.getD_eq_getElem?_getD, List.getElem?_eq_none (by omega)]; rfl
      rw [this]; exact BIn.nil _ _
  · rw [hcell _ (by omega), hcell _ (by omega)]
    simp only [valsOf, if_pos hp]
    obtain ⟨kv, xv, e1, e2, _, _⟩ := h.ps.at_ p (by omega)
    rw [List.getD_eq_getElem?_getD, List.getD_eq_getElem?_getD, e1, e2]
    exact ⟨rfl, rfl⟩
/-- The pairs in their new order. -/
def sortL (L : Pairs) (f : Nat → Nat) (n : Nat) : Pairs := (List.range n).map fun p => L.getD (f p) ([], [])
theorem sortL_len (L : Pairs) (f : Nat → Nat) (n : Nat) : (sortL L f n).length = n := by simp [sortL]
theorem sortL_at (L : Pairs) (f : Nat → Nat) (n : Nat) {p : Nat} (hp : p < n) : (sortL L f n).getD p ([], []) = L.getD (f p) ([], []) := by
  simp [sortL, List.getD_eq_getElem?_getD, List.getElem?_map, List.getElem?_range hp]
theorem On.reads {base g n c : Nat} {W W' : World} {vs : List Value} {L : Pairs} {f : Nat → Nat} (h : On g n (valsOf n vs) f W W') (hb : base ≤ g) (hg : g < W.heap.size)
    (hown : ∀ i, i < n → BIn (fun b => base ≤ b ∧ b ≠ g) W (valsOf n vs i).1 (L.getD i ([], [])).1 ∧ BIn (fun b => base ≤ b ∧ b ≠ g) W (valsOf n vs i).2 (L.getD i ([], [])).2) (hf : ∀ p, p < n → f p < n) :
    LIn (fun b => base ≤ b) W' (some ⟨g, 0, none⟩) n (sortL L f n) := by
  refine ⟨sortL_len L f n, fun hn => ⟨g, 0, rfl, Nat.lt_of_lt_of_le hg h.kept.size, hb, fun j hj => ?_⟩⟩
  obtain ⟨c0, c1⟩ := h.row.cells hj
  obtain ⟨k1, k2⟩ := hown (f j) (hf j hj)
  rw [sortL_at L f n hj, Nat.zero_add]
  exact ⟨_, _, c0, c1, (k1.kept h.kept fun b hb e => hb.2 (Option.some.inj e).symm).imp fun b _ hb => hb.1, (k2.kept h.kept fun b hb e => hb.2 (Option.some.inj e).symm).imp fun b _ hb => hb.1⟩

/-! ### The last of each key -/
def keepB (M : Pairs) (p : Nat) : Bool := !(decide (p + 1 < M.length) && decide ((M.getD (p + 1) ([], [])).1 = (M.getD p ([], [])).1))
def dd (M : Pairs) (j : Nat) : Pairs := ((List.range j).filter fun p => keepB M p).map fun p => M.getD p ([], [])
theorem dd_succ (M : Pairs) (j : Nat) : dd M (j + 1) = dd M j ++ (if keepB M j = true then [((M.getD j ([], [])).1, (M.getD j ([], [])).2)] else []) := by
  unfold dd
  rw [List.range_succ, List.filter_append, List.map_append]
  congr 1
  by_cases h : keepB M j = true
  · rw [if_pos h]; simp [h]
  · rw [if_neg h]; simp [h]
theorem dd_len (M : Pairs) (j : Nat) : (dd M j).length ≤ j := by
  unfold dd
  rw [List.length_map]
  exact Nat.le_trans (List.length_filter_le _ _) (by simp)

theorem World.cell?_of_below {w W : World} {a : Addr} {v : Value} (h : Below w.heap.size w W) (hc : w.cell? a = some v) : W.cell? a = some v := (h.cell (World.block_lt_of_cell? w a hc)).trans hc
/-- What Come tells: a list, and the order that led to it. -/
def Came (w w' : World) (e : Ending) (L : Pairs) (n : Nat) : Prop := ∃ A' c' f, e = .returned (.slice A' (dd (sortL L f n) n).length c') ∧ (dd (sortL L f n) n).length ≤ c' ∧ LIn (New w.heap.size) w' A' (dd (sortL L f n) n).length (dd (sortL L f n) n) ∧
  Post (lt (keyOf' L)) 0 n (fun p => p) f ∧ Below w.heap.size w w' ∧ ((A' = none ∧ c' = 0) ∨ ∃ g, A' = some ⟨g, 0, none⟩)

end Go.Proofs.YtphjaebkcimklaaGreatDoor

/- The plain law of Come: rising; just what the document makes, pair by pair. -/
set_option linter.unusedVariables false
set_option linter.unusedSimpArgs false
namespace Go.Proofs.YtphjaebkcimklaaGreatDoor
open Stab

theorem lt_le {key : Nat → Bytes} {i j : Nat} (h : lt key i j) : cmp (key i) (key j) = -1 ∨ key i = key j := h.elim .inl fun h => .inr h.1
theorem dd_asc (L : Pairs) (f : Nat → Nat) (n : Nat) (hL : L.length = n) (hp : Post (lt (keyOf' L)) 0 n (fun p => p) f) : Asc (dd (sortL L f n) n) := by
  have hs := hp.2
  unfold Asc dd
  rw [List.pairwise_map]
  refine List.Pairwise.imp_of_mem ?_ (List.Pairwise.filter _ List.pairwise_lt_range)
  intro p q hpm hqm hpq
  obtain ⟨hp1, hp2⟩ := List.mem_filter.1 hpm
  obtain ⟨hq1, hq2⟩ := List.mem_filter.1 hqm
  rw [List.mem_range] at hp1 hq1
  rw [sortL_at L f n hp1, sortL_at L f n hq1]
  have h1 := hs p q (Nat.zero_le _) hpq hq1
  rcases lt_le h1 with h | h
  · exact h
  · exfalso
    have hp3 : keepB (sortL L f n) p = true := hp2
    unfold keepB at hp3
    rw [sortL_len, sortL_at L f n hp1, sortL_at L f n (show p + 1 < n by omega), decide_eq_true (show p + 1 < n by omega)] at hp3
    simp only [Bool.true_and, Bool.not_eq_true', decide_eq_false_iff_not] at hp3
    apply hp3
    have h2 := lt_le (hs p (p + 1) (Nat.zero_le _) (by omega) (by omega))
    by_cases he : p + 1 = q
    · rw [he]; exact h.symm
    · have h3 := lt_le (hs (p + 1) q (Nat.zero_le _) (by omega) hq1)
      rcases h2 with h2 | h2
      · rcases h3 with h3 | h3
        · have := cmp_lt_trans _ _ _ h2 h3
          rw [h, cmp_self] at this; exact absurd this (by decide)
        · rw [h, ← h3, cmp_self] at h2; exact absurd h2 (by decide)
      · exact h2.symm

/-- What a list comes to, pair by pair. -/
def comeL (L : Pairs) : Pairs := L.foldl (fun M p => insL p.1 p.2 M) []
theorem comeL_snoc (L : Pairs) (p : Bytes × Bytes) : comeL (L ++ [p]) = insL p.1 p.2 (comeL L) := by simp [comeL]
theorem comeL_asc_from : ∀ (L M : Pairs), Asc M → Asc (L.foldl (fun M p => insL p.1 p.2 M) M)
  | [], M, h => h
  | p :: L, M, h => comeL_asc_from L _ (ins_asc p.1 p.2 M h)
theorem comeL_asc (L : Pairs) : Asc (comeL L) := comeL_asc_from L [] List.Pairwise.nil
theorem getM_memP : ∀ (A : Pairs) (k x : Bytes), Asc A → (k, x) ∈ A → getM A k = some x
  | (k', x') :: A, k, x, h, hm => by
    rw [getM]
    rcases List.mem_cons.1 hm with e | hm
    · injection e with e1 e2
      rw [e1, e2, if_pos rfl]
    · rw [if_neg (fun e => by have := h.head _ hm; rw [e, cmp_self] at this; exact absurd this (by decide))]
      exact getM_memP A k x h.tail hm
theorem getM_none' : ∀ (A : Pairs) (k : Bytes), (∀ p ∈ A, p.1 ≠ k) → getM A k = none
  | [], _, _ => rfl
  | (k', x') :: A, k, h => by
    rw [getM, if_neg (h _ (List.mem_cons_self ..))]
    exact getM_none' A k fun p hp => h p (List.mem_cons_of_mem _ hp)
theorem asc_ext : ∀ (A B : Pairs), Asc A → Asc B → (∀ k, getM A k = getM B k) → A = B
  | [], [], _, _, _ => rfl
  | [], (k, x) :: B, _, _, h => by
    have h1 := h k
    have h2 : getM ((k, x) :: B) k = some x := by rw [getM, if_pos rfl]
    rw [h2] at h1; cases h1
  | (k, x) :: A, [], _, _, h => by
    have h1 := h k
    have h2 : getM ((k, x) :: A) k = some x := by rw [getM, if_pos rfl]
    rw [h2] at h1; cases h1
  | (k, x) :: A, (k', x') :: B, hA, hB, h => by
    rcases cmp_cases k k' with hk | hk | hk
    · exfalso
      have h1 := h k
      rw [getM, if_pos rfl, getM_none' ((k', x') :: B) k] at h1
      · cases h1
      · intro p hp
        rcases List.mem_cons.1 hp with e | hp
        · rw [e]; exact (cmp_ne hk).symm
        · exact (cmp_ne (cmp_lt_trans _ _ _ hk (hB.head _ hp))).symm
    · subst hk
      have hx : x = x' := by
        have h1 := h k
        rw [getM, if_pos rfl, getM, if_pos rfl] at h1
        exact Option.some.inj h1
      subst hx
      rw [asc_ext A B hA.tail hB.tail fun key => ?_]
      by_cases hk : k = key
      · subst hk
        rw [getM_none' A k fun p hp => (cmp_ne (hA.head _ hp)).symm, getM_none' B k fun p hp => (cmp_ne (hB.head _ hp)).symm]
      · have h1 := h key
        rw [getM, if_neg hk, getM, if_neg hk] at h1
        exact h1
    · exfalso
      have h1 := h k'
      rw [getM_none' ((k, x) :: A) k', getM, if_pos rfl] at h1
      · cases h1
      · intro p hp
        rcases List.mem_cons.1 hp with e | hp
        · rw [e]; exact (cmp_ne hk).symm
        · exact (cmp_ne (cmp_lt_trans _ _ _ hk (hA.head _ hp))).symm
theorem getM_insP (k x : Bytes) : ∀ (M : Pairs) (key : Bytes), Asc M → getM (insL k x M) key = if k = key then some x else getM M key := by
  intro M key h
  by_cases hk : k = key
  · subst hk
    rw [if_pos rfl]
    refine getM_memP _ _ _ (ins_asc k x M h) ?_
    clear h
    induction M with
    | nil => simp [insL]
    | cons q M ih =>
      unfold insL
      split
      · exact List.mem_cons_of_mem _ ih
      · split <;> exact List.mem_cons_self ..
  · rw [if_neg hk]
    have hd : ∀ p, p ∈ M → p.1 ≠ k → p ∈ insL k x M := by
      clear h
      induction M with
      | nil => intro p hp; cases hp
      | cons q M ih =>
        intro p hp hne
        unfold insL
        split
        · rcases List.mem_cons.1 hp with e | hp
          · rw [e]; exact List.mem_cons_self ..
          · exact List.mem_cons_of_mem _ (ih p hp hne)
        · split
          · rename_i he
            rcases List.mem_cons.1 hp with e | hp
            · exact absurd (by rw [e]; exact he) hne
            · exact List.mem_cons_of_mem _ hp
          · exact List.mem_cons_of_mem _ hp
    cases hg : getM M key with
    | none =>
      refine getM_none' _ _ fun p hp e => ?_
      rcases ins_mem k x M p hp with rfl | hp
      · exact hk e
      · have := getM_memP M p.1 p.2 h hp
        rw [e, hg] at this; cases this
    | some y =>
      have hm : ∃ p ∈ M, p.1 = key ∧ p.2 = y := by
        clear hd
        induction M with
        | nil => cases hg
        | cons q M ih =>
          obtain ⟨qk, qx⟩ := q
          rw [getM] at hg
          by_cases e : qk = key
          · rw [if_pos e] at hg
            exact ⟨_, List.mem_cons_self .., e, Option.some.inj hg⟩
          · rw [if_neg e] at hg
            obtain ⟨p, hp, h1, h2⟩ := ih h.tail hg
            exact ⟨p, List.mem_cons_of_mem _ hp, h1, h2⟩
      obtain ⟨p, hp, h1, h2⟩ := hm
      rw [← h1, ← h2]
      exact getM_memP _ _ _ (ins_asc k x M h) (hd p hp fun e => hk (e.symm.trans h1))
theorem come_none : ∀ (L M : Pairs) (key : Bytes), Asc M → (∀ p ∈ L, p.1 ≠ key) → getM (L.foldl (fun M p => insL p.1 p.2 M) M) key = getM M key
  | [], _, _, _, _ => rfl
  | p :: L, M, key, hM, h => by
    rw [List.foldl_cons, come_none L _ key (ins_asc _ _ _ hM) fun q hq => h q (List.mem_cons_of_mem _ hq), getM_insP _ _ _ _ hM, if_neg (h p (List.mem_cons_self ..))]
theorem come_last (L : Pairs) (t : Nat) (ht : t < L.length) (hl : ∀ i, t < i → i < L.length → (L.getD i ([], [])).1 ≠ (L.getD t ([], [])).1) : getM (comeL L) (L.getD t ([], [])).1 = some (L.getD t ([], [])).2 := by
  have e : L = L.take t ++ L.getD t ([], []) :: L.drop (t + 1) := by
    rw [List.getD_eq_getElem?_getD, List.getElem?_eq_getElem ht]
    simp
  have h1 : comeL L = (L.drop (t + 1)).foldl (fun M p => insL p.1 p.2 M) (insL (L.getD t ([], [])).1 (L.getD t ([], [])).2 (comeL (L.take t))) := by
    conv => lhs; rw [e]
    simp [comeL]
  rw [h1, come_none _ _ _ (ins_asc _ _ _ (comeL_asc _)), getM_insP _ _ _ _ (comeL_asc _), if_pos rfl]
  intro p hp
  obtain ⟨i, hi, rfl⟩ := List.getElem_of_mem hp
  rw [List.length_drop] at hi
  have := hl (t + 1 + i) (by omega) (by omega)
  rw [List.getD_eq_getElem?_getD, List.getElem?_eq_getElem (by omega)] at this
  rw [List.getElem_drop]; exact this
theorem last_index (L : Pairs) (key : Bytes) : (∀ p ∈ L, p.1 ≠ key) ∨ ∃ t, t < L.length ∧ (L.getD t ([], [])).1 = key ∧ ∀ i, t < i → i < L.length → (L.getD i ([], [])).1 ≠ key := by
  have main : ∀ d, d ≤ L.length → (∀ i, L.length - d ≤ i → i < L.length → (L.getD i ([], [])).1 ≠ key) ∨ ∃ t, t < L.length ∧ (L.getD t ([], [])).1 = key ∧ ∀ i, t < i → i < L.length → (L.getD i ([], [])).1 ≠ key := by
    intro d
    induction d with
    | zero => intro _; exact .inl fun i h1 h2 => by omega
    | succ d ih =>
      intro hd
      rcases ih (by omega) with h | h
      · by_cases hk : (L.getD (L.length - (d + 1)) ([], [])).1 = key
        · exact .inr ⟨L.length - (d + 1), by omega, hk, fun i h1 h2 => h i (by omega) h2⟩
        · refine .inl fun i h1 h2 => ?_
          by_cases e : i = L.length - (d + 1)
          · rw [e]; exact hk
          · exact h i (by omega) h2
      · exact .inr h
  rcases main L.length (Nat.le_refl _) with h | h
  · refine .inl fun p hp => ?_
    obtain ⟨i, hi, rfl⟩ := List.getElem_of_mem hp
    have := h i (by omega) hi
    rw [List.getD_eq_getElem?_getD, List.getElem?_eq_getElem hi] at this
    exact this
  · exact .inr h

theorem dd_come (L : Pairs) (f : Nat → Nat) (n : Nat) (hL : L.length = n) (hp : Post (lt (keyOf' L)) 0 n (fun p => p) f) : dd (sortL L f n) n = comeL L := by
  have hasc := dd_asc L f n hL hp
  refine asc_ext _ _ hasc (comeL_asc L) fun key => ?_
  rcases last_index L key with h | ⟨t, ht, hk, hl⟩
  · have e1 : getM (comeL L) key = none := (come_none L [] key List.Pairwise.nil h).trans rfl
    rw [e1]
    refine getM_none' _ _ fun p hp' => ?_
    obtain ⟨q, hq, rfl⟩ := List.mem_map.1 hp'
    obtain ⟨hq1, _⟩ := List.mem_filter.1 hq
    rw [List.mem_range] at hq1
    rw [sortL_at L f n hq1]
    obtain ⟨r, _, hr, e⟩ := hp.1.fro q (Nat.zero_le _) hq1
    rw [e, List.getD_eq_getElem?_getD, List.getElem?_eq_getElem (by omega)]
    exact h _ (List.getElem_mem _)
  · subst hk
    rw [come_last L t ht hl]
    obtain ⟨p, _, hp1, e⟩ := hp.1.to t (Nat.zero_le _) (by omega)
    have e' : f p = t := e
    refine getM_memP _ _ _ hasc ?_
    refine List.mem_map.2 ⟨p, List.mem_filter.2 ⟨List.mem_range.2 hp1, ?_⟩, by rw [sortL_at L f n hp1, e']⟩
    unfold keepB
    rw [sortL_len]
    by_cases hp2 : p + 1 < n
    · rw [decide_eq_true hp2, sortL_at L f n hp1, sortL_at L f n hp2, e', Bool.true_and, Bool.not_eq_true', decide_eq_false_iff_not]
      intro hkk
      rcases hp.2 p (p + 1) (Nat.zero_le _) (by omega) hp2 with h | ⟨_, h⟩
      · rw [e'] at h
        unfold keyOf' at h
        rw [hkk, cmp_self] at h; exact absurd h (by decide)
      · rw [e'] at h
        obtain ⟨r, _, hr, er⟩ := hp.1.fro (p + 1) (Nat.zero_le _) hp2
        exact hl _ h (by rw [er]; omega) hkk
    · rw [decide_eq_false hp2]; rfl

end Go.Proofs.YtphjaebkcimklaaGreatDoor

/- The package pair: Same; what a law is given: a row of pairs; Small. -/
set_option linter.unusedVariables false
set_option linter.unusedSimpArgs false
namespace Go.Proofs.YtphjaebkcimklaaGreatDoor
open Go.RowKit Go.ChangeShapes Go.WideShapes Go.Deep

set_option maxHeartbeats 1600000 in
theorem same1_any {S1 S2 S3 S4 : Nat → Prop} (kv xv kv' xv' : Value) (k x k' x' : Bytes) (W : World) (h1 : BIn S1 W kv k) (h2 : BIn S2 W xv x) (h3 : BIn S3 W kv' k') (h4 : BIn S4 W xv' x') :
    Calls Tryz.prog 51 #[.agg #[kv, xv], .agg #[kv', xv']] W fun e W' => e = .returned (.bool (decide ((k, x) = (k', x')))) ∧ Below W.heap.size W W' := by
  obtain ⟨A, n, c, rfl⟩ := h1.slice
  obtain ⟨B, m, d, rfl⟩ := h2.slice
  obtain ⟨A', n', c', rfl⟩ := h3.slice
  obtain ⟨B', m', d', rfl⟩ := h4.slice
  have hb1 := (Below.refl _ W).alloc (Nat.le_refl _) (.cells #[.slice A n c, .slice B m d] 60)
  have hb2 := hb1.alloc hb1.size (.cells #[.slice A' n' c', .slice B' m' d'] 60)
  have t1 : Two ((W.alloc (.cells #[.slice A n c, .slice B m d] 60)).alloc (.cells #[.slice A' n' c', .slice B' m' d'] 60)) W.heap.size (.slice A n c) (.slice B m d) := heap_old _ (heap_new W _)
  have t2 : Two ((W.alloc (.cells #[.slice A n c, .slice B m d] 60)).alloc (.cells #[.slice A' n' c', .slice B' m' d'] 60)) (W.heap.size + 1) (.slice A' n' c') (.slice B' m' d') := by
    have := heap_new (W.alloc (.cells #[.slice A n c, .slice B m d] 60)) (.cells #[.slice A' n' c', .slice B' m' d'] 60)
    rw [World.size_alloc] at this
    exact this
  have HC := Lib.hid (equal_any (.slice A n c) (.slice A' n' c') k k' _ (h1.below hb2) (h3.below hb2))
  have HD := Lib.hid (equal_any (.slice B m d) (.slice B' m' d') x x' _ (h2.below hb2) (h4.below hb2))
  have HB := Lib.hid hb2
  obtain ⟨a0, a1⟩ := t1.cells
  obtain ⟨b0, b1⟩ := t2.cells
  clear hb1 hb2 t1 t2 h1 h2 h3 h4
  by_cases hk : k = k'
  · by_cases hx : x = x'
    · have HR : Hid (decide ((k, x) = (k', x')) = true) := (by rw [hk, hx]; exact decide_eq_true rfl : decide ((k, x) = (k', x')) = true)
      rw [decide_eq_true hk] at HC
      rw [decide_eq_true hx] at HD
      rw [HR.out]
      clear hk hx
      go_enter Tryz.func51, Tryz.ntmps51
      go_wp2_with fail
      refine HC.out.mono ?_
      rintro e w1 ⟨rfl, rfl⟩
      go_wp2_with fail
      refine HD.out.mono ?_
      rintro e w1 ⟨rfl, rfl⟩
      go_wp2_with fail
      go_ret
      exact ⟨rfl, HB.out⟩
    · have HR : Hid (decide ((k, x) = (k', x')) = false) := decide_eq_false fun e => hx (Prod.ext_iff.1 e).2
      rw [decide_eq_true hk] at HC
      rw [decide_eq_false hx] at HD
      rw [HR.out]
      clear hk hx
      go_enter Tryz.func51, Tryz.ntmps51
      go_wp2_with fail
      refine HC.out.mono ?_
      rintro e w1 ⟨rfl, rfl⟩
      go_wp2_with fail
      refine HD.out.mono ?_
      rintro e w1 ⟨rfl, rfl⟩
      go_wp2_with fail
      go_ret
      exact ⟨rfl, HB.out⟩
  · have HR : Hid (decide ((k, x) = (k', x')) = false) := decide_eq_false fun e => hk (Prod.ext_iff.1 e).1
    rw [decide_eq_false hk] at HC
    rw [HR.out]
    clear hk
    go_enter Tryz.func51, Tryz.ntmps51
    go_wp2_with fail
    refine HC.out.mono ?_
    rintro e w1 ⟨rfl, rfl⟩
    go_wp2_with fail
    go_ret
    exact ⟨rfl, HB.out⟩

theorem pairs_ext {L M : Pairs} (hl : L.length = M.length) (h : ∀ i, i < L.length → L.getD i ([], []) = M.getD i ([], [])) : L = M := by
  refine List.ext_getElem hl fun i h1 h2 => ?_
  have := h i h1
  rw [List.getD_eq_getElem?_getD, List.getD_eq_getElem?_getD, List.getElem?_eq_getElem h1, List.getElem?_eq_getElem h2] at this
  exact this
instance : DecidableEq Pairs := inferInstanceAs (DecidableEq (List (List UInt8 × List UInt8)))

set_option maxHeartbeats 1600000 in
theorem equalF_any {S S' : Nat → Prop} (L M : Pairs) (A A' : Option Addr) (n n' c c' : Nat) (w : World) (hL : LIn S w A n L) (hM : LIn S' w A' n' M) (hn : n ≤ 1000000) (hn' : n' ≤ 1000000) :
    Calls Tryz.prog 50 #[.slice A n c, .slice A' n' c', .func (.func 51) #[] #[]] w fun e w' => e = .returned (.bool (decide (L = M))) ∧ Below w.heap.size w w' := by
  have HL := Lib.hid hL
  have HM := Lib.hid hM
  clear hL hM
  by_cases hlen : n = n'
  · subst hlen
    go_enter Tryz.func50, Tryz.ntmps50
    go_wp2_with fail
    go_loopw [17] (fun v wr => ∃ j : Nat, v = .int .i64 (j : Int) ∧ j ≤ n ∧ Hid ((∀ i, i < j → L.getD i ([], []) = M.getD i ([], [])) ∧ Below w.heap.size w wr)) (fun v _ => n - (intOf v).toNat)
    case atStart => exact ⟨0, rfl, by omega, Lib.hid ⟨fun i hi => by omega, Below.refl _ _⟩⟩
    case round =>
      obtain ⟨j, rfl, hj, hI⟩ := hrel
      by_cases hlt : j < n
      · obtain ⟨b, o, rfl, hbl, hSb, hc⟩ := (HL.out.below hI.out.2).cell (by omega)
        obtain ⟨b', o', rfl, hbl', hSb', hc'⟩ := (HM.out.below hI.out.2).cell (by omega)
        obtain ⟨kv, xv, c0, c1, hk, hx⟩ := hc j hlt
        obtain ⟨kv', xv', d0, d1, hk', hx'⟩ := hc' j hlt
        obtain ⟨A1, n1, c1', rfl⟩ := hk.slice
        obtain ⟨A2, n2, c2', rfl⟩ := hx.slice
        obtain ⟨A3, n3, c3', rfl⟩ := hk'.slice
        obtain ⟨A4, n4, c4', rfl⟩ := hx'.slice
        have al : (0 : Int) ≤ (j : Int) := by omega
        have al3 : (j : Int) < (n : Int) := by omega
        have hb1 := (Below.refl _ wr).alloc (Nat.le_refl _) (.cells #[.slice A1 n1 c1', .slice A2 n2 c2'] 60)
        have hb2 := hb1.alloc hb1.size (.cells #[.slice A3 n3 c3', .slice A4 n4 c4'] 60)
        have HC := Lib.hid (same1_any (.slice A1 n1 c1') (.slice A2 n2 c2') (.slice A3 n3 c3') (.slice A4 n4 c4') _ _ _ _ _ (hk.below hb2) (hx.below hb2) (hk'.below hb2) (hx'.below hb2))
        have HB := Lib.hid hb2
        have HEQ := Lib.hid (show ((L.getD j ([], [])).1, (L.getD j ([], [])).2) = ((M.getD j ([], [])).1, (M.getD j ([], [])).2) ↔ L.getD j ([], []) = M.getD j ([], []) from Iff.rfl)
        clear hc hc' hk hx hk' hx' hb1 hb2
        by_cases he : L.getD j ([], []) = M.getD j ([], [])
        · rw [decide_eq_true (HEQ.out.2 he)] at HC
          have HE := Lib.hid he
          clear he
          go_wp2_with fail
          refine HC.out.mono ?_
          rintro e w2 ⟨rfl, hb3⟩
          have HN : Hid ((∀ i, i < j + 1 → L.getD i ([], []) = M.getD i ([], [])) ∧ Below w.heap.size w w2) := ⟨fun i hi => by
            rcases Nat.lt_succ_iff_lt_or_eq.1 hi with h | rfl
            · exact hI.out.1 i h
            · exact HE.out, (hI.out.2.trans (HB.out.mono hI.out.2.size)).trans (hb3.mono (Nat.le_trans hI.out.2.size HB.out.size))⟩
          clear hb3
          go_wp2_with fail
          go_roundw
          case rel => exact ⟨j + 1, by go_num, by omega, HN⟩
          case measure => simp [intOf]; omega
        · rw [decide_eq_false fun h => he (HEQ.out.1 h)] at HC
          have HR : Hid (decide (L = M) = false) := decide_eq_false fun e => he (by rw [e])
          clear he
          go_wp2_with fail
          refine HC.out.mono ?_
          rintro e w2 ⟨rfl, hb3⟩
          have HN : Hid (Below w.heap.size w w2) := (hI.out.2.trans (HB.out.mono hI.out.2.size)).trans (hb3.mono (Nat.le_trans hI.out.2.size HB.out.size))
          clear hb3
          go_wp2_with fail
          go_ret
          exact ⟨by rw [HR.out]; rfl, HN.out⟩
      · obtain rfl : j = n := by omega
        have HR : Hid (decide (L = M) = true) := decide_eq_true (pairs_ext (by rw [HL.out.len, HM.out.len]) fun i hi => hI.out.1 i (by rw [HL.out.len] at hi; exact hi))
        go_wp2_with fail
        go_ret
        exact ⟨by rw [HR.out]; rfl, hI.out.2⟩
  · have hl2 : ¬ (n : Int) = (n' : Int) := by omega
    have HR : Hid (decide (L = M) = false) := decide_eq_false fun e => hlen (by rw [← HL.out.len, e, HM.out.len])
    rw [HR.out]
    clear hlen
    go_enter Tryz.func50, Tryz.ntmps50
    go_wp2_with fail
    go_ret
    exact ⟨rfl, Below.refl _ _⟩

set_option maxHeartbeats 1600000 in
theorem same_any {S S' : Nat → Prop} (L M : Pairs) (A A' : Option Addr) (n n' c c' : Nat) (w : World) (hL : LIn S w A n L) (hM : LIn S' w A' n' M) (hn : n ≤ 1000000) (hn' : n' ≤ 1000000) :
    Calls Tryz.prog 30 #[.slice A n c, .slice A' n' c'] w fun e w' => e = .returned (.bool (decide (L = M))) ∧ Below w.heap.size w w' := by
  have HE := Lib.hid (equalF_any L M A A' n n' c c' w hL hM hn hn')
  clear hL hM
  go_enter Tryz.func30, Tryz.ntmps30
  go_wp2_with fail
  refine HE.out.mono ?_
  rintro e w2 ⟨rfl, hb⟩
  have HB := Lib.hid hb
  clear hb
  go_wp2_with fail
  go_ret
  exact ⟨rfl, HB.out⟩

/-! ### What a law is given -/
/-- A slice of pairs, of any lengths. -/
structure PRaw (w : World) (A : Option Addr) (n : Nat) (L : Pairs) : Prop where
  len : L.length = n
  le : n ≤ 9223372036854775807
  cell : 0 < n → ∃ b o, A = some ⟨b, o, none⟩ ∧ b < w.heap.size ∧ ∀ j, j < n → ∃ kv xv, w.cell? ⟨b, o + j * 2, none⟩ = some kv ∧ w.cell? ⟨b, o + j * 2 + 1, none⟩ = some xv ∧
    BRaw w kv (L.getD j ([], [])).1 ∧ BRaw w xv (L.getD j ([], [])).2
theorem PRaw.below {w w1 : World} {A : Option Addr} {n : Nat} {L : Pairs} (h : PRaw w A n L) (hb : Below w.heap.size w w1) : PRaw w1 A n L :=
  ⟨h.len, h.le, fun hn => by
    obtain ⟨b, o, e, hlt, hc⟩ := h.cell hn
    refine ⟨b, o, e, Nat.lt_of_lt_of_le hlt hb.size, fun j hj => ?_⟩
    obtain ⟨kv, xv, h1, h2, h4, h5⟩ := hc j hj
    exact ⟨kv, xv, (cell_block (hb.block b hlt)).trans h1, (cell_block (hb.block b hlt)).trans h2, h4.below hb, h5.below hb⟩⟩
def FineP (L : Pairs) (most : Nat) : Prop := L.length ≤ most ∧ ∀ p ∈ L, p.1.length ≤ 100 ∧ p.2.length ≤ 100
theorem PRaw.fine {w : World} {A : Option Addr} {n most : Nat} {L : Pairs} (h : PRaw w A n L) (hf : FineP L most) : LIn (fun _ => True) w A n L :=
  ⟨h.len, fun hn => by
    obtain ⟨b, o, e, hlt, hc⟩ := h.cell hn
    refine ⟨b, o, e, hlt, trivial, fun j hj => ?_⟩
    obtain ⟨kv, xv, h1, h2, h4, h5⟩ := hc j hj
    have hm : L.getD j ([], []) ∈ L := by
      have := h.len
      rw [List.getD_eq_getElem?_getD, List.getElem?_eq_getElem (by omega)]; exact List.getElem_mem _
    have := hf.2 _ hm
    exact ⟨kv, xv, h1, h2, h4.fine (by omega), h5.fine (by omega)⟩⟩

section

variable {H : Type} {enc : TypeId × Value → H} {w : World} {base : Nat} {spare : Nat → Bool} {held : Bool}
theorem cells39 : Tryz.prog.cellsOf 60 = 2 := by kernel_rfl

set_option maxRecDepth 100000 in
theorem open_pair {fuel : Nat} {cs : List Value} {x : DataW H × List MemPlace} (h : DataW.trod enc Tryz.prog w base spare held fuel 60 cs = some x) :
    ∃ kv xv k y, cs = [kv, xv] ∧ BRaw w kv k ∧ BRaw w xv y := by
  obtain ⟨xs, n, rfl, _, hlen, hxl, hf⟩ := DataW.trod_struct Tryz.underlying60 h
  rw [cells39] at hlen
  match cs, hlen with
  | [v1, v2], _ =>
    have g1 := hf 0 _ rfl
    have g2 := hf 1 _ rfl
    simp [cells27] at g1 g2
    have hx3 : xs.length = 2 := hxl
    rw [List.getElem?_eq_getElem (by omega)] at g1 g2
    obtain ⟨k, hk⟩ := open_raw g1
    obtain ⟨y, hy⟩ := open_raw g2
    exact ⟨v1, v2, k, y, rfl, hk, hy⟩

set_option maxRecDepth 100000 in
theorem open_pairs {fuel : Nat} {A : Option Addr} {n c : Nat} {x : DataW H × List MemPlace} (h : DataW.trod enc Tryz.prog w base spare held fuel 69 [.slice A n c] = some x) : n ≤ c ∧ ∃ L, PRaw w A n L := by
  rcases open_slice Tryz.underlying69 h with ⟨hcs, _⟩ | ⟨a, len, cap, m, f, D, Pl, hcs, _, hl, hm, hmm, _, hx⟩
  · cases hcs
    exact ⟨Nat.le_refl _, [], rfl, by omega, fun h => by omega⟩
  · cases hcs
    have hnm : n ≤ m := by rw [hmm]; split <;> omega
    unfold maxLen at hm
    have each : ∀ i, i < n → ∃ q : Bytes × Bytes, ∃ kv xv, w.cell? (a.add (i * 2)) = some kv ∧ w.cell? (a.add (i * 2 + 1)) = some xv ∧ BRaw w kv q.1 ∧ BRaw w xv q.2 := by
      intro i hi
      obtain ⟨cs', h1, h2⟩ := hx i (by omega)
      rw [cells39] at h1
      obtain ⟨_, hlen, hcell⟩ := World.cells?_some h1
      obtain ⟨kv, xv, k, y, rfl, hk, hy⟩ := open_pair h2
      have e0 := hcell 0 (by omega)
      have e1 := hcell 1 (by omega)
      rw [add_add] at e0 e1
      exact ⟨(k, y), kv, xv, by simpa using e0, by simpa using e1, hk, hy⟩
    obtain ⟨q, hq⟩ := choose_lt each
    refine ⟨hl, (List.range n).map q, by simp, by omega, fun hn => ?_⟩
    obtain ⟨_, _, z0, _⟩ := hq 0 hn
    obtain ⟨b, off, spot⟩ := a
    have hspot : spot = none := by simpa [Addr.add] using World.cell?_spot z0
    subst hspot
    refine ⟨b, off, rfl, ?_, fun j hj => ?_⟩
    · have := World.block_lt_of_cell? w _ z0
      simpa [Addr.add] using this
    · obtain ⟨kv, xv, h1, h2, h4, h5⟩ := hq j hj
      have e : ((List.range n).map q).getD j ([], []) = q j := by simp [List.getD_eq_getElem?_getD, hj]
      rw [e]
      rw [addP] at h1 h2
      exact ⟨kv, xv, h1, h2, h4, h5⟩

end

end Go.Proofs.YtphjaebkcimklaaGreatDoor
