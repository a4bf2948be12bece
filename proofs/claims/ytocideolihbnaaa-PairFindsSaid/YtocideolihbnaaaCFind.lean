/- pair.Find: the binary search. -/
import Derived.Test.YtocideolihbnaaaLComes
set_option linter.unusedVariables false
set_option linter.unusedSimpArgs false
namespace Go.Proofs.Ytocideolihbnaaa
open Go.RowKit Go.Deep

set_option maxHeartbeats 1600000 in
theorem fcmp_any {S S' : Nat → Prop} (kv xv key : Value) (k x kk : Bytes) (w : World) (hk : BIn S w kv k) (hx : BIn S w xv x) (hkk : BIn S' w key kk) :
    Calls Try.prog 33 #[.agg #[kv, xv], key] w fun e w' => e = .returned (.int .i64 (Lib.compareBytes k kk)) ∧ Below w.heap.size w w' := by
  obtain ⟨A, n, c, rfl⟩ := hk.slice
  obtain ⟨B, m, d, rfl⟩ := hx.slice
  obtain ⟨A', n', c', rfl⟩ := hkk.slice
  have hb1 := (Below.refl _ w).alloc (Nat.le_refl _) (.cells #[.slice A n c, .slice B m d] 34)
  have t1 : Two (w.alloc (.cells #[.slice A n c, .slice B m d] 34)) w.heap.size (.slice A n c) (.slice B m d) := heap_new w _
  have HC := Lib.hid (compare_any (.slice A n c) (.slice A' n' c') k kk _ (hk.below hb1) (hkk.below hb1))
  have HB := Lib.hid hb1
  obtain ⟨a0, a1⟩ := t1.cells
  clear hb1 t1 hk hx hkk
  go_enter Try.func33, Try.ntmps33
  go_wp2_with fail
  refine HC.out.mono ?_
  rintro e w1 ⟨rfl, rfl⟩
  go_wp2_with fail
  go_ret
  exact ⟨rfl, HB.out⟩

/-- Where a key stands in a sorted list. -/
structure Place (M : Pairs) (key : Bytes) (p : Nat) : Prop where
  le : p ≤ M.length
  lo : ∀ i, i < p → cmp (M.getD i ([], [])).1 key = -1
  hi : ∀ i, p ≤ i → i < M.length → cmp (M.getD i ([], [])).1 key ≠ -1

def FindR (w w' : World) (e : Ending) (M : Pairs) (key : Bytes) : Prop := ∃ (p : Nat) (r : Bool), e = .returned (.tuple #[.int .i64 (p : Int), .bool r]) ∧ Hid (Place M key p ∧ (r = true ↔ p < M.length ∧ (M.getD p ([], [])).1 = key) ∧ Below w.heap.size w w')

theorem asc_at {M : Pairs} (h : Asc M) {i j : Nat} (hij : i < j) (hj : j < M.length) : cmp (M.getD i ([], [])).1 (M.getD j ([], [])).1 = -1 := by
  have h1 : i < M.length := by omega
  rw [List.getD_eq_getElem?_getD, List.getD_eq_getElem?_getD, List.getElem?_eq_getElem h1, List.getElem?_eq_getElem hj]
  exact List.pairwise_iff_getElem.1 h i j h1 hj hij

theorem cmp_vals (a b : Bytes) : Lib.compareBytes a b = -1 ∨ (Lib.compareBytes a b = 0 ∧ a = b) ∨ Lib.compareBytes a b = 1 := by
  rcases cmp_cases a b with h | h | h
  · exact .inl h
  · exact .inr (.inl ⟨(cmp_eq0 _ _).2 h, h⟩)
  · refine .inr (.inr ?_)
    have : Lib.compareBytes a b = - Lib.compareBytes b a := cmp_neg b a
    rw [this, show Lib.compareBytes b a = -1 from h]; decide

set_option maxRecDepth 100000 in
set_option maxHeartbeats 3200000 in
theorem bsearch_any {S S' : Nat → Prop} (M : Pairs) (A : Option Addr) (n c : Nat) (key : Value) (kk : Bytes) (w : World) (hM : LIn S w A n M) (hk : BIn S' w key kk) (ha : Asc M) (hn : n ≤ 100000) :
    Calls Try.prog 32 #[.slice A n c, key, .func (.func 33) #[] #[]] w fun e w' => FindR w w' e M kk := by
  have HM := Lib.hid hM
  have HK := Lib.hid hk
  have HA := Lib.hid ha
  obtain ⟨A', n', c', rfl⟩ := hk.slice
  clear hM hk ha
  go_enter Try.func32, Try.ntmps32
  go_wp2_with fail
  go_loopw [9, 10] (fun u v wr => ∃ i j : Nat, u = .int .i64 (i : Int) ∧ v = .int .i64 (j : Int) ∧ i ≤ j ∧ j ≤ n ∧ Hid ((∀ x, x < i → cmp (M.getD x ([], [])).1 kk = -1) ∧ (∀ x, j ≤ x → x < n → cmp (M.getD x ([], [])).1 kk ≠ -1) ∧ Below w.heap.size w wr)) (fun u v _ => (intOf v).toNat - (intOf u).toNat)
  case atStart => exact ⟨0, n, rfl, rfl, by omega, by omega, Lib.hid ⟨fun x hx => by omega, fun x h1 h2 => by omega, Below.refl _ _⟩⟩
  case round =>
    obtain ⟨i, j, rfl, rfl, hij, hjn, hI⟩ := hrel
    by_cases hlt : i < j
    · have hlt' : (i : Int) < (j : Int) := by omega
      obtain ⟨h, hh⟩ : ∃ h, (i + j) / 2 = h := ⟨_, rfl⟩
      have hhi : ((i : Int) + (j : Int)) / 2 = (h : Int) := by omega
      have hh1 : i ≤ h := by omega
      have hh2 : h < j := by omega
      have whi : IntKind.i64.wrap ((i : Int) + (j : Int)) = (i : Int) + (j : Int) := wsm _ (by omega)
      clear hh
      obtain ⟨b, o, rfl, hbl, hSb, hc⟩ := (HM.out.below hI.out.2.2).cell (by omega)
      obtain ⟨kv, xv, c0, c1, hk, hx⟩ := hc h (by omega)
      have HC := Lib.hid (fcmp_any kv xv (.slice A' n' c') _ _ kk wr hk hx (HK.out.below hI.out.2.2))
      obtain ⟨Ak, nk, ck, rfl⟩ := hk.slice
      obtain ⟨Ax, nx, cx, rfl⟩ := hx.slice
      have al : (0 : Int) ≤ (h : Int) := by omega
      have al3 : (h : Int) < (n : Int) := by omega
      have hln := HM.out.len
      have HLN := Lib.hid hln
      clear hc hk hx hln
      rcases cmp_vals (M.getD h ([], [])).1 kk with hv | hv
      · rw [hv] at HC
        have HN : Hid (∀ x, x < h + 1 → cmp (M.getD x ([], [])).1 kk = -1) := fun x hx => by
          rcases Nat.lt_succ_iff_lt_or_eq.1 hx with h' | rfl
          · exact cmp_lt_trans _ _ _ (asc_at HA.out h' (by rw [HLN.out]; omega)) hv
          · exact hv
        clear hv
        go_wp2_with fail
        refine HC.out.mono ?_
        rintro e w2 ⟨rfl, hb2⟩
        have HB2 : Hid (Below w.heap.size w w2) := hI.out.2.2.trans (hb2.mono hI.out.2.2.size)
        clear hb2 whi hhi c0 c1
        go_wp2_with fail
        go_roundw
        case rel => exact ⟨h + 1, j, by go_num, rfl, by omega, by omega, Lib.hid ⟨HN.out, hI.out.2.1, HB2.out⟩⟩
        case measure => simp [intOf]; omega
      · have HN : Hid (∀ x, h ≤ x → x < n → cmp (M.getD x ([], [])).1 kk ≠ -1) := fun x hx hxn he => by
          have h0 : cmp (M.getD h ([], [])).1 kk = -1 := by
            rcases Nat.lt_or_eq_of_le hx with h' | rfl
            · exact cmp_lt_trans _ _ _ (asc_at HA.out h' (by rw [HLN.out]; omega)) he
            · exact he
          change Lib.compareBytes _ _ = -1 at h0
          rcases hv with ⟨hv, _⟩ | hv
          · rw [hv] at h0; exact absurd h0 (by decide)
          · rw [hv] at h0; exact absurd h0 (by decide)
        have hvv : Lib.compareBytes (M.getD h ([], [])).1 kk = 0 ∨ Lib.compareBytes (M.getD h ([], [])).1 kk = 1 := hv.imp (fun h => h.1) id
        clear hv
        rcases hvv with hv | hv
        all_goals
          rw [hv] at HC
          clear hv
          go_wp2_with fail
          refine HC.out.mono ?_
          rintro e w2 ⟨rfl, hb2⟩
          have HB2 : Hid (Below w.heap.size w w2) := hI.out.2.2.trans (hb2.mono hI.out.2.2.size)
          clear hb2 whi hhi c0 c1
          go_wp2_with fail
          go_roundw
          case rel => exact ⟨i, h, rfl, rfl, by omega, by omega, Lib.hid ⟨hI.out.1, HN.out, HB2.out⟩⟩
          case measure => simp [intOf]; omega
    · obtain rfl : i = j := by omega
      have HLN := Lib.hid HM.out.len
      have HPL : Hid (Place M kk i) := ⟨by rw [HLN.out]; omega, hI.out.1, fun x h1 h2 => hI.out.2.1 x h1 (by rw [HLN.out] at h2; omega)⟩
      by_cases hin : i < n
      · obtain ⟨b, o, rfl, hbl, hSb, hc⟩ := (HM.out.below hI.out.2.2).cell (by omega)
        obtain ⟨kv, xv, c0, c1, hk, hx⟩ := hc i hin
        have HC := Lib.hid (fcmp_any kv xv (.slice A' n' c') _ _ kk wr hk hx (HK.out.below hI.out.2.2))
        obtain ⟨Ak, nk, ck, rfl⟩ := hk.slice
        obtain ⟨Ax, nx, cx, rfl⟩ := hx.slice
        have al : (0 : Int) ≤ (i : Int) := by omega
        have al3 : (i : Int) < (n : Int) := by omega
        clear hc hk hx
        rcases cmp_vals (M.getD i ([], [])).1 kk with hv | ⟨hv, hve⟩ | hv
        · exact absurd hv (hI.out.2.1 i (Nat.le_refl _) hin)
        · rw [hv] at HC
          have HR : Hid (i < M.length ∧ (M.getD i ([], [])).1 = kk) := ⟨by rw [HLN.out]; exact hin, hve⟩
          clear hv hve
          go_wp2_with fail
          refine HC.out.mono ?_
          rintro e w2 ⟨rfl, hb2⟩
          have HB2 : Hid (Below w.heap.size w w2) := hI.out.2.2.trans (hb2.mono hI.out.2.2.size)
          clear hb2 c0 c1
          go_wp2_with fail
          go_ret2
          exact ⟨i, true, rfl, Lib.hid ⟨HPL.out, ⟨fun _ => HR.out, fun _ => rfl⟩, HB2.out⟩⟩
        · rw [hv] at HC
          have HR : Hid (¬ (i < M.length ∧ (M.getD i ([], [])).1 = kk)) := (fun h => by
            have h0 := (cmp_eq0 _ _).2 h.2
            change Lib.compareBytes _ _ = 0 at h0
            rw [hv] at h0; exact absurd h0 (by decide))
          clear hv
          go_wp2_with fail
          refine HC.out.mono ?_
          rintro e w2 ⟨rfl, hb2⟩
          have HB2 : Hid (Below w.heap.size w w2) := hI.out.2.2.trans (hb2.mono hI.out.2.2.size)
          clear hb2 c0 c1
          go_wp2_with fail
          go_ret2
          exact ⟨i, false, rfl, Lib.hid ⟨HPL.out, ⟨fun h => (by cases h), fun h => absurd h HR.out⟩, HB2.out⟩⟩
      · have hin2 : ¬ (i : Int) < (n : Int) := by omega
        have HR : Hid (¬ (i < M.length ∧ (M.getD i ([], [])).1 = kk)) := fun h => absurd h.1 (by rw [HLN.out]; exact hin)
        go_wp2_with fail
        go_ret2
        exact ⟨i, false, rfl, Lib.hid ⟨HPL.out, ⟨fun h => (by cases h), fun h => absurd h HR.out⟩, hI.out.2.2⟩⟩

set_option maxRecDepth 100000 in
set_option maxHeartbeats 3200000 in
theorem find_any {S S' : Nat → Prop} (M : Pairs) (A : Option Addr) (n c : Nat) (key : Value) (kk : Bytes) (w : World) (hM : LIn S w A n M) (hk : BIn S' w key kk) (ha : Asc M) (hn : n ≤ 100000) :
    Calls Try.prog 19 #[.slice A n c, key] w fun e w' => FindR w w' e M kk := by
  have HB := Lib.hid (bsearch_any M A n c key kk w hM hk ha hn)
  obtain ⟨A', n', c', rfl⟩ := hk.slice
  clear hM hk ha
  go_enter Try.func19, Try.ntmps19
  go_wp2_with fail
  refine HB.out.mono ?_
  rintro e w2 ⟨p, r, rfl, hf⟩
  go_wp2_with fail
  go_ret2
  exact ⟨p, r, rfl, hf⟩

/-- The place is the number of the keys below. -/
theorem Place.rank {M : Pairs} {kk : Bytes} {p : Nat} (h : Place M kk p) : belowM M kk = p := by
  unfold belowM
  have e : M = M.take p ++ M.drop p := (List.take_append_drop p M).symm
  rw [e, List.countP_append]
  have h1 : (M.take p).countP (fun p => decide (cmp p.1 kk = -1)) = p := by
    rw [List.countP_eq_length.2, List.length_take_of_le h.le]
    intro x hx
    obtain ⟨i, hi, rfl⟩ := List.getElem_of_mem hx
    rw [List.length_take] at hi
    have := h.lo i (by omega)
    rw [List.getD_eq_getElem?_getD, List.getElem?_eq_getElem (by omega), Option.getD_some] at this
    rw [List.getElem_take]
    exact decide_eq_true this
  have h2 : (M.drop p).countP (fun p => decide (cmp p.1 kk = -1)) = 0 := by
    rw [List.countP_eq_zero]
    intro x hx
    obtain ⟨i, hi, rfl⟩ := List.getElem_of_mem hx
    rw [List.length_drop] at hi
    have := h.hi (p + i) (by omega) (by omega)
    rw [List.getD_eq_getElem?_getD, List.getElem?_eq_getElem (by omega), Option.getD_some] at this
    rw [List.getElem_drop]
    simpa using this
  rw [h1, h2, Nat.add_zero]
theorem Place.found {M : Pairs} {kk : Bytes} {p : Nat} (h : Place M kk p) (ha : Asc M) : (p < M.length ∧ (M.getD p ([], [])).1 = kk) ↔ (getM M kk).isSome := by
  constructor
  · rintro ⟨h1, h2⟩
    have hm : ((M.getD p ([], [])).1, (M.getD p ([], [])).2) ∈ M := by
      rw [List.getD_eq_getElem?_getD, List.getElem?_eq_getElem h1, Option.getD_some]
      exact List.getElem_mem h1
    have := getM_mem M _ _ ha hm
    rw [← h2, this]; rfl
  · intro hs
    by_cases hp : p < M.length ∧ (M.getD p ([], [])).1 = kk
    · exact hp
    · exfalso
      rw [getM_none' M kk] at hs
      · cases hs
      · intro q hq he
        obtain ⟨i, hi, rfl⟩ := List.getElem_of_mem hq
        have hg : M.getD i ([], []) = M[i] := by rw [List.getD_eq_getElem?_getD, List.getElem?_eq_getElem hi, Option.getD_some]
        have hpi : p ≤ i := by
          rcases Nat.lt_or_ge i p with h' | h'
          · have := h.lo i h'
            rw [hg, he] at this
            exact absurd this (by rw [show cmp kk kk = 0 from cmp_self _]; decide)
          · exact h'
        have hpl : p < M.length := by omega
        rcases Nat.lt_or_eq_of_le hpi with h' | rfl
        · have h1 := asc_at ha h' hi
          rw [hg, he] at h1
          exact h.hi p (Nat.le_refl _) hpl h1
        · exact hp ⟨hpl, by rw [hg]; exact he⟩

end Go.Proofs.Ytocideolihbnaaa
