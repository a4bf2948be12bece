/- The package pair: Come: sorted, the last of each key. -/
import Derived.Test.YtocideolihbnaaaPOwn
import Derived.Test.YtocideolihbnaaaSStable
set_option linter.unusedVariables false
set_option linter.unusedSimpArgs false
namespace Go.Proofs.Ytocideolihbnaaa
open Go.RowKit Stab

/-! ### bytes.Equal -/
set_option maxHeartbeats 1600000 in
theorem equal_any {S S' : Nat → Prop} (v u : Value) (a b : Bytes) (w : World) (h : BIn S w v a) (h' : BIn S' w u b) :
    Calls Try.prog 27 #[v, u] w fun e w' => e = .returned (.bool (decide (a = b))) ∧ w = w' := by
  obtain ⟨A, n, c, rfl⟩ := h.slice
  obtain ⟨A', n', c', rfl⟩ := h'.slice
  have h1 := conv_bytes h
  have h2 := conv_bytes h'
  have HE : Hid (decide (strO a = strO b) = decide (a = b)) := by
    have : decide (strO a = strO b) = decide (a = b) := by rw [decide_eq_decide]; exact strO_inj
    exact this
  rw [← HE.out]
  clear h h'
  generalize strO a = sa at *
  generalize strO b = sb at *
  by_cases he : sa = sb
  · subst he
    rw [decide_eq_true rfl]
    go_enter Try.func27, Try.ntmps27
    go_wp2_with fail
    go_ret
    exact ⟨by simp, rfl⟩
  · have he2 := text_ne he
    rw [decide_eq_false he]
    clear HE
    go_enter Try.func27, Try.ntmps27
    go_wp2_with fail
    go_ret
    exact ⟨by simp [he], rfl⟩

/-! ### What the call owns, as a sort sees it -/
def valsOf (n : Nat) (vs : List Value) : Vals := fun i => if i < n then (vs.getD (i * 2) (.slice none 0 0), vs.getD (i * 2 + 1) (.slice none 0 0)) else (.slice none 0 0, .slice none 0 0)
def keyOf' (L : Pairs) (i : Nat) : Bytes := (L.getD i ([], [])).1
theorem OwnL.sees {base n c : Nat} {W : World} {A : Option Addr} {vs : List Value} {L : Pairs} (h : OwnL base W A n c vs L) (hn : n ≤ 100000) :
    ∃ g, A = some ⟨g, 0, none⟩ ∧ base ≤ g ∧ g < W.heap.size ∧ Env g n c (valsOf n vs) (keyOf' L) W ∧ On g n (valsOf n vs) (fun p => p) W W ∧
      ∀ i, i < n → BIn (fun b => base ≤ b ∧ b ≠ g) W (valsOf n vs i).1 (L.getD i ([], [])).1 ∧ BIn (fun b => base ≤ b ∧ b ≠ g) W (valsOf n vs i).2 (L.getD i ([], [])).2 := by
  have hlen := h.len
  have hvl := h.own.1
  obtain ⟨g, hA, hb, hlt, arr, harr, hcell⟩ : ∃ g, A = some ⟨g, 0, none⟩ ∧ base ≤ g ∧ g < W.heap.size ∧ ∃ arr : Array Value, W.heap[g]? = some (.cells arr 34 (0, 0)) ∧ ∀ j, j < n * 2 → arr[j]? = vs[j]? := by
    rcases h.own.2 with ⟨hv, _⟩ | ⟨g, cap, cur, hv, hb, hg, hc, hm, hs, ht⟩
    · injection hv with h1 h2 h3; exact absurd h1 h.is
    · injection hv with h1 h2 h3
      refine ⟨g, h1, hb, (Array.getElem?_eq_some_iff.1 hg).1, cur, hg, fun j hj => ?_⟩
      have := h.own
      rw [h1] at this
      have h4 := World.ownsRow.cellAt this j hj
      have h5 : W.cell? ⟨g, j, none⟩ = cur[j]? := by simp [World.cell?, hg]
      exact h5.symm.trans h4
  have hc : n ≤ c := by
    rcases h.own.2 with ⟨hv, h0⟩ | ⟨g, cap, cur, hv, hb, hg, hc, hm, hs, ht⟩
    · omega
    · injection hv with h1 h2 h3; omega
  have hown : ∀ i, i < n → BIn (fun b => base ≤ b ∧ b ≠ g) W (valsOf n vs i).1 (L.getD i ([], [])).1 ∧ BIn (fun b => base ≤ b ∧ b ≠ g) W (valsOf n vs i).2 (L.getD i ([], [])).2 := by
    intro i hi
    obtain ⟨kv, xv, e1, e2, e3, e4⟩ := h.ps.at_ i (by omega)
    simp only [valsOf, if_pos hi]
    have g1 : vs.getD (i * 2) (.slice none 0 0) = kv := by rw [List.getD_eq_getElem?_getD, e1]; rfl
    have g2 : vs.getD (i * 2 + 1) (.slice none 0 0) = xv := by rw [List.getD_eq_getElem?_getD, e2]; rfl
    rw [g1, g2]
    have far : ∀ b, base ≤ b ∧ (Value.slice A n c).ownBlock ≠ some b → base ≤ b ∧ b ≠ g := fun b hb => ⟨hb.1, fun e => hb.2 (by rw [hA, e]; rfl)⟩
    exact ⟨e3.imp fun b _ hb => far b hb, e4.imp fun b _ hb => far b hb⟩
  refine ⟨g, hA, hb, hlt, ⟨fun i => ?_, fun i => ?_, hn, hc⟩, ⟨⟨arr, harr, fun p hp => ?_⟩, Kept.refl _ _⟩, hown⟩
  · by_cases hi : i < n
    · exact ⟨(hown i hi).1.slice, (hown i hi).2.slice⟩
    · simp only [valsOf, if_neg hi]; exact ⟨⟨_, _, _, rfl⟩, ⟨_, _, _, rfl⟩⟩
  · by_cases hi : i < n
    · exact (hown i hi).1.imp fun b _ hb => hb.2
    · simp only [valsOf, if_neg hi, keyOf']
      have : L.getD i ([], []) = ([], []) := by rw [List.getD_eq_getElem?_getD, List.getElem?_eq_none (by omega)]; rfl
      rw [this]; exact BIn.nil _ _
  · rw [hcell _ (by omega), hcell _ (by omega)]
    simp only [valsOf, if_pos hp]
    obtain ⟨kv, xv, e1, e2, _, _⟩ := h.ps.at_ p (by omega)
    rw [List.getD_eq_getElem?_getD, List.getD_eq_getElem?_getD, e1, e2]
    exact ⟨rfl, rfl⟩
/-- The pairs in their new order. -/
def sortL (L : Pairs) (f : Nat → Nat) (n : Nat) : Pairs := (List.range n).map fun p => L.getD (f p) ([], [])
theorem sortL_len (L : Pairs) (f : Nat → Nat) (n : Nat) : (sortL L f n).length = n := by simp [sortL]
theorem sortL_at (L : Pairs) (f : Nat → Nat) (n : Nat) {p : Nat} (hp : p < n) : (sortL L f n).getD p ([], []) = L.getD (f p) ([], []) := by
  simp [sortL, List.getD_eq_getElem?_getD, List.getElem?_map, List.getElem?_range hp]
theorem On.reads {base g n c : Nat} {W W' : World} {vs : List Value} {L : Pairs} {f : Nat → Nat} (h : On g n (valsOf n vs) f W W') (hb : base ≤ g) (hg : g < W.heap.size)
    (hown : ∀ i, i < n → BIn (fun b => base ≤ b ∧ b ≠ g) W (valsOf n vs i).1 (L.getD i ([], [])).1 ∧ BIn (fun b => base ≤ b ∧ b ≠ g) W (valsOf n vs i).2 (L.getD i ([], [])).2) (hf : ∀ p, p < n → f p < n) :
    LIn (fun b => base ≤ b) W' (some ⟨g, 0, none⟩) n (sortL L f n) := by
  refine ⟨sortL_len L f n, fun hn => ⟨g, 0, rfl, Nat.lt_of_lt_of_le hg h.kept.size, hb, fun j hj => ?_⟩⟩
  obtain ⟨c0, c1⟩ := h.row.cells hj
  obtain ⟨k1, k2⟩ := hown (f j) (hf j hj)
  rw [sortL_at L f n hj, Nat.zero_add]
  exact ⟨_, _, c0, c1, (k1.kept h.kept fun b hb e => hb.2 (Option.some.inj e).symm).imp fun b _ hb => hb.1, (k2.kept h.kept fun b hb e => hb.2 (Option.some.inj e).symm).imp fun b _ hb => hb.1⟩

/-! ### The last of each key -/
def keepB (M : Pairs) (p : Nat) : Bool := !(decide (p + 1 < M.length) && decide ((M.getD (p + 1) ([], [])).1 = (M.getD p ([], [])).1))
def dd (M : Pairs) (j : Nat) : Pairs := ((List.range j).filter fun p => keepB M p).map fun p => M.getD p ([], [])
theorem dd_succ (M : Pairs) (j : Nat) : dd M (j + 1) = dd M j ++ (if keepB M j = true then [((M.getD j ([], [])).1, (M.getD j ([], [])).2)] else []) := by
  unfold dd
  rw [List.range_succ, List.filter_append, List.map_append]
  congr 1
  by_cases h : keepB M j = true
  · rw [if_pos h]; simp [h]
  · rw [if_neg h]; simp [h]
theorem dd_len (M : Pairs) (j : Nat) : (dd M j).length ≤ j := by
  unfold dd
  rw [List.length_map]
  exact Nat.le_trans (List.length_filter_le _ _) (by simp)

theorem World.cell?_of_below {w W : World} {a : Addr} {v : Value} (h : Below w.heap.size w W) (hc : w.cell? a = some v) : W.cell? a = some v := (h.cell (World.block_lt_of_cell? w a hc)).trans hc
/-- What Come tells: a list, and the order that led to it. -/
def Came (w w' : World) (e : Ending) (L : Pairs) (n : Nat) : Prop := ∃ A' c' f, e = .returned (.slice A' (dd (sortL L f n) n).length c') ∧ (dd (sortL L f n) n).length ≤ c' ∧ LIn (New w.heap.size) w' A' (dd (sortL L f n) n).length (dd (sortL L f n) n) ∧
  Post (lt (keyOf' L)) 0 n (fun p => p) f ∧ Below w.heap.size w w' ∧ ((A' = none ∧ c' = 0) ∨ ∃ g, A' = some ⟨g, 0, none⟩)

set_option maxRecDepth 100000 in
set_option maxHeartbeats 3200000 in
theorem Come_any {S : Nat → Prop} (L : Pairs) (A : Option Addr) (n c : Nat) (w : World) (hL : LIn S w A n L) (hn : n ≤ 100000) (hcn : n ≤ c) :
    Calls Try.prog 11 #[.slice A n c] w fun e w' => Came w w' e L n := by
  obtain ⟨i0, hi, hz0, hz1, hz2⟩ := info_parts info39b
  have HO := Lib.hid (Own_any L A n c w hL hn hcn)
  have HLN := Lib.hid hL.len
  clear hL
  go_enter Try.func11, Try.ntmps11
  go_wp2_with fail
  refine HO.out.mono ?_
  rintro e w1 ⟨A1, c1, vs, rfl, hown, hb1⟩
  obtain ⟨g, rfl, hg1, hg2, henv, hon, hvals⟩ := hown.sees hn
  have HS := Lib.hid (sortStable_any g n c1 (valsOf n vs) (keyOf' L) w1 henv hon)
  have HCC : Hid (n ≤ c1) := henv.hc
  have HG := Lib.hid (And.intro hg1 (And.intro hg2 (And.intro hvals hb1)))
  clear hown henv hon hg1 hg2 hvals hb1
  unfold fnC at HS
  go_wp2_with fail
  refine HS.out.mono ?_
  rintro e w2 ⟨rfl, f, hon, hpost⟩
  have hf : ∀ p, p < n → f p < n := fun p hp => by
    obtain ⟨q, _, h2, e⟩ := hpost.1.fro p (Nat.zero_le _) hp
    rw [e]; exact h2
  have hk2 : Below w.heap.size w w2 := by
    have hk := hon.kept
    have hb1 := HG.out.2.2.2
    exact ⟨hk.os.trans hb1.os, hk.tape.trans hb1.tape, hk.output.trans hb1.output, Nat.le_trans hb1.size hk.size, fun b hb => (hk.block b (Nat.lt_of_lt_of_le hb hb1.size) (fun e => by have h1 := HG.out.1; injection e with e; omega)).trans (hb1.block b hb)⟩
  have HM0 := Lib.hid (hon.reads (base := w.heap.size) (c := 0) HG.out.1 HG.out.2.1 HG.out.2.2.1 hf)
  have HPOST := Lib.hid hpost
  have HK2 := Lib.hid hk2
  have HML : Hid ((sortL L f n).length = n) := sortL_len L f n
  clear hon hpost hf hk2 HS HG
  obtain ⟨M, hM⟩ : ∃ M, sortL L f n = M := ⟨_, rfl⟩
  have HMM := Lib.hid hM
  rw [hM] at HM0 HML
  clear hM
  have HPS : Hid (∀ W, Below w2.heap.size w2 W → ∀ j, j < n → ∃ kv xv, W.cell? ⟨g, j * 2, none⟩ = some kv ∧ W.cell? ⟨g, j * 2 + 1, none⟩ = some xv ∧ BIn (fun b => w.heap.size ≤ b ∧ b < w2.heap.size) W kv (M.getD j ([], [])).1 ∧ BIn (fun b => w.heap.size ≤ b ∧ b < w2.heap.size) W xv (M.getD j ([], [])).2) := fun W hW j hj => by
    obtain ⟨b, o, e, hlt, hS, hc⟩ := HM0.out.cell (by omega)
    injection e with e
    injection e with e1 e2
    subst e1
    subst e2
    obtain ⟨kv, xv, h1, h2, h3, h4⟩ := hc j hj
    rw [Nat.zero_add] at h1 h2
    exact ⟨kv, xv, (cell_block (hW.block g hlt)).trans h1, (cell_block (hW.block g hlt)).trans h2, (h3.imp fun b hb hS => ⟨hS, hb⟩).below hW, (h4.imp fun b hb hS => ⟨hS, hb⟩).below hW⟩
  have hi' := hi
  go_wp2_with fail
  go_loopw [3, 12] (fun u v wr => ∃ (j : Nat) (A' : Option Addr) (c' : Nat) (us : List Value), u = .slice A' (dd M j).length c' ∧ v = .int .i64 (j : Int) ∧ j ≤ n ∧ Hid (wr.ownsRow w2.heap.size 34 2 (.slice A' (dd M j).length c') (dd M j).length us ∧ PsOf (fun b => w.heap.size ≤ b ∧ b < w2.heap.size) wr us (dd M j) ∧ Below w2.heap.size w2 wr)) (fun _ v _ => n - (intOf v).toNat)
  case atStart => exact ⟨0, none, 0, [], rfl, rfl, by omega, Lib.hid ⟨World.ownsRow_nil _ _ _ _, ⟨rfl, fun j hj => by simp [dd] at hj⟩, Below.refl _ _⟩⟩
  case round =>
    obtain ⟨j, A', c', us, rfl, rfl, hj, hI⟩ := hrel
    by_cases hlt : j < n
    · obtain ⟨kv, xv, c0, c1', hk, hx⟩ := HPS.out _ hI.out.2.2 j hlt
      obtain ⟨Ak, nk, ck, rfl⟩ := hk.slice
      obtain ⟨Ax, nx, cx, rfl⟩ := hx.slice
      have hcc := HCC.out
      have al : (0 : Int) ≤ (j : Int) := by omega
      have al3 : (j : Int) < (n : Int) := by omega
      have hbx := (Below.refl _ wr).alloc (Nat.le_refl _) (.cells #[.slice Ak nk ck, .slice Ax nx cx] 34)
      have htw : Two (wr.alloc (.cells #[.slice Ak nk ck, .slice Ax nx cx] 34)) wr.heap.size (.slice Ak nk ck) (.slice Ax nx cx) := heap_new wr _
      have hb2X : Below w2.heap.size w2 (wr.alloc (.cells #[.slice Ak nk ck, .slice Ax nx cx] 34)) := hI.out.2.2.alloc hI.out.2.2.size _
      have HX : Hid (Below wr.heap.size wr (wr.alloc (.cells #[.slice Ak nk ck, .slice Ax nx cx] 34)) ∧ Below w2.heap.size w2 (wr.alloc (.cells #[.slice Ak nk ck, .slice Ax nx cx] 34)) ∧ BIn (fun b => w.heap.size ≤ b ∧ b < w2.heap.size) (wr.alloc (.cells #[.slice Ak nk ck, .slice Ax nx cx] 34)) (.slice Ak nk ck) (M.getD j ([], [])).1 ∧ BIn (fun b => w.heap.size ≤ b ∧ b < w2.heap.size) (wr.alloc (.cells #[.slice Ak nk ck, .slice Ax nx cx] 34)) (.slice Ax nx cx) (M.getD j ([], [])).2) :=
        ⟨hbx, hb2X, hk.below hbx, hx.below hbx⟩
      have HTW := Lib.hid htw
      have hle := dd_len M j
      have HLE := Lib.hid hle
      have hdl : (dd M j).length ≤ 100000 := by omega
      have HSUC := Lib.hid (dd_succ M j)
      have hgb : Hid (wr.heap.size < (wr.alloc (.cells #[.slice Ak nk ck, .slice Ax nx cx] 34)).heap.size) := (by simp : wr.heap.size < (wr.alloc (.cells #[.slice Ak nk ck, .slice Ax nx cx] 34)).heap.size)
      have HOX : Hid ((wr.alloc (.cells #[.slice Ak nk ck, .slice Ax nx cx] 34)).ownsRow w2.heap.size 34 2 (.slice A' (dd M j).length c') (dd M j).length us ∧ PsOf (fun b => w.heap.size ≤ b ∧ b < w2.heap.size) (wr.alloc (.cells #[.slice Ak nk ck, .slice Ax nx cx] 34)) us (dd M j)) := ⟨own_below hI.out.1 hbx, hI.out.2.1.carry hbx.size fun b _ hl => hbx.block b hl⟩
      clear hk hx hbx htw hb2X hle
      go_upto_region 7 with fail
      clear c0 c1'
      generalize wr.heap.size = gb at *
      generalize wr.alloc (.cells #[.slice Ak nk ck, .slice Ax nx cx] 34) = X at *
      have s0 := fun p : BelowBy X => (HTW.out.below p.below hgb.out).cells.1
      have s1 := fun p : BelowBy X => (HTW.out.below p.below hgb.out).cells.2
      -- what is behind the test, where the pair is taken
      by_cases hj1 : j + 1 < n
      · obtain ⟨kv2, xv2, d0, d1, hk2, hx2⟩ := HPS.out _ HX.out.2.1 (j + 1) hj1
        obtain ⟨Ak2, nk2, ck2, rfl⟩ := hk2.slice
        have hj1' : (j : Int) + 1 < (n : Int) := by omega
        have wj : IntKind.i64.wrap ((j : Int) + 1) = ((j + 1 : Nat) : Int) := by rw [wsm _ (by omega)]; omega
        obtain ⟨j1, hj1e⟩ : ∃ j1, j + 1 = j1 := ⟨_, rfl⟩
        have al4 : (0 : Int) ≤ (j1 : Int) := by omega
        have al5 : (j1 : Int) < (n : Int) := by omega
        rw [hj1e] at wj d0 d1 hk2 hj1
        have r0 := fun p : BelowBy X => (World.cell?_of_below p.below d0)
        have HEQ := Lib.hid (fun p : BelowBy X => equal_any (.slice Ak2 nk2 ck2) (.slice Ak nk ck) (M.getD j1 ([], [])).1 (M.getD j ([], [])).1 p.W (hk2.below p.below) (HX.out.2.2.1.below p.below))
        have HKB : Hid (keepB M j = !decide ((M.getD j1 ([], [])).1 = (M.getD j ([], [])).1)) := by
          unfold keepB
          rw [HML.out, hj1e, decide_eq_true hj1]; rfl
        have HJ1 := Lib.hid hj1e
        clear hk2 hx2 d0 d1 hj1e
        by_cases hkk : (M.getD j1 ([], [])).1 = (M.getD j ([], [])).1
        · rw [decide_eq_true hkk] at HEQ HKB
          clear hkk
          refine wp_region_quiet_below (by kernel_rfl) (by kernel_rfl) ?_
          repeat (quiet_step (first | (go_at_call 27; with_reducible refine Calls.below_same (HEQ.out _))))
          refine wpQuiet_nil ?_
          intro _ hw'
          obtain ⟨pb, rfl⟩ := hw'
          have HN : Hid (pb.W.ownsRow w2.heap.size 34 2 (.slice A' (dd M j).length c') (dd M j).length us ∧ PsOf (fun b => w.heap.size ≤ b ∧ b < w2.heap.size) pb.W us (dd M j) ∧ Below w2.heap.size w2 pb.W) :=
            ⟨own_below HOX.out.1 pb.below, HOX.out.2.carry pb.below.size fun b _ hl => pb.below.block b hl, HX.out.2.1.trans (pb.below.mono HX.out.2.1.size)⟩
          have HDD : Hid (dd M (j + 1) = dd M j) := by rw [HSUC.out, HKB.out]; exact (by simp : dd M j ++ (if (!true) = true then [((M.getD j ([], [])).1, (M.getD j ([], [])).2)] else []) = dd M j)
          clear s0 s1 r0 wj
          go_wp2_with fail
          go_roundw
          case rel => exact ⟨j + 1, A', c', us, by rw [HDD.out], by go_num, by omega, by rw [HDD.out]; exact HN⟩
          case measure => simp [intOf]; omega
        · rw [decide_eq_false hkk] at HEQ HKB
          clear hkk
          refine wp_region_quiet_below (by kernel_rfl) (by kernel_rfl) ?_
          repeat (quiet_step (first | (go_at_call 27; with_reducible refine Calls.below_same (HEQ.out _))))
          refine wpQuiet_nil ?_
          intro _ hw'
          obtain ⟨pb, rfl⟩ := hw'
          clear r0 wj
          have HDD : Hid (dd M (j + 1) = dd M j ++ [((M.getD j ([], [])).1, (M.getD j ([], [])).2)]) := by rw [HSUC.out, HKB.out]; exact (by simp : dd M j ++ (if (!false) = true then [((M.getD j ([], [])).1, (M.getD j ([], [])).2)] else []) = dd M j ++ [((M.getD j ([], [])).1, (M.getD j ([], [])).2)])
          have c0 := s0 pb
          have c1' := s1 pb
          have HOP : Hid (pb.W.ownsRow w2.heap.size 34 2 (.slice A' (dd M j).length c') (dd M j).length us ∧ PsOf (fun b => w.heap.size ≤ b ∧ b < w2.heap.size) pb.W us (dd M j) ∧ Below w2.heap.size w2 pb.W ∧ BIn (fun b => w.heap.size ≤ b ∧ b < w2.heap.size) pb.W (.slice Ak nk ck) (M.getD j ([], [])).1 ∧ BIn (fun b => w.heap.size ≤ b ∧ b < w2.heap.size) pb.W (.slice Ax nx cx) (M.getD j ([], [])).2) :=
            ⟨own_below HOX.out.1 pb.below, HOX.out.2.carry pb.below.size fun b _ hl => pb.below.block b hl, HX.out.2.1.trans (pb.below.mono HX.out.2.1.size), HX.out.2.2.1.below pb.below, HX.out.2.2.2.below pb.below⟩
          clear s0 s1
          generalize pb.W = V at *
          go_wp2_with (at_builtin; refine wpList_append_own _ rfl _ _ 22 rfl w2.heap.size 34 i0 (.agg #[.slice none 0 0, .slice none 0 0]) 2 48 Try.underlying22 hi hz0 hz1 hz2 rfl (by decide) _ _ _ rfl (HOP.out.1.alloc _) ⟨V.heap.size, 0, none⟩ 1 1 [.slice Ak nk ck, .slice Ax nx cx] ?c1 rfl ?c2 (by simp [Value.oneCell']) ?c3 ?c4 ?c5 ?_)
          case c1 => simp [Act.eval]
          case c2 =>
            have := World.news_of_block (heap_new V (.cells #[.slice Ak nk ck, .slice Ax nx cx] 34))
            simpa using this
          case c3 => unfold maxLen; omega
          case c4 => omega
          case c5 => have := HOP.out.2.2.1.size; simp; omega
          intro v' w3 hown1 hgrow _
          obtain ⟨A3, c3, rfl⟩ := own_slice hown1
          have hbn : Below V.heap.size V (V.alloc (.cells #[.slice Ak nk ck, .slice Ax nx cx] 34)) := (Below.refl _ _).alloc (Nat.le_refl _) _
          have hps : PsOf (fun b => w.heap.size ≤ b ∧ b < w2.heap.size) w3 (us ++ [.slice Ak nk ck, .slice Ax nx cx]) (dd M j ++ [((M.getD j ([], [])).1, (M.getD j ([], [])).2)]) := by
            refine PsOf.grown (row := (Value.slice A' (dd M j).length c').ownBlock) ?_ hgrow (fun b hb _ e => by have := HOP.out.1.lt b e; omega)
            exact (HOP.out.2.1.carry hbn.size fun b _ hl => hbn.block b hl).snoc (HOP.out.2.2.2.1.below hbn) (HOP.out.2.2.2.2.below hbn)
          have HN : Hid (w3.ownsRow w2.heap.size 34 2 (.slice A3 ((dd M j).length + 1) c3) ((dd M j).length + 1) (us ++ [.slice Ak nk ck, .slice Ax nx cx]) ∧ PsOf (fun b => w.heap.size ≤ b ∧ b < w2.heap.size) w3 (us ++ [.slice Ak nk ck, .slice Ax nx cx]) (dd M j ++ [((M.getD j ([], [])).1, (M.getD j ([], [])).2)]) ∧ Below w2.heap.size w2 w3) :=
            ⟨hown1, hps, (HOP.out.2.2.1.alloc HOP.out.2.2.1.size _).grown hgrow (by have := HOP.out.2.2.1.size; simp; omega) (fun k e => (HOP.out.1.lt k e).1)⟩
          have HL1 : Hid ((dd M (j + 1)).length = (dd M j).length + 1) := by rw [HDD.out]; exact (by simp : (dd M j ++ [((M.getD j ([], [])).1, (M.getD j ([], [])).2)]).length = (dd M j).length + 1)
          clear hown1 hgrow hbn hps c0 c1'
          go_wp2_with fail
          go_roundw
          case rel => exact ⟨j + 1, A3, c3, _, by rw [HL1.out], by go_num, by omega, by rw [HL1.out, HDD.out]; exact HN⟩
          case measure => simp [intOf]; omega
      · have hj1' : ¬ (j : Int) + 1 < (n : Int) := by omega
        have wj : IntKind.i64.wrap ((j : Int) + 1) = (j : Int) + 1 := wsm _ (by omega)
        have HKB : Hid (keepB M j = !false) := by
          unfold keepB
          rw [HML.out, decide_eq_false hj1]; rfl
        go_quiet (fail)
        clear wj
        obtain ⟨pb, hpb⟩ : ∃ pb : BelowBy X, X.drewN nq = pb.W := ⟨⟨X.drewN nq, below_drewN' nq⟩, rfl⟩
        rw [hpb]
        clear hpb
        have HDD : Hid (dd M (j + 1) = dd M j ++ [((M.getD j ([], [])).1, (M.getD j ([], [])).2)]) := by rw [HSUC.out, HKB.out]; exact (by simp : dd M j ++ (if (!false) = true then [((M.getD j ([], [])).1, (M.getD j ([], [])).2)] else []) = dd M j ++ [((M.getD j ([], [])).1, (M.getD j ([], [])).2)])
        have c0 := s0 pb
        have c1' := s1 pb
        have HOP : Hid (pb.W.ownsRow w2.heap.size 34 2 (.slice A' (dd M j).length c') (dd M j).length us ∧ PsOf (fun b => w.heap.size ≤ b ∧ b < w2.heap.size) pb.W us (dd M j) ∧ Below w2.heap.size w2 pb.W ∧ BIn (fun b => w.heap.size ≤ b ∧ b < w2.heap.size) pb.W (.slice Ak nk ck) (M.getD j ([], [])).1 ∧ BIn (fun b => w.heap.size ≤ b ∧ b < w2.heap.size) pb.W (.slice Ax nx cx) (M.getD j ([], [])).2) :=
          ⟨own_below HOX.out.1 pb.below, HOX.out.2.carry pb.below.size fun b _ hl => pb.below.block b hl, HX.out.2.1.trans (pb.below.mono HX.out.2.1.size), HX.out.2.2.1.below pb.below, HX.out.2.2.2.below pb.below⟩
        clear s0 s1
        generalize pb.W = V at *
        go_wp2_with (at_builtin; refine wpList_append_own _ rfl _ _ 22 rfl w2.heap.size 34 i0 (.agg #[.slice none 0 0, .slice none 0 0]) 2 48 Try.underlying22 hi hz0 hz1 hz2 rfl (by decide) _ _ _ rfl (HOP.out.1.alloc _) ⟨V.heap.size, 0, none⟩ 1 1 [.slice Ak nk ck, .slice Ax nx cx] ?c1 rfl ?c2 (by simp [Value.oneCell']) ?c3 ?c4 ?c5 ?_)
        case c3 => unfold maxLen; omega
        case c4 => omega
        case c5 => have := HOP.out.2.2.1.size; simp; omega
        intro v' w3 hown1 hgrow _
        obtain ⟨A3, c3, rfl⟩ := own_slice hown1
        have hbn : Below V.heap.size V (V.alloc (.cells #[.slice Ak nk ck, .slice Ax nx cx] 34)) := (Below.refl _ _).alloc (Nat.le_refl _) _
        have hps : PsOf (fun b => w.heap.size ≤ b ∧ b < w2.heap.size) w3 (us ++ [.slice Ak nk ck, .slice Ax nx cx]) (dd M j ++ [((M.getD j ([], [])).1, (M.getD j ([], [])).2)]) := by
          refine PsOf.grown (row := (Value.slice A' (dd M j).length c').ownBlock) ?_ hgrow (fun b hb _ e => by have := HOP.out.1.lt b e; omega)
          exact (HOP.out.2.1.carry hbn.size fun b _ hl => hbn.block b hl).snoc (HOP.out.2.2.2.1.below hbn) (HOP.out.2.2.2.2.below hbn)
        have HN : Hid (w3.ownsRow w2.heap.size 34 2 (.slice A3 ((dd M j).length + 1) c3) ((dd M j).length + 1) (us ++ [.slice Ak nk ck, .slice Ax nx cx]) ∧ PsOf (fun b => w.heap.size ≤ b ∧ b < w2.heap.size) w3 (us ++ [.slice Ak nk ck, .slice Ax nx cx]) (dd M j ++ [((M.getD j ([], [])).1, (M.getD j ([], [])).2)]) ∧ Below w2.heap.size w2 w3) :=
          ⟨hown1, hps, (HOP.out.2.2.1.alloc HOP.out.2.2.1.size _).grown hgrow (by have := HOP.out.2.2.1.size; simp; omega) (fun k e => (HOP.out.1.lt k e).1)⟩
        have HL1 : Hid ((dd M (j + 1)).length = (dd M j).length + 1) := by rw [HDD.out]; exact (by simp : (dd M j ++ [((M.getD j ([], [])).1, (M.getD j ([], [])).2)]).length = (dd M j).length + 1)
        clear hown1 hgrow hbn hps c0 c1'
        go_wp2_with fail
        go_roundw
        case rel => exact ⟨j + 1, A3, c3, _, by rw [HL1.out], by go_num, by omega, by rw [HL1.out, HDD.out]; exact HN⟩
        case measure => simp [intOf]; omega
    · obtain rfl : j = n := by omega
      obtain ⟨h1, h2⟩ := reads_own (S := New w.heap.size) hI.out.1 hI.out.2.1 rfl (fun b _ hb => hb.1) (fun b hb => Nat.le_trans HK2.out.size hb)
      have HF : Hid (Came w wr (.returned (.slice A' (dd M j).length c')) L j) := by
        have ha : (A' = none ∧ c' = 0) ∨ ∃ g, A' = some ⟨g, 0, none⟩ := by
          rcases hI.out.1.2 with ⟨hv, _⟩ | ⟨g, cap, cur, hv, _⟩
          · injection hv with h1 h2 h3; exact .inl ⟨h1, h3⟩
          · injection hv with h1 h2 h3; exact .inr ⟨g, h1⟩
        refine ⟨A', c', f, ?_, ?_, ?_, HPOST.out, HK2.out.trans (hI.out.2.2.mono HK2.out.size), ha⟩
        · rw [HMM.out]
        · rw [HMM.out]; exact h2
        · rw [HMM.out]; exact h1
      clear h1 h2
      go_wp2_with fail
      go_ret
      exact HF.out

end Go.Proofs.Ytocideolihbnaaa
