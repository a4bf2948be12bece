/- The package pair: Same; what a law is given: a row of pairs; Small. -/
import Derived.Test.YtocideolihbnaaaPPlain
set_option linter.unusedVariables false
set_option linter.unusedSimpArgs false
namespace Go.Proofs.Ytocideolihbnaaa
open Go.RowKit Go.ChangeShapes Go.WideShapes Go.Deep

set_option maxHeartbeats 1600000 in
theorem same1_any {S1 S2 S3 S4 : Nat → Prop} (kv xv kv' xv' : Value) (k x k' x' : Bytes) (W : World) (h1 : BIn S1 W kv k) (h2 : BIn S2 W xv x) (h3 : BIn S3 W kv' k') (h4 : BIn S4 W xv' x') :
    Calls Try.prog 29 #[.agg #[kv, xv], .agg #[kv', xv']] W fun e W' => e = .returned (.bool (decide ((k, x) = (k', x')))) ∧ Below W.heap.size W W' := by
  obtain ⟨A, n, c, rfl⟩ := h1.slice
  obtain ⟨B, m, d, rfl⟩ := h2.slice
  obtain ⟨A', n', c', rfl⟩ := h3.slice
  obtain ⟨B', m', d', rfl⟩ := h4.slice
  have hb1 := (Below.refl _ W).alloc (Nat.le_refl _) (.cells #[.slice A n c, .slice B m d] 34)
  have hb2 := hb1.alloc hb1.size (.cells #[.slice A' n' c', .slice B' m' d'] 34)
  have t1 : Two ((W.alloc (.cells #[.slice A n c, .slice B m d] 34)).alloc (.cells #[.slice A' n' c', .slice B' m' d'] 34)) W.heap.size (.slice A n c) (.slice B m d) := heap_old _ (heap_new W _)
  have t2 : Two ((W.alloc (.cells #[.slice A n c, .slice B m d] 34)).alloc (.cells #[.slice A' n' c', .slice B' m' d'] 34)) (W.heap.size + 1) (.slice A' n' c') (.slice B' m' d') := by
    have := heap_new (W.alloc (.cells #[.slice A n c, .slice B m d] 34)) (.cells #[.slice A' n' c', .slice B' m' d'] 34)
    rw [World.size_alloc] at this
    exact this
  have HC := Lib.hid (equal_any (.slice A n c) (.slice A' n' c') k k' _ (h1.below hb2) (h3.below hb2))
  have HD := Lib.hid (equal_any (.slice B m d) (.slice B' m' d') x x' _ (h2.below hb2) (h4.below hb2))
  have HB := Lib.hid hb2
  obtain ⟨a0, a1⟩ := t1.cells
  obtain ⟨b0, b1⟩ := t2.cells
  clear hb1 hb2 t1 t2 h1 h2 h3 h4
  by_cases hk : k = k'
  · by_cases hx : x = x'
    · have HR : Hid (decide ((k, x) = (k', x')) = true) := (by rw [hk, hx]; exact decide_eq_true rfl : decide ((k, x) = (k', x')) = true)
      rw [decide_eq_true hk] at HC
      rw [decide_eq_true hx] at HD
      rw [HR.out]
      clear hk hx
      go_enter Try.func29, Try.ntmps29
      go_wp2_with fail
      refine HC.out.mono ?_
      rintro e w1 ⟨rfl, rfl⟩
      go_wp2_with fail
      refine HD.out.mono ?_
      rintro e w1 ⟨rfl, rfl⟩
      go_wp2_with fail
      go_ret
      exact ⟨rfl, HB.out⟩
    · have HR : Hid (decide ((k, x) = (k', x')) = false) := decide_eq_false fun e => hx (Prod.ext_iff.1 e).2
      rw [decide_eq_true hk] at HC
      rw [decide_eq_false hx] at HD
      rw [HR.out]
      clear hk hx
      go_enter Try.func29, Try.ntmps29
      go_wp2_with fail
      refine HC.out.mono ?_
      rintro e w1 ⟨rfl, rfl⟩
      go_wp2_with fail
      refine HD.out.mono ?_
      rintro e w1 ⟨rfl, rfl⟩
      go_wp2_with fail
      go_ret
      exact ⟨rfl, HB.out⟩
  · have HR : Hid (decide ((k, x) = (k', x')) = false) := decide_eq_false fun e => hk (Prod.ext_iff.1 e).1
    rw [decide_eq_false hk] at HC
    rw [HR.out]
    clear hk
    go_enter Try.func29, Try.ntmps29
    go_wp2_with fail
    refine HC.out.mono ?_
    rintro e w1 ⟨rfl, rfl⟩
    go_wp2_with fail
    go_ret
    exact ⟨rfl, HB.out⟩

theorem pairs_ext {L M : Pairs} (hl : L.length = M.length) (h : ∀ i, i < L.length → L.getD i ([], []) = M.getD i ([], [])) : L = M := by
  refine List.ext_getElem hl fun i h1 h2 => ?_
  have := h i h1
  rw [List.getD_eq_getElem?_getD, List.getD_eq_getElem?_getD, List.getElem?_eq_getElem h1, List.getElem?_eq_getElem h2] at this
  exact this
instance : DecidableEq Pairs := inferInstanceAs (DecidableEq (List (List UInt8 × List UInt8)))

set_option maxHeartbeats 1600000 in
theorem equalF_any {S S' : Nat → Prop} (L M : Pairs) (A A' : Option Addr) (n n' c c' : Nat) (w : World) (hL : LIn S w A n L) (hM : LIn S' w A' n' M) (hn : n ≤ 1000000) (hn' : n' ≤ 1000000) :
    Calls Try.prog 28 #[.slice A n c, .slice A' n' c', .func (.func 29) #[] #[]] w fun e w' => e = .returned (.bool (decide (L = M))) ∧ Below w.heap.size w w' := by
  have HL := Lib.hid hL
  have HM := Lib.hid hM
  clear hL hM
  by_cases hlen : n = n'
  · subst hlen
    go_enter Try.func28, Try.ntmps28
    go_wp2_with fail
    go_loopw [17] (fun v wr => ∃ j : Nat, v = .int .i64 (j : Int) ∧ j ≤ n ∧ Hid ((∀ i, i < j → L.getD i ([], []) = M.getD i ([], [])) ∧ Below w.heap.size w wr)) (fun v _ => n - (intOf v).toNat)
    case atStart => exact ⟨0, rfl, by omega, Lib.hid ⟨fun i hi => by omega, Below.refl _ _⟩⟩
    case round =>
      obtain ⟨j, rfl, hj, hI⟩ := hrel
      by_cases hlt : j < n
      · obtain ⟨b, o, rfl, hbl, hSb, hc⟩ := (HL.out.below hI.out.2).cell (by omega)
        obtain ⟨b', o', rfl, hbl', hSb', hc'⟩ := (HM.out.below hI.out.2).cell (by omega)
        obtain ⟨kv, xv, c0, c1, hk, hx⟩ := hc j hlt
        obtain ⟨kv', xv', d0, d1, hk', hx'⟩ := hc' j hlt
        obtain ⟨A1, n1, c1', rfl⟩ := hk.slice
        obtain ⟨A2, n2, c2', rfl⟩ := hx.slice
        obtain ⟨A3, n3, c3', rfl⟩ := hk'.slice
        obtain ⟨A4, n4, c4', rfl⟩ := hx'.slice
        have al : (0 : Int) ≤ (j : Int) := by omega
        have al3 : (j : Int) < (n : Int) := by omega
        have hb1 := (Below.refl _ wr).alloc (Nat.le_refl _) (.cells #[.slice A1 n1 c1', .slice A2 n2 c2'] 34)
        have hb2 := hb1.alloc hb1.size (.cells #[.slice A3 n3 c3', .slice A4 n4 c4'] 34)
        have HC := Lib.hid (same1_any (.slice A1 n1 c1') (.slice A2 n2 c2') (.slice A3 n3 c3') (.slice A4 n4 c4') _ _ _ _ _ (hk.below hb2) (hx.below hb2) (hk'.below hb2) (hx'.below hb2))
        have HB := Lib.hid hb2
        have HEQ := Lib.hid (show ((L.getD j ([], [])).1, (L.getD j ([], [])).2) = ((M.getD j ([], [])).1, (M.getD j ([], [])).2) ↔ L.getD j ([], []) = M.getD j ([], []) from Iff.rfl)
        clear hc hc' hk hx hk' hx' hb1 hb2
        by_cases he : L.getD j ([], []) = M.getD j ([], [])
        · rw [decide_eq_true (HEQ.out.2 he)] at HC
          have HE := Lib.hid he
          clear he
          go_wp2_with fail
          refine HC.out.mono ?_
          rintro e w2 ⟨rfl, hb3⟩
          have HN : Hid ((∀ i, i < j + 1 → L.getD i ([], []) = M.getD i ([], [])) ∧ Below w.heap.size w w2) := ⟨fun i hi => by
            rcases Nat.lt_succ_iff_lt_or_eq.1 hi with h | rfl
            · exact hI.out.1 i h
            · exact HE.out, (hI.out.2.trans (HB.out.mono hI.out.2.size)).trans (hb3.mono (Nat.le_trans hI.out.2.size HB.out.size))⟩
          clear hb3
          go_wp2_with fail
          go_roundw
          case rel => exact ⟨j + 1, by go_num, by omega, HN⟩
          case measure => simp [intOf]; omega
        · rw [decide_eq_false fun h => he (HEQ.out.1 h)] at HC
          have HR : Hid (decide (L = M) = false) := decide_eq_false fun e => he (by rw [e])
          clear he
          go_wp2_with fail
          refine HC.out.mono ?_
          rintro e w2 ⟨rfl, hb3⟩
          have HN : Hid (Below w.heap.size w w2) := (hI.out.2.trans (HB.out.mono hI.out.2.size)).trans (hb3.mono (Nat.le_trans hI.out.2.size HB.out.size))
          clear hb3
          go_wp2_with fail
          go_ret
          exact ⟨by rw [HR.out]; rfl, HN.out⟩
      · obtain rfl : j = n := by omega
        have HR : Hid (decide (L = M) = true) := decide_eq_true (pairs_ext (by rw [HL.out.len, HM.out.len]) fun i hi => hI.out.1 i (by rw [HL.out.len] at hi; exact hi))
        go_wp2_with fail
        go_ret
        exact ⟨by rw [HR.out]; rfl, hI.out.2⟩
  · have hl2 : ¬ (n : Int) = (n' : Int) := by omega
    have HR : Hid (decide (L = M) = false) := decide_eq_false fun e => hlen (by rw [← HL.out.len, e, HM.out.len])
    rw [HR.out]
    clear hlen
    go_enter Try.func28, Try.ntmps28
    go_wp2_with fail
    go_ret
    exact ⟨rfl, Below.refl _ _⟩

set_option maxHeartbeats 1600000 in
theorem same_any {S S' : Nat → Prop} (L M : Pairs) (A A' : Option Addr) (n n' c c' : Nat) (w : World) (hL : LIn S w A n L) (hM : LIn S' w A' n' M) (hn : n ≤ 1000000) (hn' : n' ≤ 1000000) :
    Calls Try.prog 12 #[.slice A n c, .slice A' n' c'] w fun e w' => e = .returned (.bool (decide (L = M))) ∧ Below w.heap.size w w' := by
  have HE := Lib.hid (equalF_any L M A A' n n' c c' w hL hM hn hn')
  clear hL hM
  go_enter Try.func12, Try.ntmps12
  go_wp2_with fail
  refine HE.out.mono ?_
  rintro e w2 ⟨rfl, hb⟩
  have HB := Lib.hid hb
  clear hb
  go_wp2_with fail
  go_ret
  exact ⟨rfl, HB.out⟩

/-! ### What a law is given -/
/-- A slice of pairs, of any lengths. -/
structure PRaw (w : World) (A : Option Addr) (n : Nat) (L : Pairs) : Prop where
  len : L.length = n
  le : n ≤ 9223372036854775807
  cell : 0 < n → ∃ b o, A = some ⟨b, o, none⟩ ∧ b < w.heap.size ∧ ∀ j, j < n → ∃ kv xv, w.cell? ⟨b, o + j * 2, none⟩ = some kv ∧ w.cell? ⟨b, o + j * 2 + 1, none⟩ = some xv ∧
    BRaw w kv (L.getD j ([], [])).1 ∧ BRaw w xv (L.getD j ([], [])).2
theorem PRaw.below {w w1 : World} {A : Option Addr} {n : Nat} {L : Pairs} (h : PRaw w A n L) (hb : Below w.heap.size w w1) : PRaw w1 A n L :=
  ⟨h.len, h.le, fun hn => by
    obtain ⟨b, o, e, hlt, hc⟩ := h.cell hn
    refine ⟨b, o, e, Nat.lt_of_lt_of_le hlt hb.size, fun j hj => ?_⟩
    obtain ⟨kv, xv, h1, h2, h4, h5⟩ := hc j hj
    exact ⟨kv, xv, (cell_block (hb.block b hlt)).trans h1, (cell_block (hb.block b hlt)).trans h2, h4.below hb, h5.below hb⟩⟩
def FineP (L : Pairs) (most : Nat) : Prop := L.length ≤ most ∧ ∀ p ∈ L, p.1.length ≤ 100 ∧ p.2.length ≤ 100
theorem PRaw.fine {w : World} {A : Option Addr} {n most : Nat} {L : Pairs} (h : PRaw w A n L) (hf : FineP L most) : LIn (fun _ => True) w A n L :=
  ⟨h.len, fun hn => by
    obtain ⟨b, o, e, hlt, hc⟩ := h.cell hn
    refine ⟨b, o, e, hlt, trivial, fun j hj => ?_⟩
    obtain ⟨kv, xv, h1, h2, h4, h5⟩ := hc j hj
    have hm : L.getD j ([], []) ∈ L := by
      have := h.len
      rw [List.getD_eq_getElem?_getD, List.getElem?_eq_getElem (by omega)]; exact List.getElem_mem _
    have := hf.2 _ hm
    exact ⟨kv, xv, h1, h2, h4.fine (by omega), h5.fine (by omega)⟩⟩

section

variable {H : Type} {enc : TypeId × Value → H} {w : World} {base : Nat} {spare : Nat → Bool} {held : Bool}
theorem cells39 : Try.prog.cellsOf 34 = 2 := by kernel_rfl

set_option maxRecDepth 100000 in
theorem open_pair {fuel : Nat} {cs : List Value} {x : DataW H × List MemPlace} (h : DataW.trod enc Try.prog w base spare held fuel 34 cs = some x) :
    ∃ kv xv k y, cs = [kv, xv] ∧ BRaw w kv k ∧ BRaw w xv y := by
  obtain ⟨xs, n, rfl, _, hlen, hxl, hf⟩ := DataW.trod_struct Try.underlying34 h
  rw [cells39] at hlen
  match cs, hlen with
  | [v1, v2], _ =>
    have g1 := hf 0 _ rfl
    have g2 := hf 1 _ rfl
    simp [cells27] at g1 g2
    have hx3 : xs.length = 2 := hxl
    rw [List.getElem?_eq_getElem (by omega)] at g1 g2
    obtain ⟨k, hk⟩ := open_raw g1
    obtain ⟨y, hy⟩ := open_raw g2
    exact ⟨v1, v2, k, y, rfl, hk, hy⟩

set_option maxRecDepth 100000 in
theorem open_pairs {fuel : Nat} {A : Option Addr} {n c : Nat} {x : DataW H × List MemPlace} (h : DataW.trod enc Try.prog w base spare held fuel 22 [.slice A n c] = some x) : n ≤ c ∧ ∃ L, PRaw w A n L := by
  rcases open_slice Try.underlying22 h with ⟨hcs, _⟩ | ⟨a, len, cap, m, f, D, Pl, hcs, _, hl, hm, hmm, _, hx⟩
  · cases hcs
    exact ⟨Nat.le_refl _, [], rfl, by omega, fun h => by omega⟩
  · cases hcs
    have hnm : n ≤ m := by rw [hmm]; split <;> omega
    unfold maxLen at hm
    have each : ∀ i, i < n → ∃ q : Bytes × Bytes, ∃ kv xv, w.cell? (a.add (i * 2)) = some kv ∧ w.cell? (a.add (i * 2 + 1)) = some xv ∧ BRaw w kv q.1 ∧ BRaw w xv q.2 := by
      intro i hi
      obtain ⟨cs', h1, h2⟩ := hx i (by omega)
      rw [cells39] at h1
      obtain ⟨_, hlen, hcell⟩ := World.cells?_some h1
      obtain ⟨kv, xv, k, y, rfl, hk, hy⟩ := open_pair h2
      have e0 := hcell 0 (by omega)
      have e1 := hcell 1 (by omega)
      rw [add_add] at e0 e1
      exact ⟨(k, y), kv, xv, by simpa using e0, by simpa using e1, hk, hy⟩
    obtain ⟨q, hq⟩ := choose_lt each
    refine ⟨hl, (List.range n).map q, by simp, by omega, fun hn => ?_⟩
    obtain ⟨_, _, z0, _⟩ := hq 0 hn
    obtain ⟨b, off, spot⟩ := a
    have hspot : spot = none := by simpa [Addr.add] using World.cell?_spot z0
    subst hspot
    refine ⟨b, off, rfl, ?_, fun j hj => ?_⟩
    · have := World.block_lt_of_cell? w _ z0
      simpa [Addr.add] using this
    · obtain ⟨kv, xv, h1, h2, h4, h5⟩ := hq j hj
      have e : ((List.range n).map q).getD j ([], []) = q j := by simp [List.getD_eq_getElem?_getD, hj]
      rw [e]
      rw [addP] at h1 h2
      exact ⟨kv, xv, h1, h2, h4, h5⟩

end

def SmallR (L : Pairs) (most : Nat) (w w' : World) (e : Ending) : Prop := ∃ r, e = .returned (.bool r) ∧ (r = true → FineP L most) ∧ Below w.heap.size w w'
set_option maxHeartbeats 3200000 in
theorem small_any (A : Option Addr) (n c : Nat) (L : Pairs) (most : Nat) (w : World) (h : PRaw w A n L) (hmost : most ≤ 1000) :
    Calls Try.prog 9 #[.slice A n c, .int .i64 (most : Int)] w fun e w' => SmallR L most w w' e := by
  have HO := Lib.hid h
  have hle := h.le
  clear h
  by_cases hbig : most < n
  · have hb2 : (most : Int) < (n : Int) := by omega
    go_enter Try.func9, Try.ntmps9
    go_wp2_with fail
    go_ret
    exact ⟨false, rfl, (fun h => by cases h), Below.refl _ _⟩
  · have hb2 : ¬ (most : Int) < (n : Int) := by omega
    go_enter Try.func9, Try.ntmps9
    go_wp2_with fail
    go_loopw [13] (fun v wr => ∃ j : Nat, v = .int .i64 (j : Int) ∧ j ≤ n ∧ Hid (∀ i, i < j → (L.getD i ([], [])).1.length ≤ 100 ∧ (L.getD i ([], [])).2.length ≤ 100) ∧ Below w.heap.size w wr) (fun v _ => n - (intOf v).toNat)
    case atStart => exact ⟨0, rfl, by omega, Lib.hid (fun i hi => by omega), Below.refl _ _⟩
    case round =>
      obtain ⟨j, rfl, hj, hall, hb⟩ := hrel
      have HB := Lib.hid hb
      clear hb
      by_cases hlt : j < n
      · obtain ⟨b, o, rfl, hbl, hc⟩ := (HO.out.below HB.out).cell (by omega)
        obtain ⟨kv, xv, c1, c2, ⟨Ak, nk, ck, rfl, hk1, hk2, hk3⟩, ⟨Ax, nx, cx, rfl, hx1, hx2, hx3⟩⟩ := hc j hlt
        have HL := Lib.hid (And.intro hk3.len hx3.len)
        have al : (0 : Int) ≤ (j : Int) := by omega
        have al3 : (j : Int) < (n : Int) := by omega
        clear hc hk3 hx3
        by_cases hbk : 100 < nk
        · have : (100 : Int) < (nk : Int) := by omega
          go_wp2_with fail
          go_ret
          exact ⟨false, rfl, (fun h => by cases h), HB.out.alloc HB.out.size _⟩
        · have hbk2 : ¬ (100 : Int) < (nk : Int) := by omega
          by_cases hbx : 100 < nx
          · have : (100 : Int) < (nx : Int) := by omega
            go_wp2_with fail
            go_ret
            exact ⟨false, rfl, (fun h => by cases h), HB.out.alloc HB.out.size _⟩
          · have hbx2 : ¬ (100 : Int) < (nx : Int) := by omega
            go_wp2_with fail
            go_roundw
            case rel => exact ⟨j + 1, by go_num, by omega, Lib.hid (fun i hi => by
              rcases Nat.lt_succ_iff_lt_or_eq.1 hi with h | rfl
              · exact hall.out i h
              · have := HL.out; omega), HB.out.alloc HB.out.size _⟩
            case measure => simp [intOf]; omega
      · obtain rfl : j = n := by omega
        have hfin : FineP L most := by
          refine ⟨by rw [HO.out.len]; omega, fun x hx => ?_⟩
          obtain ⟨i, hi, rfl⟩ := List.getElem_of_mem hx
          have := hall.out i (by rw [HO.out.len] at hi; exact hi)
          rw [List.getD_eq_getElem?_getD, List.getElem?_eq_getElem hi, Option.getD_some] at this
          exact this
        have HF := Lib.hid hfin
        clear hfin
        go_wp2_with fail
        go_ret
        exact ⟨true, rfl, fun _ => HF.out, HB.out⟩

end Go.Proofs.Ytocideolihbnaaa
