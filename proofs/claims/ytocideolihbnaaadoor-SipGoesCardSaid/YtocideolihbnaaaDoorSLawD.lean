/- The law SipGoes, as a walk. -/
import Derived.Test.YtocideolihbnaaaDoorSLawB
set_option linter.unusedVariables false
set_option linter.unusedSimpArgs false
namespace Go.Proofs.YtocideolihbnaaaDoor
open Go.RowKit
attribute [local go_sem ↓] Go.wp_at_zero Go.wp_at_succ

/-- A number's bytes, the lowest first. -/
def leB (m : Nat) (i : Nat) : List UInt8 := (List.range i).map fun t => UInt8.ofNat (m / 2 ^ (8 * t) % 256)
theorem leB_len (m i : Nat) : (leB m i).length = i := by simp [leB]
theorem leB_succ (m i : Nat) : leB m (i + 1) = leB m i ++ [UInt8.ofNat (m / 2 ^ (8 * i) % 256)] := by simp [leB, List.range_succ]
/-- The key of some numbers. -/
def keyOf (l : List Nat) (j : Nat) : List UInt8 := (List.range j).flatMap fun t => leB (l.getD t 0) 8
theorem keyOf_succ (l : List Nat) (j : Nat) : keyOf l (j + 1) = keyOf l j ++ leB (l.getD j 0) 8 := by simp [keyOf, List.range_succ]
theorem keyOf_len (l : List Nat) (j : Nat) : (keyOf l j).length = 8 * j := by
  induction j with
  | zero => rfl
  | succ j ih => rw [keyOf_succ, List.length_append, ih, leB_len]; omega
def bvals (l : List UInt8) : List Value := l.map fun c => Value.int .u8 (c.toNat : Int)
theorem bvals_append (a b : List UInt8) : bvals (a ++ b) = bvals a ++ bvals b := by simp [bvals]
theorem one_cellB (x : Int) : ∀ u ∈ [Value.int .u8 x], u.oneCell' = true := by intro u hu; simp at hu; subst hu; rfl
theorem lowv_leB (m : Nat) (hm : m < 18446744073709551616) : lowv (leB m 8) = m := by
  simp only [leB, List.range_succ, List.range_zero, List.map_append, List.map_cons, List.map_nil, List.nil_append, List.cons_append, lowv]
  simp only [UInt8.toNat_ofNat']
  omega
theorem keyOf_chunk (l : List Nat) (n : Nat) : ∀ j, j < n → ((keyOf l n).drop (8 * j)).take 8 = leB (l.getD j 0) 8 := by
  induction n with
  | zero => intro j h; omega
  | succ n ih =>
    intro j hj
    rw [keyOf_succ]
    by_cases h : j < n
    · rw [List.drop_append_of_le_length (by rw [keyOf_len]; omega), List.take_append_of_le_length (by rw [List.length_drop, keyOf_len]; omega)]
      exact ih j h
    · obtain rfl : j = n := by omega
      rw [List.drop_append, keyOf_len, Nat.sub_self, List.drop_zero, List.drop_of_length_le (by rw [keyOf_len]; omega), List.nil_append]
      exact List.take_of_length_le (by rw [leB_len]; omega)
theorem eat_key (x : St) (l : List Nat) (n : Nat) (hl : ∀ j, l.getD j 0 < 18446744073709551616) : ∀ j, j ≤ n → eat (keyOf l n) j x = eatL x l j := by
  intro j
  induction j with
  | zero => intro _; rfl
  | succ j ih =>
    intro hj
    rw [eat, eatL, ih (by omega), keyOf_chunk l n j (by omega), lowv_leB _ (hl j)]
theorem hash_key (s : List UInt8) (l : List Nat) (n : Nat) (hl : ∀ j, l.getD j 0 < 18446744073709551616) : hashN s (keyOf l n) = endN (takeN (eatL (beginN s) l n) (lenN (keyOf l n))) := by
  have e : (keyOf l n).length / 8 = n := by rw [keyOf_len]; omega
  unfold hashN lastN
  rw [e, eat_key _ l n hl n (Nat.le_refl _), List.drop_of_length_le (by rw [keyOf_len]; omega)]
  simp [lowv]

theorem RdB.owned {w : World} {base : Nat} {v : Value} {l : List UInt8} {e : TypeId} {n : Nat} (hn : l.length = n) (h : w.ownsRow base e 1 v n (bvals l)) :
    ∃ A c, v = .slice A n c ∧ RdB w A n l ∧ n ≤ c := by
  subst hn
  rcases h.2 with ⟨rfl, hn⟩ | ⟨g, cap, cur, rfl, hb, hg, hc, hm, hs, ht⟩
  · rw [hn]; exact ⟨none, 0, rfl, ⟨hn, by omega, fun h => by omega⟩, by omega⟩
  · refine ⟨_, cap, rfl, ⟨rfl, by unfold maxLen at hm; omega, fun hn => ⟨g, 0, rfl, (Array.getElem?_eq_some_iff.1 hg).1, fun j hj => ?_⟩⟩, hc⟩
    rw [Nat.zero_add, h.cellAt j (by omega), bvals, List.getElem?_map, List.getElem?_eq_getElem hj, List.getD_eq_getElem?_getD, List.getElem?_eq_getElem hj]
    rfl

/-- The bytes as cells. -/
def rowL (l : List UInt8) : List Value := l.map fun c => Value.int .u8 (c.toNat : Int)
theorem rowL_row (l : List UInt8) : rowOf l = (rowL l).toArray := rfl
theorem SeedAt.range {W : World} {b : Nat} {s : List UInt8} (h : SeedAt W b s) : W.rangeAt b 0 (rowL s) := by
  have h2 := World.rangeAt_of_block h 0 (rowOf s).size
  simpa [rowL_row] using h2
/-- The law's world: the seed's box, the state's box. -/
structure Gs (w W : World) (s : List UInt8) (g : Nat) (x : St) : Prop where
  gle : w.heap.size < g
  seed : SeedAt W w.heap.size s
  st : Lies W g 31 x
  bel : Below w.heap.size w W
theorem Gs.below {w W W' : World} {s : List UInt8} {g : Nat} {x : St} (h : Gs w W s g x) (hb : Below (g + 1) W W') : Gs w W' s g x :=
  ⟨h.gle, h.seed.below hb (by have := h.gle; omega), h.st.below hb (by omega), h.bel.trans (hb.mono (by have := h.gle; omega))⟩
theorem Gs.drew {w W : World} {s : List UInt8} {g : Nat} {x : St} (h : Gs w W s g x) : Gs w W.drew s g x := ⟨h.gle, h.seed, h.st, ⟨h.bel.os, h.bel.tape, h.bel.output, h.bel.size, h.bel.block⟩⟩
theorem Gs.lt {w W : World} {s : List UInt8} {g : Nat} {x : St} (h : Gs w W s g x) : g + 1 ≤ W.heap.size := h.st.lt
theorem Gs.put {w W : World} {s : List UInt8} {g : Nat} {x : St} (h : Gs w W s g x) (y : St) :
    Gs w ((((W.setCell ⟨g, 0, none⟩ (.int .u64 (y.p : Int))).setCell ⟨g, 1, none⟩ (.int .u64 (y.q : Int))).setCell ⟨g, 2, none⟩ (.int .u64 (y.r : Int))).setCell ⟨g, 3, none⟩ (.int .u64 (y.s : Int))) s g y := by
  have hg := h.gle
  refine ⟨hg, ?_, lies_put h.st y, (((h.bel.setCell (p := ⟨g, 0, none⟩) (Nat.le_of_lt hg) _).setCell (p := ⟨g, 1, none⟩) (Nat.le_of_lt hg) _).setCell (p := ⟨g, 2, none⟩) (Nat.le_of_lt hg) _).setCell (p := ⟨g, 3, none⟩) (Nat.le_of_lt hg) _⟩
  unfold SeedAt
  rw [heap_setCell_other _ _ _ _ (by simp only; omega), heap_setCell_other _ _ _ _ (by simp only; omega), heap_setCell_other _ _ _ _ (by simp only; omega), heap_setCell_other _ _ _ _ (by simp only; omega)]
  exact h.seed

theorem own_below {w w1 : World} {base : Nat} {e : TypeId} {size n : Nat} {v : Value} {xs : List Value} (h : w.ownsRow base e size v n xs) (hb : Below w.heap.size w w1) : w1.ownsRow base e size v n xs :=
  h.kept (row := none) ⟨hb.os, hb.tape, hb.output, hb.size, fun i hi _ => hb.block i hi⟩ (by cases v.ownBlock <;> simp)

theorem own_set {w : World} {base : Nat} {e : TypeId} {size n : Nat} {v : Value} {xs : List Value} (h : w.ownsRow base e size v n xs) {g : Nat} (hg : g < base) (i : Nat) (u : Value) : (w.setCell ⟨g, i, none⟩ u).ownsRow base e size v n xs :=
  h.kept (row := some g) ⟨rfl, rfl, rfl, by simp, fun k hk hne => heap_setCell_other w _ k u (by intro e; exact hne (congrArg some e))⟩ (by
    cases hv : v.ownBlock with
    | none => exact .inl rfl
    | some k => refine .inr (fun e => ?_); have := (h.lt k hv).1; cases e; omega)

theorem info5 : (Tryd.prog.info? 5).map (fun i => (i.zero, i.size, i.bytes)) = some (some (.int .u8 0), 1, 1) := by kernel_rfl

set_option maxHeartbeats 6400000 in
theorem sipGoes_any (s : List UInt8) (hs : s.length = 16) (A : Option Addr) (n c : Nat) (l : List Nat) (w : World) (hR : RdU w A n l) (h64 : ∀ j, l.getD j 0 < 18446744073709551616) (hT : TabOK w) :
    Calls Tryd.prog 6 #[.agg (rowOf s), .slice A n c] w fun e w' => e = .returned (.bool true) ∧ Below w.heap.size w w' := by
  obtain ⟨i0, hi, hz0, hz1, hz2⟩ := info_parts info5
  have hbx := (Below.refl _ w).alloc (Nat.le_refl _) (.cells (rowOf s) 23)
  have hsx := heap_new w (.cells (rowOf s) 23)
  have HT := Lib.hid hT
  have HBX := Lib.hid hbx
  by_cases hn : n ≤ 30
  · have HSZ : Hid ((Tryd.prog.info? 23).map (·.size) = some (rowOf s).size) := info23b.trans (by rw [rowOf_size, hs])
    have HSX := Lib.hid hsx
    have HBG := Lib.hid (begin_any s hs _ (hT.below hbx))
    have HRU := Lib.hid hR
    have H64 := Lib.hid h64
    have HOK := Lib.hid (eatL_ok (beginN s) (beginN_ok s) l h64)
    clear hbx hsx hT hR h64
    go_enter Tryd.func6, Tryd.ntmps6
    go_wp2_with (refine wpList_load_row rfl 23 _ rfl w.heap.size (by rfl) 23 (rowOf s) (0, 0) _ HSX.out Tryd.underlying23 rfl HSZ.out ?_)
    refine HBG.out.mono ?_
    rintro e w1 ⟨rfl, hb1⟩
    have hg0 : w.heap.size < w1.heap.size := by have := hb1.size; simp at this; omega
    have hgs : Gs w (w1.alloc (.cells #[.int .u64 ((beginN s).p : Int), .int .u64 ((beginN s).q : Int), .int .u64 ((beginN s).r : Int), .int .u64 ((beginN s).s : Int)] 31)) s w1.heap.size (eatL (beginN s) l 0) :=
      ⟨hg0, heap_old _ ((hb1.block _ (by simp)).trans HSX.out), heap_new w1 _, (HBX.out.trans (hb1.mono HBX.out.size)).alloc (Nat.le_of_lt hg0) _⟩
    have HGS := Lib.hid hgs
    have HG0 := Lib.hid hg0
    clear hgs hb1 hg0
    simp only [St.v]
    go_wp2_with fail
    generalize hXX : w1.alloc (.cells #[.int .u64 ((beginN s).p : Int), .int .u64 ((beginN s).q : Int), .int .u64 ((beginN s).r : Int), .int .u64 ((beginN s).s : Int)] 31) = XX at *
    have hgs2 : Gs w (XX.alloc (.cells #[] 5)) s w1.heap.size (eatL (beginN s) l 0) := HGS.out.below ((Below.refl _ _).alloc HGS.out.lt _)
    have hemp : (XX.alloc (.cells #[] 5)).ownsRow (w1.heap.size + 1) 5 1 (.slice (some ⟨XX.heap.size, 0, none⟩) 0 0) 0 [] :=
      ⟨rfl, .inr ⟨XX.heap.size, 0, #[], rfl, HGS.out.lt, heap_alloc_new XX _, Nat.le_refl _, Nat.zero_le _, rfl, rfl⟩⟩
    rw [show XX.heap.size = w1.heap.size + 1 by rw [← hXX]; simp] at hemp
    clear hXX
    have HGS2 := Lib.hid hgs2
    have HEMP := Lib.hid hemp
    clear hgs2 hemp
    go_loopw [6, 19] (fun kv v wr => ∃ j : Nat, j ≤ n ∧ v = .int .i64 j ∧ Gs w wr s w1.heap.size (eatL (beginN s) l j) ∧ wr.ownsRow (w1.heap.size + 1) 5 1 kv (8 * j) (bvals (keyOf l j))) (fun _ v _ => n - (intOf v).toNat)
    case atStart => exact ⟨0, by omega, rfl, HGS2.out, HEMP.out⟩
    case round =>
      obtain ⟨j, hj, rfl, hg, hown⟩ := hrel
      have hokj := HOK.out j
      by_cases hlt : j < n
      · have HNX : Hid (eatL (beginN s) l (j + 1) = takeN (eatL (beginN s) l j) (l.getD j 0)) := rfl
        have HKY := Lib.hid (keyOf_succ l j)
        have hm := H64.out j
        have hTk := fun w => take_any _ _ w hokj hm
        obtain ⟨b, o, rfl, hbl, hc⟩ := (HRU.out.below hg.bel).cell (by omega)
        have hcj := hc j hlt
        generalize eatL (beginN s) l j = y at *
        generalize l.getD j 0 = m at *
        generalize takeN y m = z at *
        obtain ⟨y1, y2, y3, y4⟩ := y
        obtain ⟨z1, z2, z3, z4⟩ := z
        obtain ⟨c0, c1, c2, c3⟩ := hg.st.cells
        have HG := Lib.hid hg
        have HTk := Lib.hid hTk
        have HOWN := Lib.hid hown
        clear hg hTk hc hokj hown
        simp only [St.v] at HTk
        go_wp2_with fail
        refine (HTk.out _).mono ?_
        rintro e w3 ⟨rfl, hb3⟩
        have HG2 := Lib.hid (HG.out.below (hb3.mono HG.out.lt))
        have HOWN2 := Lib.hid (own_below HOWN.out hb3)
        clear hb3
        obtain ⟨d0, d1, d2, d3⟩ := HG2.out.st.cells
        have f0 := frozen_of_row _ _ 0 _ _ HG2.out.st
        have f1 := frozen_of_row _ _ 1 _ _ HG2.out.st
        have f2 := frozen_of_row _ _ 2 _ _ HG2.out.st
        have f3 := frozen_of_row _ _ 3 _ _ HG2.out.st
        go_wp2_with fail
        have HG3 := Lib.hid (HG2.out.put ⟨z1, z2, z3, z4⟩)
        have HOWN3 := Lib.hid (own_set (own_set (own_set (own_set HOWN2.out (Nat.lt_succ_self _) 0 (.int .u64 (z1 : Int))) (Nat.lt_succ_self _) 1 (.int .u64 (z2 : Int))) (Nat.lt_succ_self _) 2 (.int .u64 (z3 : Int))) (Nat.lt_succ_self _) 3 (.int .u64 (z4 : Int)))
        clear d0 d1 d2 d3 f0 f1 f2 f3
        dsimp only at HG3
        generalize (((w3.setCell ⟨w1.heap.size, 0, none⟩ (.int .u64 (z1 : Int))).setCell ⟨w1.heap.size, 1, none⟩ (.int .u64 (z2 : Int))).setCell ⟨w1.heap.size, 2, none⟩ (.int .u64 (z3 : Int))).setCell ⟨w1.heap.size, 3, none⟩ (.int .u64 (z4 : Int)) = W4 at *
        go_loopw [6, 26] (fun kv v wr2 => ∃ i : Nat, i ≤ 8 ∧ v = .int .i64 i ∧ Gs w wr2 s w1.heap.size ⟨z1, z2, z3, z4⟩ ∧ wr2.ownsRow (w1.heap.size + 1) 5 1 kv (8 * j + i) (bvals (keyOf l j ++ leB m i))) (fun _ v _ => 8 - (intOf v).toNat)
        case atStart => exact ⟨0, by omega, rfl, HG3.out, by simpa [leB] using HOWN3.out⟩
        case round =>
          obtain ⟨i, hi8, rfl, hg2, hown⟩ := hrel
          by_cases hlt2 : i < 8
          · have HLE := Lib.hid (leB_succ m i)
            have hsz := hg2.lt
            have HG5 := Lib.hid hg2
            have hpw : (8 * (i : Int)).toNat = 8 * i := by omega
            clear hg2
            have he : ((UInt8.ofNat (m / 2 ^ (8 * i) % 256)).toNat : Int) = (m : Int) / 2 ^ (8 * i) % 256 := by
              rw [UInt8.toNat_ofNat', show (2 : Nat) ^ 8 = 256 from rfl, Nat.mod_mod]; simp
            have HE := Lib.hid he
            clear he
            go_wp2_with (at_builtin; refine wpList_append_own _ rfl _ _ 24 rfl (w1.heap.size + 1) 5 i0 (.int .u8 0) 1 1 Tryd.underlying24 hi hz0 hz1 hz2 rfl (by decide) _ _ _ rfl (hown.alloc _) ⟨wr.heap.size, 0, none⟩ 1 1 [.int .u8 ((m : Int) / 2 ^ (8 * i) % 256)] rfl rfl (cell_one_new _ _ _) (one_cellB _) ?c3 ?c4 ?c5 ?_)
            case c3 => unfold maxLen; omega
            case c4 => omega
            case c5 => simp; omega
            intro v' w5 hown1 hgrow _
            have hb1 : Below (w1.heap.size + 1) wr w5 := ((Below.refl _ wr).alloc hsz _).grown hgrow (by simp; omega) (fun k e => (hown.lt k e).1)
            have ho2 : w5.ownsRow (w1.heap.size + 1) 5 1 v' (8 * j + (i + 1)) (bvals (keyOf l j ++ leB m (i + 1))) := by
              rw [HLE.out, ← List.append_assoc, bvals_append, show bvals [UInt8.ofNat (m / 2 ^ (8 * i) % 256)] = [Value.int .u8 ((m : Int) / 2 ^ (8 * i) % 256)] by rw [← HE.out]; rfl]
              exact hown1
            have HO2 := Lib.hid ho2
            have HG6 := Lib.hid (HG5.out.below hb1)
            clear hown1 hgrow ho2 hb1 hown
            go_wp2_with fail
            go_roundw
            case rel => exact ⟨i + 1, by omega, by go_num, HG6.out, HO2.out⟩
            case measure => simp [intOf]; omega
          · obtain rfl : i = 8 := by omega
            have HO := Lib.hid hown
            have HG5 := Lib.hid hg2
            clear hown hg2
            go_wp2_with fail
            go_roundw
            case rel => exact ⟨j + 1, by omega, by go_num, by rw [HNX.out]; exact HG5.out, by rw [HKY.out]; exact HO.out⟩
            case measure => simp [intOf]; omega
      · obtain rfl : j = n := by omega
        obtain ⟨A', c', rfl, hRB, hcc⟩ := RdB.owned (keyOf_len l j) hown
        have hkl := keyOf_len l j
        have hHK := hash_key s l j H64.out
        have hlnl : lenN (keyOf l j) < 18446744073709551616 := by unfold lenN; omega
        have hTk := fun w => take_any _ _ w hokj hlnl
        have hEn := fun w => end_any _ w (takeN_ok _ _ hokj hlnl)
        rw [← hHK] at hEn
        have hHs := fun W (h : Gs w W s w1.heap.size (eatL (beginN s) l j)) (hb : Below wr.heap.size wr W) => hash_any s hs A' (8 * j) c' (keyOf l j) W (HT.out.below h.bel) (hRB.below hb) hcc
        have hLN : ((lenN (keyOf l j) : Nat) : Int) = (8 * (j : Int)) % 256 * 72057594037927936 := by unfold lenN; rw [hkl]; simp
        have HLN := Lib.hid hLN
        rw [hLN] at hTk
        rw [rowL_row] at hHs
        have hC := fun W (h : Gs w W s w1.heap.size (eatL (beginN s) l j)) => And.intro h.seed.range h.st.cells
        have u23 := Tryd.underlying23
        have i23 : (Tryd.prog.info? 23).map (·.size) = some (rowL s).length := info23b.trans (by rw [rowL, List.length_map, hs])
        have HG5 := Lib.hid hg
        clear hg hown hRB hkl hHK hlnl hokj hLN HLN HSX HSZ HBG HOK H64 HRU HEMP HGS2 HGS
        generalize hashN s (keyOf l j) = HH at *
        generalize takeN (eatL (beginN s) l j) (lenN (keyOf l j)) = z at *
        generalize eatL (beginN s) l j = y at *
        generalize rowL s = R at *
        obtain ⟨y1, y2, y3, y4⟩ := y
        obtain ⟨z1, z2, z3, z4⟩ := z
        have HLN2 : Hid (IntKind.u64.wrap (IntKind.u64.wrap ((8 * (j : Int)).tmod 256) * 72057594037927936) = 8 * (j : Int) % 256 * 72057594037927936) := (by rw [Int.tmod_eq_emod_of_nonneg (by omega), u64_wrap, u64_wrap]; omega : IntKind.u64.wrap (IntKind.u64.wrap ((8 * (j : Int)).tmod 256) * 72057594037927936) = 8 * (j : Int) % 256 * 72057594037927936)
        have HTk := Lib.hid hTk
        have HEn := Lib.hid hEn
        have HHs := Lib.hid hHs
        have HC := Lib.hid hC
        clear hTk hEn hHs hC
        simp only [St.v] at HTk HEn
        go_wp2_with fail
        go_region_held3 (fun w' => w'.rangeAt w.heap.size 0 R ∧ w'.cell? ⟨w1.heap.size, 0, none⟩ = some (.int .u64 (y1 : Int)) ∧ w'.cell? ⟨w1.heap.size, 1, none⟩ = some (.int .u64 (y2 : Int)) ∧ w'.cell? ⟨w1.heap.size, 2, none⟩ = some (.int .u64 (y3 : Int)) ∧ w'.cell? ⟨w1.heap.size, 3, none⟩ = some (.int .u64 (y4 : Int)))
          (first | with_reducible exact HC.out _ HG9.out | with_reducible exact HC.out _ HG8.out | with_reducible exact HC.out _ HG7.out | with_reducible exact HC.out _ HG6.out | with_reducible exact HC.out _ HG5.out | with_reducible exact HC.out _ HG5.out.drew | go_keep)
          (first
            | (go_at_call 9; (with_reducible refine (HHs.out _ HG5.out.drew ⟨rfl, rfl, rfl, Nat.le_refl _, fun _ _ => rfl⟩).mono ?_); rintro e wa ⟨rfl, hb⟩; have HG6 := Lib.hid (HG5.out.drew.below (hb.mono HG5.out.drew.lt)); clear hb)
            | (go_at_call 15; rw [HLN2.out]; (with_reducible refine (HTk.out _).mono ?_); rintro e wb ⟨rfl, hb⟩; have HG7 := Lib.hid (HG6.out.below (hb.mono HG6.out.lt)); clear hb)
            | (go_at_call 17; (with_reducible refine (HEn.out _).mono ?_); rintro e wd ⟨rfl, hb⟩; have HG8 := Lib.hid (HG7.out.below (hb.mono HG7.out.lt)); clear hb)
            | (go_at_call 8; (with_reducible refine (awake_any _ (HT.out.below HG8.out.bel)).mono ?_); rintro e we ⟨rfl, hb⟩; have HG9 := Lib.hid (HG8.out.below (hb.mono HG8.out.lt)); clear hb))
        go_wp2_with fail
        go_ret
        exact ⟨rfl, HG9.out.bel⟩
  · have HA := Lib.hid (awake_any _ (hT.below hbx))
    clear hbx hsx hT hR
    go_enter Tryd.func6, Tryd.ntmps6
    go_wp2_with fail
    refine HA.out.mono ?_
    rintro e wa ⟨rfl, hb⟩
    have HB1 := Lib.hid (HBX.out.trans (hb.mono HBX.out.size))
    clear hb
    go_wp2_with fail
    go_ret
    exact ⟨rfl, HB1.out⟩

end Go.Proofs.YtocideolihbnaaaDoor
