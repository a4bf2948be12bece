/- Walks of the laws BitsOf, BitsTells and BitsTurns: each returns true; no conditions but that the numbers are of their kinds. -/
import Derived.Test.YtbmiaagkognlpaaList
set_option linter.unusedVariables false
set_option linter.unusedSimpArgs false
namespace Go.Proofs.Ytbmiaagkognlpaa
open Go.RowKit

theorem below_step {w w1 w2 : World} (h : Below w.heap.size w w1) (k : Below w1.heap.size w1 w2) : Below w.heap.size w w2 := h.trans (k.mono h.size)

theorem three_reads (w : World) : RdI (w.alloc (.cells #[.int .i64 3, .int .i64 5, .int .i64 40] 3)) (some ⟨w.heap.size, 0, none⟩) 3 [3, 5, 40] :=
  ⟨rfl, by omega, fun _ => ⟨_, _, rfl, by simp, fun j hj => by
    rw [World.cell?_alloc_at _ _ _ _ rfl]
    match j, hj with
    | 0, _ => rfl
    | 1, _ => rfl
    | 2, _ => rfl⟩⟩

set_option maxHeartbeats 800000 in
theorem awake_any (w : World) : Calls Try.prog 6 #[] w fun e w' => e = .returned (.bool true) ∧ Below w.heap.size w w' := by
  have e40 : ofN [3, 5, 40] = 40 := by decide +kernel
  have E40 := Lib.hid e40
  clear e40
  go_enter Try.func6, Try.ntmps6
  go_wp2_with fail
  refine (of_any _ _ _ [3, 5, 40] _ (three_reads _)).mono ?_
  rintro e w1 ⟨rfl, rfl⟩
  rw [E40.out]
  go_wp2_with fail
  refine (count_any 40 _ (by omega)).mono ?_
  rintro e w2 ⟨rfl, hb2⟩
  have hb2' := below_step (below_step (Below.refl w.heap.size w) ((Below.refl _ _).alloc (Nat.le_refl _) _)) hb2
  have HB2 := Lib.hid hb2'
  clear hb2 hb2'
  rw [show cnt (Nat.testBit 40) 32 = 2 from by decide +kernel]
  go_wp2_with fail
  refine (of_any _ _ _ [3, 5, 40] _ (three_reads _)).mono ?_
  rintro e w3 ⟨rfl, rfl⟩
  rw [E40.out]
  go_wp2_with fail
  refine (place_any 40 _ _ (by omega)).mono ?_
  rintro e w4 ⟨rfl, rfl⟩
  rw [show cnt (Nat.testBit (40 % 2 ^ c32 5)) 32 = 1 from by decide +kernel]
  go_wp2_with fail
  go_ret
  exact ⟨rfl, HB2.out.alloc HB2.out.size _⟩

set_option maxHeartbeats 800000 in
theorem bitsOf_any (A : Option Addr) (n c : Nat) (l : List Int) (w : World) (h : RdI w A n l) :
    Calls Try.prog 3 #[.slice A n c] w fun e w' => e = .returned (.bool true) ∧ Below w.heap.size w w' := by
  have hle := h.le
  have HR := Lib.hid h
  clear h
  by_cases hbig : 100 < n
  · go_enter Try.func3, Try.ntmps3
    go_wp2_with fail
    refine (awake_any _).mono ?_
    rintro e w1 ⟨rfl, hb⟩
    have HB := Lib.hid hb
    clear hb
    go_wp2_with fail
    go_ret
    exact ⟨rfl, HB.out⟩
  · go_enter Try.func3, Try.ntmps3
    go_wp2_with fail
    refine (of_any _ _ _ _ _ HR.out).mono ?_
    rintro e w1 ⟨rfl, rfl⟩
    rw [of_eq]
    go_wp2_with fail
    refine (number_any _ _ _ _ _ HR.out).mono ?_
    rintro e w1 ⟨rfl, rfl⟩
    generalize numG l 32 = g
    go_wp2_with fail
    refine (awake_any _).mono ?_
    rintro e w1 ⟨rfl, hb⟩
    have HB := Lib.hid hb
    clear hb
    go_wp2_with fail
    go_ret
    exact ⟨rfl, HB.out⟩

set_option maxHeartbeats 1600000 in
theorem bitsTells_any (m : Nat) (i : Int) (w : World) (hm : m < 4294967296) :
    Calls Try.prog 4 #[.int .u32 (m : Int), .int .i64 i] w fun e w' => e = .returned (.bool true) ∧ Below w.heap.size w w' := by
  have H1 := Lib.hid (has_eq m i hm)
  have H2 := Lib.hid (less_eq m i hm)
  have H3 := Lib.hid (listN_len m 32)
  go_enter Try.func4, Try.ntmps4
  go_wp2_with fail
  refine (list_any m _ hm).mono ?_
  rintro e w1 ⟨v, rfl, hown, hb⟩
  obtain ⟨A, c, rfl, hrd, hlc, hac⟩ := RdI.owned hown
  have HR := Lib.hid hrd
  have HB := Lib.hid hb
  clear hown hrd hb hlc hac
  go_wp2_with fail
  refine (has_any _ _ _ hm).mono ?_
  rintro e w2 ⟨rfl, rfl⟩
  rw [H1.out]
  go_wp2_with fail
  refine (refHas_any _ _ _ _ _ _ HR.out).mono ?_
  rintro e w2 ⟨rfl, rfl⟩
  generalize decide (i ∈ listN m 32) = q
  go_wp2_with fail
  refine (count_any _ _ hm).mono ?_
  rintro e w2 ⟨rfl, hb2⟩
  rw [← H3.out]
  have HR2 := Lib.hid (HR.out.below hb2)
  have HB2 := Lib.hid (below_step HB.out hb2)
  clear hb2
  go_wp2_with fail
  refine (place_any _ _ _ hm).mono ?_
  rintro e w3 ⟨rfl, rfl⟩
  rw [H2.out]
  go_wp2_with fail
  refine (less_any _ _ _ _ _ _ HR2.out).mono ?_
  rintro e w3 ⟨rfl, rfl⟩
  generalize lessN (listN m 32) i = g
  go_wp2_with fail
  refine (awake_any _).mono ?_
  rintro e w4 ⟨rfl, hb4⟩
  have HB4 := Lib.hid (below_step HB2.out hb4)
  clear hb4
  go_wp2_with fail
  go_ret
  exact ⟨rfl, HB4.out⟩

theorem own_below {w w1 : World} {base : Nat} {e : TypeId} {size n : Nat} {v : Value} {xs : List Value} (h : w.ownsRow base e size v n xs) (hb : Below w.heap.size w w1) : w1.ownsRow base e size v n xs :=
  h.kept (row := none) ⟨hb.os, hb.tape, hb.output, hb.size, fun i hi _ => hb.block i hi⟩ (by cases v.ownBlock <;> simp)

/-- What is kept of some, but for a number. -/
def wo (l : List Int) (i : Int) : List Int := l.filter (· ≠ i)
theorem wo_snoc (l : List Int) (d i : Int) : wo (l ++ [d]) i = if d = i then wo l i else wo l i ++ [d] := by
  unfold wo
  rw [List.filter_append]
  by_cases h : d = i <;> simp [h]
theorem wo_le (l : List Int) (i : Int) : (wo l i).length ≤ l.length := List.length_filter_le _ _

set_option maxHeartbeats 3200000 in
theorem bitsTurns_any (m : Nat) (i : Int) (w : World) (hm : m < 4294967296) :
    Calls Try.prog 5 #[.int .u32 (m : Int), .int .i64 i] w fun e w' => e = .returned (.bool true) ∧ Below w.heap.size w w' := by
  obtain ⟨i0, hi, hz0, hz1, hz2⟩ := info_parts info3
  have H1 := Lib.hid (with_eq m i hm)
  have H2 := Lib.hid (show m &&& (4294967295 - bitN i) = numG (wo (listN m 32) i) 32 from without_eq m i hm)
  have hln : (listN m 32).length ≤ 32 := by rw [listN_len]; exact cnt_le _ _
  go_enter Try.func5, Try.ntmps5
  go_wp2_with fail
  refine (list_any m _ hm).mono ?_
  rintro e w1 ⟨v, rfl, hown, hb⟩
  obtain ⟨A, c, rfl, hrd, hlc, hac⟩ := RdI.owned hown
  generalize listN m 32 = l at *
  have HR := Lib.hid hrd
  have HC := Lib.hid hrd.cell
  have HB := Lib.hid hb
  have HA := Lib.hid hac
  clear hown hrd hb hlc hac
  go_wp2_with fail
  go_loopw [6, 13] (fun v j wr => ∃ k : Nat, k ≤ l.length ∧ j = .int .i64 k ∧ wr.ownsRow w1.heap.size 3 1 v (wo (l.take k) i).length ((wo (l.take k) i).map (Value.int .i64)) ∧ Below w1.heap.size w1 wr) (fun _ j _ => l.length - (intOf j).toNat)
  case atStart => exact ⟨0, by omega, rfl, World.ownsRow_nil _ _ _ _, Below.refl _ _⟩
  case round =>
    obtain ⟨k, hk, rfl, hown, hb⟩ := hrel
    have hsz := hb.size
    have hwl := wo_le (l.take k) i
    rw [List.length_take] at hwl
    have hwl2 : (wo (l.take k) i).length ≤ 32 := by omega
    clear hwl
    have HBW := Lib.hid hb
    clear hb
    by_cases hlt : k < l.length
    · obtain ⟨b, o, hA, hbl, hc⟩ := HC.out (by omega)
      subst hA
      have hcj : wr.cell? ⟨b, o + k, none⟩ = some (.int .i64 (l.getD k 0)) := (HBW.out.cell hbl).trans (hc k hlt)
      have hsn := wo_snoc (l.take k) (l.getD k 0) i
      rw [← take_snoc l k hlt] at hsn
      generalize l.getD k 0 = d at *
      have HS := Lib.hid hsn
      clear hsn hc
      by_cases hd : d = i
      · have hdb : (d != i) = false := by simp [hd]
        have HD := Lib.hid hd
        have HO := Lib.hid hown
        clear hd hown
        go_wp2_with fail
        go_roundw
        case rel => exact ⟨k + 1, by omega, by go_num, by rw [HS.out, if_pos HD.out]; exact HO.out, HBW.out⟩
        case measure => simp [intOf]; omega
      · have hdb : (d != i) = true := by simp [hd]
        have HD := Lib.hid hd
        clear hd
        go_wp2_with (at_builtin; refine wpList_append_own _ rfl _ _ 22 rfl w1.heap.size 3 i0 (.int .i64 0) 1 8 Try.underlying22 hi hz0 hz1 hz2 rfl (by decide) _ _ _ rfl (hown.alloc _) ⟨wr.heap.size, 0, none⟩ 1 1 [.int .i64 d] rfl rfl (cell_one_new _ _ _) (one_cell _) ?c3 ?c4 ?c5 ?_)
        case c3 => unfold maxLen; omega
        case c4 => omega
        case c5 => simp; omega
        intro v' w2 hown1 hgrow _
        have hb1 : Below w1.heap.size w1 w2 := (HBW.out.alloc hsz _).grown hgrow (by simp; omega) (fun k e => (hown.lt k e).1)
        have ho2 : w2.ownsRow w1.heap.size 3 1 v' (wo (l.take (k + 1)) i).length ((wo (l.take (k + 1)) i).map (Value.int .i64)) := by
          rw [HS.out, if_neg HD.out, List.length_append, List.map_append]; exact hown1
        have HO2 := Lib.hid ho2
        have HB1 := Lib.hid hb1
        clear hown1 hgrow ho2 hb1 hown
        go_wp2_with fail
        go_roundw
        case rel => exact ⟨k + 1, by omega, by go_num, HO2.out, HB1.out⟩
        case measure => simp [intOf]; omega
    · have e : wo (l.take k) i = wo l i := by rw [List.take_of_length_le (by omega)]
      rw [e] at hown
      obtain ⟨A2, c2, rfl, hrd2, _, _⟩ := RdI.owned hown
      have HO := Lib.hid hown
      have HR2 := Lib.hid hrd2
      have HRA := Lib.hid (HR.out.below HBW.out)
      clear hown hrd2 e
      go_wp2_with fail
      refine (with_any _ _ _ hm).mono ?_
      rintro e w2 ⟨rfl, rfl⟩
      rw [H1.out]
      have hemp : (wr.alloc (.cells #[] 3)).ownsRow wr.heap.size 3 1 (.slice (some ⟨wr.heap.size, 0, none⟩) 0 0) 0 [] :=
        ⟨rfl, .inr ⟨wr.heap.size, 0, #[], rfl, Nat.le_refl _, heap_alloc_new wr _, Nat.le_refl _, Nat.zero_le _, rfl, rfl⟩⟩
      have hbA : Below wr.heap.size wr (wr.alloc (.cells #[] 3)) := (Below.refl _ _).alloc (Nat.le_refl _) _
      have HBA := Lib.hid hbA
      have hsA := hbA.size
      clear hbA
      cases A with
      | none =>
        obtain rfl : c = 0 := HA.out rfl
        have hl0 : l = [] := by
          rcases Nat.eq_zero_or_pos l.length with h0 | h0
          · exact List.eq_nil_of_length_eq_zero h0
          · obtain ⟨b, o, hA, _⟩ := HC.out h0; exact absurd hA (by simp)
        subst hl0
        go_wp2_with (at_builtin; refine wpList_append_own _ rfl _ _ 22 rfl wr.heap.size 3 i0 (.int .i64 0) 1 8 Try.underlying22 hi hz0 hz1 hz2 rfl (by decide) (.slice (some ⟨wr.heap.size, 0, none⟩) 0 0) 0 [] rfl (hemp.alloc _) ⟨wr.heap.size + 1, 0, none⟩ 1 1 [.int .i64 i] rfl rfl ?d2 (one_cell _) ?d3 ?d4 ?d5 ?_)
        case d2 => have h := cell_one_new (wr.alloc (.cells #[] 3)) (.int .i64 i) 3; simpa using h
        case d3 => unfold maxLen; omega
        case d4 => omega
        case d5 => simp; omega
        intro v2 w3 hown3 hgrow3 _
        have hb3 : Below wr.heap.size wr w3 := (HBA.out.alloc hsA _).grown hgrow3 (by simp; omega) (fun k e => (hemp.lt k e).1)
        obtain ⟨A3, c3, rfl, hrd3, _, _⟩ := RdI.owned (l := [i]) hown3
        have HR3 := Lib.hid (show RdI w3 A3 1 [i] from hrd3)
        have HW3 := Lib.hid (HR2.out.below hb3)
        have HB3 := Lib.hid hb3
        clear hown3 hgrow3 hrd3 hb3 hemp
        go_wp2_with fail
        refine (number_any _ _ _ _ _ HR3.out).mono ?_
        rintro e w4 ⟨rfl, rfl⟩
        generalize numG [i] 32 = g1
        go_wp2_with fail
        refine (without_any _ _ _ hm).mono ?_
        rintro e w4 ⟨rfl, rfl⟩
        rw [H2.out]
        go_wp2_with fail
        refine (number_any _ _ _ _ _ HW3.out).mono ?_
        rintro e w4 ⟨rfl, rfl⟩
        generalize numG (wo [] i) 32 = g2
        go_wp2_with fail
        refine (awake_any _).mono ?_
        rintro e w5 ⟨rfl, hb5⟩
        have HB5 := Lib.hid hb5
        clear hb5
        go_wp2_with fail
        go_ret
        exact ⟨rfl, below_step (below_step (below_step HB.out HBW.out) HB3.out) HB5.out⟩
      | some ad =>
        have hnews : ∀ j u, (l.map (Value.int .i64))[j]? = some u → (wr.alloc (.cells #[] 3)).cell? (ad.add j) = some u := by
          intro j u hj
          rw [List.getElem?_map] at hj
          have hjl : j < l.length := by
            rcases Nat.lt_or_ge j l.length with h | h
            · exact h
            · rw [List.getElem?_eq_none h] at hj; exact absurd hj (by simp)
          obtain ⟨b, o, hA, hbl, hc⟩ := HRA.out.cell (by omega)
          obtain rfl := Option.some.inj hA
          rw [Go.WideShapes.add_plain, World.cell?_alloc_past _ _ _ hbl, hc j hjl]
          rw [List.getElem?_eq_getElem hjl] at hj
          rw [List.getD_eq_getElem?_getD, List.getElem?_eq_getElem hjl]
          exact hj
        have hones : ∀ u ∈ l.map (Value.int .i64), u.oneCell' = true := by
          intro u hu
          obtain ⟨x, _, rfl⟩ := List.mem_map.1 hu
          rfl
        go_wp2_with (at_builtin; refine wpList_append_own _ rfl _ _ 22 rfl wr.heap.size 3 i0 (.int .i64 0) 1 8 Try.underlying22 hi hz0 hz1 hz2 rfl (by decide) _ _ _ rfl hemp ad l.length c (l.map (Value.int .i64)) rfl (by simp) hnews hones ?c3 ?c4 ?c5 ?_)
        case c3 => unfold maxLen; omega
        case c4 => omega
        case c5 => simp
        intro v1 w2 hown1 hgrow1 _
        have hb2 : Below wr.heap.size wr w2 := HBA.out.grown hgrow1 (by simp) (fun k e => (hemp.lt k e).1)
        clear hgrow1 hemp hnews hones
        have hs2 := hb2.size
        have hl2 := hown1.lt
        have HB2 := Lib.hid hb2
        have HL2 := Lib.hid hl2
        clear hb2 hl2
        go_wp2_with (at_builtin; refine wpList_append_own _ rfl _ _ 22 rfl wr.heap.size 3 i0 (.int .i64 0) 1 8 Try.underlying22 hi hz0 hz1 hz2 rfl (by decide) _ l.length (l.map (Value.int .i64)) rfl (hown1.alloc _) ⟨w2.heap.size, 0, none⟩ 1 1 [.int .i64 i] rfl rfl (cell_one_new _ _ _) (one_cell _) ?d3 ?d4 ?d5 ?_)
        case d3 => unfold maxLen; omega
        case d4 => omega
        case d5 => first | (simp; done) | (simp; omega)
        intro v2 w3 hown3 hgrow3 _
        have hb3 : Below wr.heap.size wr w3 := (HB2.out.alloc hs2 _).grown hgrow3 (by simp; omega) (fun k e => (HL2.out k e).1)
        have hnl : (l ++ [i]).length = l.length + 1 := by simp
        have ho3 : w3.ownsRow wr.heap.size 3 1 v2 (l ++ [i]).length ((l ++ [i]).map (Value.int .i64)) := by
          rw [hnl, List.map_append]; exact hown3
        obtain ⟨A3, c3, rfl, hrd3, _, _⟩ := RdI.owned ho3
        rw [hnl] at hrd3
        have HR3 := Lib.hid hrd3
        have HW3 := Lib.hid (HR2.out.below hb3)
        have HB3 := Lib.hid hb3
        clear hown3 hgrow3 ho3 hrd3 hb3 hown1 hnl
        go_wp2_with fail
        refine (number_any _ _ _ _ _ HR3.out).mono ?_
        rintro e w4 ⟨rfl, rfl⟩
        generalize numG (l ++ [i]) 32 = g1
        go_wp2_with fail
        refine (without_any _ _ _ hm).mono ?_
        rintro e w4 ⟨rfl, rfl⟩
        rw [H2.out]
        go_wp2_with fail
        refine (number_any _ _ _ _ _ HW3.out).mono ?_
        rintro e w4 ⟨rfl, rfl⟩
        generalize numG (wo l i) 32 = g2
        go_wp2_with fail
        refine (awake_any _).mono ?_
        rintro e w5 ⟨rfl, hb5⟩
        have HB5 := Lib.hid hb5
        clear hb5
        go_wp2_with fail
        go_ret
        exact ⟨rfl, below_step (below_step (below_step HB.out HBW.out) HB3.out) HB5.out⟩

end Go.Proofs.Ytbmiaagkognlpaa
