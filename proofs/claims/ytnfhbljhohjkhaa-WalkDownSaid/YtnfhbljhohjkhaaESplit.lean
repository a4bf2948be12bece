/- law13: awake; the laws SplitAt and SplitBack. -/
import Derived.Test.YtnfhbljhohjkhaaELess
import Derived.Test.YtnfhbljhohjkhaaEAt
set_option linter.unusedVariables false
set_option linter.unusedSimpArgs false
namespace Go.Proofs.Ytnfhbljhohjkhaa
open Go.RowKit

theorem less_all {M : Pairs} {key : Bytes} (h : ∀ q ∈ M, cmp q.1 key = -1) : lessM M key = M ∧ moreM M key = [] := by
  constructor
  · exact List.filter_eq_self.2 fun q hq => decide_eq_true (h q hq)
  · refine List.filter_eq_nil_iff.2 fun q hq => ?_
    rw [decide_eq_true_eq]
    intro h2
    have := cmp_lt_asymm (h q hq)
    rw [h2] at this; exact absurd this (by decide)
theorem more_all {M : Pairs} {key : Bytes} (h : ∀ q ∈ M, cmp key q.1 = -1) : lessM M key = [] ∧ moreM M key = M := by
  constructor
  · refine List.filter_eq_nil_iff.2 fun q hq => ?_
    rw [decide_eq_true_eq]
    intro h2
    have := cmp_lt_asymm (h q hq)
    rw [h2] at this; exact absurd this (by decide)
  · exact List.filter_eq_self.2 fun q hq => decide_eq_true (h q hq)
theorem less_append (A B : Pairs) (key : Bytes) : lessM (A ++ B) key = lessM A key ++ lessM B key := by simp [lessM]
theorem more_append (A B : Pairs) (key : Bytes) : moreM (A ++ B) key = moreM A key ++ moreM B key := by simp [moreM]
theorem less_cons (k x : Bytes) (B : Pairs) (key : Bytes) : lessM ((k, x) :: B) key = (if cmp k key = -1 then [(k, x)] else []) ++ lessM B key := by
  unfold lessM
  rw [List.filter_cons]
  by_cases h : cmp k key = -1
  · rw [if_pos (by exact decide_eq_true h), if_pos h]; rfl
  · rw [if_neg (by rw [decide_eq_true_eq]; exact h), if_neg h]; rfl
theorem more_cons (k x : Bytes) (B : Pairs) (key : Bytes) : moreM ((k, x) :: B) key = (if cmp key k = -1 then [(k, x)] else []) ++ moreM B key := by
  unfold moreM
  rw [List.filter_cons]
  by_cases h : cmp key k = -1
  · rw [if_pos (by exact decide_eq_true h), if_pos h]; rfl
  · rw [if_neg (by rw [decide_eq_true_eq]; exact h), if_neg h]; rfl
theorem cut_plain : ∀ (T : PT) (key : Bytes), Asc T.list → (T.cutL key).1 = lessM T.list key ∧ (T.cutL key).2 = moreM T.list key
  | .nil, key, _ => ⟨rfl, rfl⟩
  | .node l k x r, key, h => by
    obtain ⟨hl, hr, h1, h2⟩ := node_asc h
    have ihl := cut_plain l key hl
    have ihr := cut_plain r key hr
    simp only [PT.cutL, PT.list]
    rw [less_append, more_append, less_cons, more_cons]
    rcases cmp3 key k with hc | hc | hc
    · have e := (cmp_eq0 key k).1 hc
      subst e
      rw [if_pos hc, (less_all h1).1, (less_all h1).2, (more_all h2).1, (more_all h2).2, if_neg (by rw [cmp_self]; decide)]
      simp
    · have hk : cmp k key = -1 := cmp_gt hc
      have hall : ∀ q ∈ l.list, cmp q.1 key = -1 := fun q hq => cmp_lt_trans _ _ _ (h1 q hq) hk
      rw [if_neg (by omega), if_pos hc, (less_all hall).1, (less_all hall).2, if_pos hk, if_neg (by have := cmp_lt_asymm hk; omega), ← ihr.1, ← ihr.2]
      simp
    · have hall : ∀ q ∈ r.list, cmp key q.1 = -1 := fun q hq => cmp_lt_trans _ _ _ hc (h2 q hq)
      rw [if_neg (by omega), if_neg (by omega), (more_all hall).1, (more_all hall).2, if_pos hc, if_neg (by have := cmp_lt_asymm (show cmp key k = -1 from hc); omega), ← ihl.1, ← ihl.2]
      simp
theorem less_asc {M : Pairs} (key : Bytes) (h : Asc M) : Asc (lessM M key) := List.Pairwise.filter _ h
theorem more_asc {M : Pairs} (key : Bytes) (h : Asc M) : Asc (moreM M key) := List.Pairwise.filter _ h
theorem fldK (W : World) (A A' : Option Addr) (n n' c c' : Nat) : (Instr.field 40 (.agg #[.slice A n c, .slice A' n' c']) 0).run Try.prog W = .ok (.slice A n c) W := by kernel_rfl

set_option maxRecDepth 100000 in
set_option maxHeartbeats 6400000 in
theorem awake13_any (w : World) : Calls Try.prog 16 #[] w fun e w' => e = .returned (.bool true) ∧ Below w.heap.size w w' := by
  have hc97 := fun w => conv_one w 97
  have hc98 := fun w => conv_one w 98
  have hc118 := fun w => conv_one w 118
  have hc99 := fun w => conv_one w 99
  have hp1 := one_in w 97
  have hp2 := one_in (oneWorld w 97) 98
  have hp3 := one_in (oneWorld (oneWorld w 97) 98) 118
  have hp4 := one_in (oneWorld (oneWorld (oneWorld w 97) 98) 118) 99
  have hb1 := one_below w 97
  have hb2 := one_below (oneWorld w 97) 98
  have hb3 := one_below (oneWorld (oneWorld w 97) 98) 118
  have hb4 := one_below (oneWorld (oneWorld (oneWorld w 97) 98) 118) 99
  have hbw : Below w.heap.size w (oneWorld (oneWorld (oneWorld (oneWorld w 97) 98) 118) 99) := ((hb1.trans (hb2.mono hb1.size)).trans (hb3.mono (Nat.le_trans hb1.size hb2.size))).trans (hb4.mono (Nat.le_trans hb1.size (Nat.le_trans hb2.size hb3.size)))
  have g1 := hp1.below hb2
  have g1 := BIn.below g1 hb3
  have g1 := BIn.below g1 hb4
  have g2 := BIn.below (hp2.below hb3) hb4
  have g3 := hp3.below hb4
  have HW : Hid (Below w.heap.size w (oneWorld (oneWorld (oneWorld (oneWorld w 97) 98) 118) 99) ∧
      BIn (fun _ => True) (oneWorld (oneWorld (oneWorld (oneWorld w 97) 98) 118) 99) (.slice (some ⟨w.heap.size, 0, none⟩) 1 1) [97] ∧ BIn (fun _ => True) (oneWorld (oneWorld (oneWorld (oneWorld w 97) 98) 118) 99) (.slice (some ⟨(oneWorld w 97).heap.size, 0, none⟩) 1 1) [98] ∧
      BIn (fun _ => True) (oneWorld (oneWorld (oneWorld (oneWorld w 97) 98) 118) 99) (.slice (some ⟨(oneWorld (oneWorld w 97) 98).heap.size, 0, none⟩) 1 1) [118] ∧ BIn (fun _ => True) (oneWorld (oneWorld (oneWorld (oneWorld w 97) 98) 118) 99) (.slice (some ⟨(oneWorld (oneWorld (oneWorld w 97) 98) 118).heap.size, 0, none⟩) 1 1) [99]) :=
    ⟨hbw, g1.imp (fun _ _ _ => trivial), g2.imp (fun _ _ _ => trivial), g3.imp (fun _ _ _ => trivial), hp4.imp (fun _ _ _ => trivial)⟩
  clear hp1 hp2 hp3 hp4 hb1 hb2 hb3 hb4 hbw g1 g2 g3
  go_enter Try.func16, Try.ntmps16
  go_wp2_with fail
  generalize (oneWorld w 97).heap.size = b2 at *
  generalize (oneWorld (oneWorld w 97) 98).heap.size = b3 at *
  generalize (oneWorld (oneWorld (oneWorld w 97) 98) 118).heap.size = b4 at *
  generalize oneWorld (oneWorld (oneWorld (oneWorld w 97) 98) 118) 99 = V at *
  have hnew := heap_new V (.cells #[.slice (some ⟨w.heap.size, 0, none⟩) 1 1, .slice none 0 0, .slice (some ⟨b2, 0, none⟩) 1 1, .slice (some ⟨b3, 0, none⟩) 1 1, .slice (some ⟨b4, 0, none⟩) 1 1, .slice none 0 0] 40)
  have hb5 := (Below.refl _ V).alloc (Nat.le_refl _) (.cells #[.slice (some ⟨w.heap.size, 0, none⟩) 1 1, .slice none 0 0, .slice (some ⟨b2, 0, none⟩) 1 1, .slice (some ⟨b3, 0, none⟩) 1 1, .slice (some ⟨b4, 0, none⟩) 1 1, .slice none 0 0] 40)
  have hL : LIn (fun _ => True) (V.alloc (.cells #[.slice (some ⟨w.heap.size, 0, none⟩) 1 1, .slice none 0 0, .slice (some ⟨b2, 0, none⟩) 1 1, .slice (some ⟨b3, 0, none⟩) 1 1, .slice (some ⟨b4, 0, none⟩) 1 1, .slice none 0 0] 40)) (some ⟨V.heap.size, 0, none⟩) 3 [([97], []), ([98], [118]), ([99], [])] :=
    ⟨rfl, fun _ => ⟨_, 0, rfl, (Array.getElem?_eq_some_iff.1 hnew).1, trivial, fun j hj => by
      rcases (by omega : j = 0 ∨ j = 1 ∨ j = 2) with rfl | rfl | rfl
      · exact ⟨_, _, cell_of_row _ _ 0 _ _ _ hnew, cell_of_row _ _ 1 _ _ _ hnew, HW.out.2.1.below hb5, BIn.nil _ _⟩
      · exact ⟨_, _, cell_of_row _ _ 2 _ _ _ hnew, cell_of_row _ _ 3 _ _ _ hnew, HW.out.2.2.1.below hb5, HW.out.2.2.2.1.below hb5⟩
      · exact ⟨_, _, cell_of_row _ _ 4 _ _ _ hnew, cell_of_row _ _ 5 _ _ _ hnew, HW.out.2.2.2.2.below hb5, BIn.nil _ _⟩⟩⟩
  have HFR := Lib.hid (from_any 3 _ _ 3 _ hL (by omega) (by omega))
  have HB5 := Lib.hid (HW.out.1.alloc HW.out.1.size (.cells #[.slice (some ⟨w.heap.size, 0, none⟩) 1 1, .slice none 0 0, .slice (some ⟨b2, 0, none⟩) 1 1, .slice (some ⟨b3, 0, none⟩) 1 1, .slice (some ⟨b4, 0, none⟩) 1 1, .slice none 0 0] 40))
  clear hnew hb5 hL
  refine HFR.out.mono ?_
  rintro e w4 ⟨u, T, rfl, t1, t2, t3, t4⟩
  obtain ⟨u, rfl⟩ := t3.ptr
  have hasc : Asc T.list := by rw [t1]; simp [Asc, Lib.compareBytes]
  have hsz : T.size = 3 := PT.size_of t1
  have hcut := cut_plain T [98] hasc
  rw [t1] at hcut
  have hget := get_plain T [98] hasc
  rw [t1] at hget
  have HT : Hid (T.even ∧ TIn (fun _ => True) w4 (.pointer u) T ∧ Below w.heap.size w w4 ∧ T.size = 3 ∧ (T.cutL [98]).1 = [([97], [])] ∧ (T.cutL [98]).2 = [([99], [])] ∧ T.get [98] = some [118]) :=
    ⟨t2, t3.imp (fun _ _ _ => trivial), HB5.out.trans (t4.mono HB5.out.size), hsz, by rw [hcut.1]; decide, by rw [hcut.2]; decide, by rw [hget]; decide⟩
  clear t1 t2 t3 t4 hasc hsz hcut hget HFR
  have HB6 : Hid (Below w.heap.size w (oneWorld w4 98)) := HT.out.2.2.1.trans ((one_below w4 98).mono HT.out.2.2.1.size)
  have hat := At_any (S := fun _ => True) (S' := New w4.heap.size) [98] T (.pointer u) (.slice (some ⟨w4.heap.size, 0, none⟩) 1 1) (oneWorld w4 98) (HT.out.2.1.below (one_below w4 98)) (one_in w4 98) HT.out.1 (by have := HT.out.2.2.2.1; omega)
  rw [HT.out.2.2.2.2.2.2] at hat
  have HAT := Lib.hid hat
  clear hat
  go_wp2_with fail
  refine HAT.out.mono ?_
  rintro e w5 ⟨u1, u2, Av, nv, cv, ok, TL, TR, rfl, H5⟩
  obtain rfl : ok = true := H5.out.1
  have hl1 : TL.list = [([97], [])] := H5.out.2.1.trans HT.out.2.2.2.2.1
  have hl2 : TR.list = [([99], [])] := H5.out.2.2.1.trans HT.out.2.2.2.2.2.1
  have hs1 : TL.size = 1 := PT.size_of hl1
  have hs2 : TR.size = 1 := PT.size_of hl2
  have B5 : Hid (Below w.heap.size w w5) := HB6.out.trans (H5.out.2.2.2.2.2.2.2.2.mono HB6.out.size)
  have h1 := tsize_any TL (.pointer u1) w5 H5.out.2.2.2.2.2.1
  have h2 := tsize_any TR (.pointer u2) w5 H5.out.2.2.2.2.2.2.1
  rw [hs1] at h1
  rw [hs2] at h2
  have H1 := Lib.hid h1
  have H2 := Lib.hid h2
  have hv0 := conv_bytes H5.out.2.2.2.2.2.2.2.1
  have hv : Sem.run Try.prog (convert 23 9 (Value.slice Av nv cv)) w5 = Result.ok (Value.string ⟨#[118]⟩) w5 := hv0
  have ht0 : (ByteArray.mk #[118]).toList = [118] := by rw [ByteArray.toList_eq]
  have ht1 : (ByteArray.mk #[99]).toList = [99] := by rw [ByteArray.toList_eq]
  have hroot : TR.root = ([99], []) := by
    cases TR with
    | nil => simp [PT.size] at hs2
    | node l k x r =>
      have e1 : l.size = 0 := by simp only [PT.size] at hs2; omega
      have e2 : r.size = 0 := by simp only [PT.size] at hs2; omega
      have e3 : l.list = [] := List.eq_nil_of_length_eq_zero (by rw [PT.size_list]; exact e1)
      have e4 : r.list = [] := List.eq_nil_of_length_eq_zero (by rw [PT.size_list]; exact e2)
      rw [PT.list, e3, e4] at hl2
      simp at hl2
      simp [PT.root, hl2]
  have hrt := root_any (.pointer u2) TR w5 H5.out.2.2.2.2.2.2.1
  rw [hroot] at hrt
  have HRT := Lib.hid hrt
  clear h1 h2 hl1 hl2 hs1 hs2 hv0 hroot hrt HAT
  go_wp2_with fail
  refine H1.out.mono ?_
  rintro e w6 ⟨rfl, rfl⟩
  go_wp2_with fail
  refine H2.out.mono ?_
  rintro e w6 ⟨rfl, rfl⟩
  go_wp2_with fail
  refine HRT.out.mono ?_
  rintro e w7 ⟨u7, rfl, hu7, hb7⟩
  obtain ⟨kv, xv, rfl, hk7, hx7⟩ := hu7
  obtain ⟨A7, n7, c7, rfl⟩ := hk7.slice
  obtain ⟨A8, n8, c8, rfl⟩ := hx7.slice
  have hf := fun W => fldK W A7 A8 n7 n8 c7 c8
  have hw0 := conv_bytes hk7
  have hw : Sem.run Try.prog (convert 23 9 (Value.slice A7 n7 c7)) w7 = Result.ok (Value.string ⟨#[99]⟩) w7 := hw0
  have B7 : Hid (Below w.heap.size w w7) := B5.out.trans (hb7.mono B5.out.size)
  clear hw0 hk7 hx7 hb7 hv
  go_wp2_with fail
  go_ret
  exact ⟨rfl, B7.out⟩

end Go.Proofs.Ytnfhbljhohjkhaa
