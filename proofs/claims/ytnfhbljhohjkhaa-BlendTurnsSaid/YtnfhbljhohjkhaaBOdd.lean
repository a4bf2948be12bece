/- blend.Odd, blend.Subset. -/
import Derived.Test.YtnfhbljhohjkhaaBAwake
set_option linter.unusedVariables false
set_option linter.unusedSimpArgs false
namespace Go.Proofs.Ytnfhbljhohjkhaa
open Go.RowKit Go.Deep

theorem partL_len (X Y : Pairs) (i : Bool) : (partL X Y i).length ≤ X.length := List.length_filter_le _ _
theorem partL_asc (X Y : Pairs) (i : Bool) (h : Asc X) : Asc (partL X Y i) := List.Pairwise.filter _ h
theorem partL_keys (X Y : Pairs) (i : Bool) {P : Bytes × Bytes → Prop} (h : ∀ p ∈ X, P p) : ∀ p ∈ partL X Y i, P p := fun p hp => h p (List.mem_filter.1 hp).1
def oddL (X Y : Pairs) : Pairs := uniL (partL X Y false) (partL Y X false)

theorem sub_len : ∀ (A B : Pairs), Asc A → (∀ p ∈ A, ∃ q ∈ B, q.1 = p.1) → A.length ≤ B.length
  | [], B, _, _ => Nat.zero_le _
  | p :: A, B, hA, h => by
    obtain ⟨q, hq, hk⟩ := h p (List.mem_cons_self ..)
    have hlt : (B.filter fun q => decide (q.1 ≠ p.1)).length < B.length := by
      refine Nat.lt_of_le_of_ne (List.length_filter_le _ _) fun e => ?_
      have := List.length_filter_eq_length_iff.1 e q hq
      simp [hk] at this
    have ih := sub_len A (B.filter fun q => decide (q.1 ≠ p.1)) hA.tail fun r hr => by
      obtain ⟨s, hs, he⟩ := h r (List.mem_cons_of_mem _ hr)
      refine ⟨s, List.mem_filter.2 ⟨hs, decide_eq_true ?_⟩, he⟩
      rw [he]
      exact fun e => cmp_ne (hA.head r hr) e.symm
    rw [List.length_cons]
    omega
theorem part_none {X Y : Pairs} (h : partL X Y false = []) (hX : Asc X) : X.length ≤ Y.length := by
  refine sub_len X Y hX fun p hp => ?_
  have hn : p ∉ partL X Y false := by rw [h]; simp
  have hs : (getM Y p.1).isSome = true := by
    by_cases hs : (getM Y p.1).isSome = true
    · exact hs
    · exfalso
      apply hn
      refine List.mem_filter.2 ⟨hp, ?_⟩
      simpa using hs
  obtain ⟨y, hy⟩ := Option.isSome_iff_exists.1 hs
  exact ⟨(p.1, y), mem_getM Y p.1 y hy, rfl⟩

/-- A tree of a given list, made or old. -/
def ListR (L : Pairs) (m : Nat) (w w' : World) (e : Ending) : Prop := ∃ u T, e = .returned (.pointer u) ∧ Hid (T.even ∧ TIn All w' (.pointer u) T ∧ T.list = L ∧ T.size ≤ m ∧ Below w.heap.size w w')

theorem minusL_any (A B : PT) (v1 v2 : Value) (w : World) (h1 : TIn All w v1 A) (h2 : TIn All w v2 B) (e1 : A.even) (e2 : B.even) (a1 : Asc A.list) (a2 : Asc B.list) (hn : A.size + B.size ≤ 200000) :
    Calls Try.prog 35 #[v1, v2] w fun e w' => ListR (partL A.list B.list false) A.size w w' e :=
  (minus_any B A v1 v2 w h1 h2 e1 e2 a1 a2 hn (by have := B.height_le; omega)).mono fun e w' ⟨u, T, he, hT⟩ =>
    ⟨u, T, he, Lib.hid ⟨hT.out.1, hT.out.2.1, blends_eq hT.out.2.2.1 (partL_minus _ _ a1), hT.out.2.2.2.1, hT.out.2.2.2.2⟩⟩
theorem bothL_any (A B : PT) (v1 v2 : Value) (w : World) (h1 : TIn All w v1 A) (h2 : TIn All w v2 B) (e1 : A.even) (e2 : B.even) (a1 : Asc A.list) (a2 : Asc B.list) (hn : A.size + B.size ≤ 200000) :
    Calls Try.prog 36 #[v1, v2] w fun e w' => ListR (partL A.list B.list true) A.size w w' e :=
  (both_any A B v1 v2 w h1 h2 e1 e2 a1 a2 (by omega)).mono fun e w' ⟨u, T, he, hT⟩ => by
    have hl : T.list = partL A.list B.list true := blends_eq hT.out.2.2.1 (partL_both _ _ a1)
    refine ⟨u, T, he, Lib.hid ⟨hT.out.1, hT.out.2.1, hl, ?_, hT.out.2.2.2.2⟩⟩
    have h1 := partL_len A.list B.list true
    rw [← hl, PT.size_list, PT.size_list] at h1
    exact h1
theorem unionL_any (A B : PT) (v1 v2 : Value) (w : World) (h1 : TIn All w v1 A) (h2 : TIn All w v2 B) (e1 : A.even) (e2 : B.even) (a1 : Asc A.list) (a2 : Asc B.list) (hn : A.size + B.size ≤ 200000) :
    Calls Try.prog 32 #[v1, v2] w fun e w' => ListR (uniL A.list B.list) (A.size + B.size) w w' e :=
  (union_any B A v1 v2 w h1 h2 e1 e2 a1 a2 hn).mono fun e w' ⟨u, T, he, hT⟩ =>
    ⟨u, T, he, Lib.hid ⟨hT.out.1, hT.out.2.1, blends_eq hT.out.2.2.1 (uniL_blends _ _ a1 a2), hT.out.2.2.2.1, hT.out.2.2.2.2⟩⟩

set_option maxRecDepth 100000 in
set_option maxHeartbeats 3200000 in
theorem odd_any (A B : PT) (v1 v2 : Value) (w : World) (h1 : TIn All w v1 A) (h2 : TIn All w v2 B) (e1 : A.even) (e2 : B.even) (a1 : Asc A.list) (a2 : Asc B.list) (hn : A.size + B.size ≤ 200000) :
    Calls Try.prog 37 #[v1, v2] w fun e w' => ListR (oddL A.list B.list) (A.size + B.size) w w' e := by
  obtain ⟨p1, rfl⟩ := h1.ptr
  obtain ⟨p2, rfl⟩ := h2.ptr
  have HM := Lib.hid (minusL_any A B (.pointer p1) (.pointer p2) w h1 h2 e1 e2 a1 a2 hn)
  have HS := Lib.hid (fun W (h : Below w.heap.size w W) => And.intro (h1.below h) (h2.below h))
  have HE := Lib.hid (And.intro e1 (And.intro e2 (And.intro a1 a2)))
  clear h1 h2 e1 e2 a1 a2
  go_enter Try.func37, Try.ntmps37
  go_wp2_with fail
  refine HM.out.mono ?_
  rintro e w1 ⟨u1, T1, rfl, h1⟩
  have HM2 := Lib.hid (minusL_any B A (.pointer p2) (.pointer p1) w1 (HS.out w1 h1.out.2.2.2.2).2 (HS.out w1 h1.out.2.2.2.2).1 HE.out.2.1 HE.out.1 HE.out.2.2.2 HE.out.2.2.1 (by omega))
  go_wp2_with fail
  refine HM2.out.mono ?_
  rintro e w2 ⟨u2, T2, rfl, h2⟩
  have hz1 := h1.out.2.2.2.1
  have hz2 := h2.out.2.2.2.1
  have HU := Lib.hid (unionL_any T1 T2 (.pointer u1) (.pointer u2) w2 (h1.out.2.1.below h2.out.2.2.2.2) h2.out.2.1 h1.out.1 h2.out.1 (by rw [h1.out.2.2.1]; exact partL_asc _ _ _ HE.out.2.2.1) (by rw [h2.out.2.2.1]; exact partL_asc _ _ _ HE.out.2.2.2) (by omega))
  go_wp2_with fail
  refine HU.out.mono ?_
  rintro e w3 ⟨u3, T3, rfl, h3⟩
  have HR : Hid (ListR (oddL A.list B.list) (A.size + B.size) w w3 (.returned (.pointer u3))) :=
    ⟨u3, T3, rfl, Lib.hid ⟨h3.out.1, h3.out.2.1, by rw [h3.out.2.2.1, h1.out.2.2.1, h2.out.2.2.1]; rfl, by have := h3.out.2.2.2.1; omega, (h1.out.2.2.2.2.trans (h2.out.2.2.2.2.mono h1.out.2.2.2.2.size)).trans (h3.out.2.2.2.2.mono (Nat.le_trans h1.out.2.2.2.2.size h2.out.2.2.2.2.size))⟩⟩
  go_wp2_with fail
  go_ret
  exact HR.out

set_option maxRecDepth 100000 in
set_option maxHeartbeats 3200000 in
theorem subset_any (A B : PT) (v1 v2 : Value) (w : World) (h1 : TIn All w v1 A) (h2 : TIn All w v2 B) (e1 : A.even) (e2 : B.even) (a1 : Asc A.list) (a2 : Asc B.list) (hn : A.size + B.size ≤ 200000) (b : Bool) (hb : b = true ↔ partL A.list B.list false = []) :
    Calls Try.prog 38 #[v1, v2] w fun e w' => e = .returned (.bool b) ∧ Below w.heap.size w w' := by
  obtain ⟨p1, rfl⟩ := h1.ptr
  obtain ⟨p2, rfl⟩ := h2.ptr
  have HM := Lib.hid (minusL_any A B (.pointer p1) (.pointer p2) w h1 h2 e1 e2 a1 a2 hn)
  have HT1 := Lib.hid (tsize_any A (.pointer p1) w h1)
  have HT2 := Lib.hid (tsize_any B (.pointer p2) w h2)
  have HB := Lib.hid hb
  have HA := Lib.hid a1
  clear h1 h2 e1 e2 a1 a2 hb
  go_enter Try.func38, Try.ntmps38
  go_wp2_with fail
  refine HT1.out.mono ?_
  rintro e w1 ⟨rfl, rfl⟩
  go_wp2_with fail
  refine HT2.out.mono ?_
  rintro e w1 ⟨rfl, rfl⟩
  by_cases hle : A.size ≤ B.size
  · have hle' : (A.size : Int) ≤ (B.size : Int) := by omega
    go_wp2_with fail
    refine HM.out.mono ?_
    rintro e w3 ⟨u3, T3, rfl, h3⟩
    cases T3 with
    | nil =>
      obtain rfl : u3 = none := by have := h3.out.2.1; cases this; rfl
      have hbt : b = true := HB.out.2 h3.out.2.2.1.symm
      subst hbt
      go_wp2_with fail
      go_ret
      exact ⟨rfl, h3.out.2.2.2.2⟩
    | node l k x r =>
      obtain ⟨pa, rfl⟩ : ∃ pa, u3 = some pa := by obtain ⟨_, _, _, _, _, e, _⟩ := h3.out.2.1; cases e; exact ⟨_, rfl⟩
      have hbt : b = false := by
        cases b with
        | false => rfl
        | true =>
          have := h3.out.2.2.1.trans (HB.out.1 rfl)
          simp [PT.list] at this
      subst hbt
      go_wp2_with fail
      go_ret
      exact ⟨rfl, h3.out.2.2.2.2⟩
  · have hle' : ¬ (A.size : Int) ≤ (B.size : Int) := by omega
    have hbt : b = false := by
      cases b with
      | false => rfl
      | true =>
        have := part_none (HB.out.1 rfl) HA.out
        rw [PT.size_list, PT.size_list] at this
        exact absurd this hle
    subst hbt
    go_wp2_with fail
    go_ret
    exact ⟨rfl, Below.refl _ _⟩

end Go.Proofs.Ytnfhbljhohjkhaa
