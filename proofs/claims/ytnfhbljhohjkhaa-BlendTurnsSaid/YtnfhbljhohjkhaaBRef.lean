/- The reference of the blends: Union, Part. -/
import Derived.Test.YtnfhbljhohjkhaaBUnion
set_option linter.unusedVariables false
set_option linter.unusedSimpArgs false
namespace Go.Proofs.Ytnfhbljhohjkhaa
open Go.RowKit Go.Deep

theorem OwnM.snoc {base : Nat} {w1 : World} {v : Value} {M : Pairs} {k x : Bytes} (h : w1.ownsRow base 91 2 v (M.length + 1) (mvals M ++ [bs k, bs x])) : OwnM base w1 v (M ++ [(k, x)]) := by
  unfold OwnM; rw [mvals_append, List.length_append]; exact h

def uniL (X Y : Pairs) : Pairs := Y.foldl (fun M p => insL p.1 p.2 M) X
theorem uniL_snoc (X Y : Pairs) (p : Bytes × Bytes) : uniL X (Y ++ [p]) = insL p.1 p.2 (uniL X Y) := by simp [uniL]
theorem uniL_asc : ∀ (Y X : Pairs), Asc X → Asc (uniL X Y)
  | [], X, h => h
  | p :: Y, X, h => uniL_asc Y _ (ins_asc p.1 p.2 X h)
theorem uniL_len (X : Pairs) : ∀ (Y : Pairs) , (uniL X Y).length ≤ X.length + Y.length := by
  intro Y
  induction Y generalizing X with
  | nil => simp [uniL]
  | cons p Y ih =>
    have h1 := ih (insL p.1 p.2 X)
    have h2 := ins_len p.1 p.2 X
    show (uniL (insL p.1 p.2 X) Y).length ≤ _
    rw [List.length_cons]
    omega
theorem uniL_mem : ∀ (Y X : Pairs) (p : Bytes × Bytes), p ∈ uniL X Y → p ∈ X ∨ p ∈ Y
  | [], X, p, h => .inl h
  | q :: Y, X, p, h => by
    rcases uniL_mem Y (insL q.1 q.2 X) p h with h | h
    · rcases ins_mem q.1 q.2 X p h with h | h
      · exact .inr (by rw [h]; simp)
      · exact .inl h
    · exact .inr (List.mem_cons_of_mem _ h)
theorem uniL_get : ∀ (Y X : Pairs) (key : Bytes), Asc X → Asc Y → getM (uniL X Y) key = fUnion (getM X key) (getM Y key)
  | [], X, key, _, _ => rfl
  | (k, x) :: Y, X, key, hX, hY => by
    show getM (uniL (insL k x X) Y) key = _
    rw [uniL_get Y _ key (ins_asc k x X hX) hY.tail, getM_ins k x X key hX, getM]
    by_cases hk : k = key
    · subst hk
      rw [if_pos rfl, if_pos rfl, getM_none' Y k fun p hp e => cmp_ne (hY.head p hp) e.symm]
      rfl
    · rw [if_neg hk, if_neg hk]
theorem uniL_blends (X Y : Pairs) (hX : Asc X) (hY : Asc Y) : Blends fUnion X Y (uniL X Y) := ⟨uniL_asc Y X hX, fun key => uniL_get Y X key hX hY⟩

def partL (X Y : Pairs) (i : Bool) : Pairs := X.filter fun p => (getM Y p.1).isSome == i
theorem partL_minus (X Y : Pairs) (hX : Asc X) : Blends fMinus X Y (partL X Y false) := ⟨List.Pairwise.filter _ hX, fun key => by
  unfold partL
  rw [getM_filter (fun a => (getM Y a).isSome == false) X key]
  unfold fMinus
  cases getM Y key <;> simp⟩
theorem partL_both (X Y : Pairs) (hX : Asc X) : Blends fBoth Y X (partL X Y true) := ⟨List.Pairwise.filter _ hX, fun key => by
  unfold partL
  rw [getM_filter (fun a => (getM Y a).isSome == true) X key]
  unfold fBoth
  cases getM Y key <;> simp⟩

theorem mtake_snoc (L : Pairs) (j : Nat) (h : j < L.length) : L.take (j + 1) = L.take j ++ [L.getD j ([], [])] := by
  rw [List.take_succ_eq_append_getElem h, List.getD_eq_getElem?_getD, List.getElem?_eq_getElem h]
  rfl
theorem mrun_append_none (c : Nat) (ty : TypeId) (w : World) : (Builtin.append_ #[27, 27] ty #[.slice none 0 0, .slice none 0 c]).run Try.prog w = .ok (.slice none 0 0) w := by
  obtain ⟨i0, hi, hz0, hz1, hz2⟩ := info_parts info73b
  simp [Builtin.append_, run_underlying Try.underlying27, sizeOf, typeInfo, hi, Builtin.lenOf, Builtin.firstCells]

/-- The cells of a map. -/
theorem MIn.cells {S : Nat → Prop} {w : World} {b o n : Nat} {M : Pairs} (h : MIn S w (some ⟨b, o, none⟩) n M) : ∀ j u, (mvals M)[j]? = some u → w.cell? ((⟨b, o, none⟩ : Addr).add j) = some u := by
  intro j u hj
  have hjl : j < n * 2 := by
    have := (List.getElem?_eq_some_iff.1 hj).1
    rw [mvals_len, h.len] at this
    exact this
  obtain ⟨b', o', e, _, _, hc⟩ := h.cell (by omega)
  cases e
  obtain ⟨c0, c1⟩ := hc (j / 2) (by omega)
  obtain ⟨e1, e2⟩ := mvals_get M (j / 2) (by rw [h.len]; omega)
  rw [addP]
  rcases Nat.mod_two_eq_zero_or_one j with hm | hm
  · have ej : j / 2 * 2 = j := by omega
    rw [ej] at e1 c0
    rw [e1] at hj
    cases hj
    exact c0
  · have ej : j / 2 * 2 + 1 = j := by omega
    rw [Nat.add_assoc, ej] at c1
    rw [ej] at e2
    rw [e2] at hj
    cases hj
    exact c1
theorem mvals_one : ∀ (M : Pairs), ∀ u ∈ mvals M, u.oneCell' = true
  | [], u, h => by cases h
  | (k, x) :: M, u, h => by
    rcases List.mem_cons.1 h with rfl | h
    · rfl
    · rcases List.mem_cons.1 h with rfl | h
      · rfl
      · exact mvals_one M u h

/-- A map put behind nothing. -/
theorem step_mrow {S : Nat → Prop} {w : World} {ops : Array Oper} {rest : List Oper} {o : Oper} {a : Act} {Q : Exit → Act → World → Prop} (hgd : o.guard = none) (s x : Operand)
    (ho : o.op = .call { callee := .builtin .append, args := #[s, x], argTypes := #[27, 27] }) (hs : a.eval s = .slice none 0 0)
    (B : Option Addr) (m c : Nat) (M : Pairs) (hx : a.eval x = .slice B m c) (hM : MIn S w B m M) (hn : m ≤ 100000)
    (h : ∀ v' w', OwnM w.heap.size w' v' M → Below w.heap.size w w' → wpList Try.prog ops Q rest (a.put o.dst v') w') :
    wpList Try.prog ops Q (o :: rest) a w := by
  obtain ⟨i0, hi, hz0, hz1, hz2⟩ := info_parts info73b
  cases B with
  | none =>
    have hm0 : m = 0 := by
      rcases Nat.eq_zero_or_pos m with h | h
      · exact h
      · obtain ⟨b, o, e, _⟩ := hM.cell h; cases e
    have hM0 : M = [] := List.eq_nil_of_length_eq_zero (hM.len.trans hm0)
    subst hm0 hM0
    refine wpList_plain hgd fun K hK => ?_
    unfold Oper.wp execOp
    simp only [ho, resolve, invoke, builtin, Sem.run_bind, Sem.run_pure, Result.andThen_ok, List.map_toArray, List.map_cons, List.map_nil, hs, hx, mrun_append_none]
    exact hK _ _ (h _ w (World.ownsRow_nil _ _ _ _) (Below.refl _ _))
  | some ad =>
    have hsp : 0 < m → ad.spot = none := fun h0 => by obtain ⟨b, o, e, _⟩ := hM.cell h0; cases e; rfl
    have hcells : ∀ j u, (mvals M)[j]? = some u → w.cell? (ad.add j) = some u := by
      intro j u hj
      have h0 : 0 < m := by
        have := (List.getElem?_eq_some_iff.1 hj).1
        rw [mvals_len, hM.len] at this
        omega
      obtain ⟨b, o, e, _⟩ := hM.cell h0
      cases e
      exact hM.cells j u hj
    refine wpList_append_own w hgd s x 27 ho w.heap.size 91 i0 (.agg #[.string ⟨#[]⟩, .string ⟨#[]⟩]) 2 32 Try.underlying27 hi hz0 hz1 hz2 rfl (by decide) (.slice none 0 0) 0 [] hs (World.ownsRow_nil _ _ _ _) ad m c (mvals M) hx (by rw [mvals_len, hM.len]) hcells (mvals_one M) (by unfold maxLen; omega) (by omega) (Nat.le_refl _) ?_
    intro v' w' h2 h3 _
    refine h v' w' ?_ ((Below.refl _ w).grown h3 (Nat.le_refl _) (fun k e => by cases e))
    unfold OwnM
    rw [hM.len]
    simpa using h2

set_option maxRecDepth 100000 in
set_option maxHeartbeats 3200000 in
theorem runion_any {S S' : Nat → Prop} (X Y : Pairs) (A A' : Option Addr) (n n' c c' : Nat) (w : World) (hX : MIn S w A n X) (hY : MIn S' w A' n' Y) (hn : n + n' ≤ 100000) (ha : Asc X) (hk : ∀ p ∈ X, p.1.length ≤ 100000) (hk' : ∀ p ∈ Y, p.1.length ≤ 100000) :
    Calls Try.prog 33 #[.slice A n c, .slice A' n' c'] w fun e w' => GotMap w w' e (uniL X Y) := by
  have HX := Lib.hid hX
  have HY := Lib.hid hY
  have HKX := Lib.hid hk
  have HKY := Lib.hid hk'
  have HA := Lib.hid ha
  clear hX hY hk hk' ha
  go_enter Try.func33, Try.ntmps33
  go_wp2_with (at_builtin; refine step_mrow rfl _ _ rfl rfl A n c X rfl HX.out (by omega) ?_)
  intro v1 w1 hown hb1
  obtain ⟨A1, c1, rfl, hle1, hM1⟩ := hown.reads
  have H1 : Hid (X.length ≤ c1 ∧ MIn (New w.heap.size) w1 A1 X.length X ∧ Below w.heap.size w w1) := ⟨hle1, hM1, hb1⟩
  clear hown hb1 hle1 hM1
  go_wp2_with fail
  go_loopw [5, 13] (fun u v wr => ∃ (j m : Nat) (B : Option Addr) (d : Nat), u = .slice B m d ∧ v = .int .i64 (j : Int) ∧ j ≤ n' ∧ Hid (m = (uniL X (Y.take j)).length ∧ m ≤ d ∧ MIn (New w.heap.size) wr B m (uniL X (Y.take j)) ∧ Below w.heap.size w wr)) (fun _ v _ => n' - (intOf v).toNat)
  case atStart => exact ⟨0, X.length, A1, c1, rfl, rfl, by omega, Lib.hid ⟨rfl, H1.out⟩⟩
  case round =>
    obtain ⟨j, m, B, d, rfl, rfl, hj, hI⟩ := hrel
    by_cases hlt : j < n'
    · obtain ⟨b, o, rfl, hbl, hSb, hc⟩ := (HY.out.below hI.out.2.2.2).cell (by omega)
      obtain ⟨c0, c1'⟩ := hc j hlt
      have hjl : j < Y.length := by rw [HY.out.len]; exact hlt
      have HT := Lib.hid (mtake_snoc Y j hjl)
      obtain ⟨sk, hsk⟩ : ∃ sk, strO (Y.getD j ([], [])).1 = sk := ⟨_, rfl⟩
      obtain ⟨sx, hsx⟩ : ∃ sx, strO (Y.getD j ([], [])).2 = sx := ⟨_, rfl⟩
      have HSK := Lib.hid hsk
      have HSX := Lib.hid hsx
      simp only [bs, hsk, hsx] at c0 c1'
      have al : (0 : Int) ≤ (j : Int) := by omega
      have al3 : (j : Int) < (n' : Int) := by omega
      have hbx := (Below.refl _ wr).alloc (Nat.le_refl _) (.cells #[.string sk, .string sx] 91)
      have hml : m ≤ 1000000 := by
        have h1 := hI.out.1
        have h2 := uniL_len X (Y.take j)
        have h3 := HX.out.len
        rw [List.length_take] at h2
        omega
      have HP := Lib.hid (mput_any' (uniL X (Y.take j)) B m d sk sx _ (hI.out.2.2.1.below hbx) hml (fun p hp => by
        rcases uniL_mem _ _ p hp with h | h
        · exact HKX.out p h
        · exact HKY.out p (List.mem_of_mem_take h)))
      have HB : Hid (Below w.heap.size w (wr.alloc (.cells #[.string sk, .string sx] 91))) := hI.out.2.2.2.alloc hI.out.2.2.2.size _
      have HPL : Hid (putM (uniL X (Y.take j)) (strL sk) (strL sx) = uniL X (Y.take (j + 1))) := by
        rw [HT.out, uniL_snoc, putM_ins _ _ _ (uniL_asc _ _ HA.out), ← HSK.out, ← HSX.out, strL_strO, strL_strO]; exact rfl
      clear hc hbx hml hjl hsk hsx
      go_wp2_with fail
      refine HP.out.mono ?_
      rintro e w2 hgot
      rw [HPL.out] at hgot
      obtain ⟨A2, c2, rfl, g1, g2, g3⟩ := hgot
      have HN : Hid ((uniL X (Y.take (j + 1))).length ≤ c2 ∧ MIn (New w.heap.size) w2 A2 (uniL X (Y.take (j + 1))).length (uniL X (Y.take (j + 1))) ∧ Below w.heap.size w w2) :=
        ⟨g1, g2.imp fun b _ hb => Nat.le_trans HB.out.size hb, HB.out.trans (g3.mono HB.out.size)⟩
      clear g1 g2 g3 c0 c1'
      go_wp2_with fail
      go_roundw
      case rel => exact ⟨j + 1, _, A2, c2, rfl, by go_num, by omega, Lib.hid ⟨rfl, HN.out⟩⟩
      case measure => simp [intOf]; omega
    · obtain rfl : j = n' := by omega
      have HE : Hid (Y.take j = Y) := List.take_of_length_le (by rw [HY.out.len]; exact Nat.le_refl _)
      have HF : Hid (GotMap w wr (.returned (.slice B m d)) (uniL X Y)) := by
        have h1 := hI.out
        rw [HE.out] at h1
        obtain ⟨e, h2, h3, h4⟩ := h1
        subst e
        exact ⟨B, d, rfl, h2, h3, h4⟩
      go_wp2_with fail
      go_ret
      exact HF.out

set_option maxRecDepth 100000 in
set_option maxHeartbeats 3200000 in
theorem rpart_any {S S' : Nat → Prop} (X Y : Pairs) (A A' : Option Addr) (n n' c c' : Nat) (i : Bool) (w : World) (hX : MIn S w A n X) (hY : MIn S' w A' n' Y) (hn : n ≤ 100000) (hn' : n' ≤ 100000) :
    Calls Try.prog 34 #[.slice A n c, .slice A' n' c', .bool i] w fun e w' => GotMap w w' e (partL X Y i) := by
  obtain ⟨i0, hi, hz0, hz1, hz2⟩ := info_parts info73b
  have HX := Lib.hid hX
  have HY := Lib.hid hY
  clear hX hY
  go_enter Try.func34, Try.ntmps34
  go_wp2_with fail
  go_loopw [7, 14] (fun u v wr => ∃ (j m : Nat) (B : Option Addr) (d : Nat), u = .slice B m d ∧ v = .int .i64 (j : Int) ∧ j ≤ n ∧ m ≤ j ∧ Hid (m = (partL (X.take j) Y i).length ∧ OwnM w.heap.size wr (.slice B m d) (partL (X.take j) Y i) ∧ Below w.heap.size w wr)) (fun _ v _ => n - (intOf v).toNat)
  case atStart => exact ⟨0, 0, none, 0, rfl, rfl, by omega, Nat.le_refl _, Lib.hid ⟨rfl, World.ownsRow_nil _ _ _ _, Below.refl _ _⟩⟩
  case round =>
    obtain ⟨j, m, B, d, rfl, rfl, hj, hmj, hI⟩ := hrel
    by_cases hlt : j < n
    · obtain ⟨b, o, rfl, hbl, hSb, hc⟩ := (HX.out.below hI.out.2.2).cell (by omega)
      obtain ⟨c0, c1⟩ := hc j hlt
      have hjl : j < X.length := by rw [HX.out.len]; exact hlt
      have HT : Hid (partL (X.take (j + 1)) Y i = partL (X.take j) Y i ++ (if ((getM Y (X.getD j ([], [])).1).isSome == i) = true then [X.getD j ([], [])] else [])) := by
        unfold partL
        rw [mtake_snoc X j hjl, List.filter_append, List.filter_cons, List.filter_nil]
        exact rfl
      obtain ⟨sk, hsk⟩ : ∃ sk, strO (X.getD j ([], [])).1 = sk := ⟨_, rfl⟩
      obtain ⟨sx, hsx⟩ : ∃ sx, strO (X.getD j ([], [])).2 = sx := ⟨_, rfl⟩
      have HSK := Lib.hid hsk
      have HSX := Lib.hid hsx
      simp only [bs, hsk, hsx] at c0 c1
      have al : (0 : Int) ≤ (j : Int) := by omega
      have al3 : (j : Int) < (n : Int) := by omega
      have hbx := (Below.refl _ wr).alloc (Nat.le_refl _) (.cells #[.string sk, .string sx] 91)
      have hbox : (wr.alloc (.cells #[.string sk, .string sx] 91)).heap[wr.heap.size]? = some (.cells #[.string sk, .string sx] 91 (0, 0)) := heap_new wr _
      have hg0 := mget_any Y A' n' c' sk (wr.alloc (.cells #[.string sk, .string sx] 91)) (HY.out.below (hI.out.2.2.alloc hI.out.2.2.size _)) (by omega)
      have hkk : strL sk = (X.getD j ([], [])).1 := by rw [← hsk, strL_strO]
      rw [hkk] at hg0
      have HG := Lib.hid hg0
      have HB : Hid (Below w.heap.size w (wr.alloc (.cells #[.string sk, .string sx] 91)) ∧ Below wr.heap.size wr (wr.alloc (.cells #[.string sk, .string sx] 91))) := ⟨hI.out.2.2.alloc hI.out.2.2.size _, hbx⟩
      have HBX : Hid (∀ W, Below (wr.alloc (.cells #[.string sk, .string sx] 91)).heap.size (wr.alloc (.cells #[.string sk, .string sx] 91)) W → W.cell? ⟨wr.heap.size, 0, none⟩ = some (.string sk) ∧ W.cell? ⟨wr.heap.size, 1, none⟩ = some (.string sx)) := fun W h => by
        have h2 := (h.block wr.heap.size (by simp)).trans hbox
        exact ⟨cell_of_row W wr.heap.size 0 _ _ _ h2, cell_of_row W wr.heap.size 1 _ _ _ h2⟩
      have HOW : Hid (OwnM w.heap.size (wr.alloc (.cells #[.string sk, .string sx] 91)) (.slice B m d) (partL (X.take j) Y i)) := hI.out.2.1.below hbx
      obtain ⟨g, hg⟩ : ∃ g, getM Y (X.getD j ([], [])).1 = g := ⟨_, rfl⟩
      rw [hg] at HG HT
      have HRW : Hid (∀ W, OwnM w.heap.size W (.slice B m d) (partL (X.take j) Y i) → W.ownsRow w.heap.size 91 2 (.slice B m d) m (mvals (partL (X.take j) Y i))) := fun W h => by
        have := hI.out.1
        rw [this] at h ⊢
        exact h
      clear hc hbx hbox hjl hsk hsx hg0 hkk hg
      cases g with
      | none =>
        simp only [gotM] at HG
        cases i with
        | false =>
          have HPL : Hid (partL (X.take (j + 1)) Y false = partL (X.take j) Y false ++ [(strL sk, strL sx)]) := by
            rw [HT.out, ← HSK.out, ← HSX.out, strL_strO, strL_strO]; exact rfl
          go_wp2_with fail
          refine HG.out.mono ?_
          rintro e w2 ⟨rfl, hb2⟩
          obtain ⟨p0, p1⟩ := HBX.out w2 hb2
          have H2 : Hid (Below w.heap.size w w2 ∧ OwnM w.heap.size w2 (.slice B m d) (partL (X.take j) Y false)) := ⟨HB.out.1.trans (hb2.mono HB.out.1.size), HOW.out.below hb2⟩
          clear hb2 c0 c1
          go_wp2_with (at_builtin; refine wpList_append_own _ rfl _ _ 27 rfl w.heap.size 91 i0 (.agg #[.string ⟨#[]⟩, .string ⟨#[]⟩]) 2 32 Try.underlying27 hi hz0 hz1 hz2 rfl (by decide) _ m _ rfl ((HRW.out w2 H2.out.2).alloc _) ⟨w2.heap.size, 0, none⟩ 1 1 [.string sk, .string sx] ?c1 rfl ?c2 (two_cells _ _) ?c3 ?c4 ?c5 ?_)
          case c1 => simp [Act.eval]
          case c2 =>
            have := World.news_of_block (heap_new w2 (.cells #[.string sk, .string sx] 91))
            simpa using this
          case c3 => unfold maxLen; omega
          case c4 => omega
          case c5 => have := H2.out.1.size; simp; omega
          intro v' w3 hown1 hgrow _
          obtain ⟨A3, c3, rfl⟩ := own_slice hown1
          have HN : Hid (m + 1 = (partL (X.take (j + 1)) Y false).length ∧ OwnM w.heap.size w3 (.slice A3 (m + 1) c3) (partL (X.take (j + 1)) Y false) ∧ Below w.heap.size w w3) := by
            have hml := hI.out.1
            refine ⟨?_, ?_, (H2.out.1.alloc H2.out.1.size _).grown hgrow (by have := H2.out.1.size; simp; omega) (fun k e => ((HRW.out w2 H2.out.2).lt k e).1)⟩
            · rw [HPL.out, List.length_append, ← hml]; rfl
            · rw [HPL.out]
              refine OwnM.snoc ?_
              rw [← hml]
              have := hown1
              rw [bs, bs, strO_strL, strO_strL]
              exact this
          clear hown1 hgrow p0 p1
          go_wp2_with fail
          go_roundw
          case rel => exact ⟨j + 1, m + 1, A3, c3, rfl, by go_num, by omega, by omega, HN⟩
          case measure => simp [intOf]; omega
        | true =>
          have HPL : Hid (partL (X.take (j + 1)) Y true = partL (X.take j) Y true) := by
            rw [HT.out]; exact List.append_nil _
          go_wp2_with fail
          refine HG.out.mono ?_
          rintro e w2 ⟨rfl, hb2⟩
          have H2 : Hid (m = (partL (X.take (j + 1)) Y true).length ∧ OwnM w.heap.size w2 (.slice B m d) (partL (X.take (j + 1)) Y true) ∧ Below w.heap.size w w2) := by
            rw [HPL.out]; exact Lib.hid ⟨hI.out.1, HOW.out.below hb2, HB.out.1.trans (hb2.mono HB.out.1.size)⟩
          clear hb2 c0 c1
          go_wp2_with fail
          go_roundw
          case rel => exact ⟨j + 1, m, B, d, rfl, by go_num, by omega, by omega, H2⟩
          case measure => simp [intOf]; omega
      | some y =>
        simp only [gotM] at HG
        cases i with
        | false =>
          have HPL : Hid (partL (X.take (j + 1)) Y false = partL (X.take j) Y false) := by
            rw [HT.out]; exact List.append_nil _
          go_wp2_with fail
          refine HG.out.mono ?_
          rintro e w2 ⟨rfl, hb2⟩
          have H2 : Hid (m = (partL (X.take (j + 1)) Y false).length ∧ OwnM w.heap.size w2 (.slice B m d) (partL (X.take (j + 1)) Y false) ∧ Below w.heap.size w w2) := by
            rw [HPL.out]; exact Lib.hid ⟨hI.out.1, HOW.out.below hb2, HB.out.1.trans (hb2.mono HB.out.1.size)⟩
          clear hb2 c0 c1
          go_wp2_with fail
          go_roundw
          case rel => exact ⟨j + 1, m, B, d, rfl, by go_num, by omega, by omega, H2⟩
          case measure => simp [intOf]; omega
        | true =>
          have HPL : Hid (partL (X.take (j + 1)) Y true = partL (X.take j) Y true ++ [(strL sk, strL sx)]) := by
            rw [HT.out, ← HSK.out, ← HSX.out, strL_strO, strL_strO]; exact rfl
          go_wp2_with fail
          refine HG.out.mono ?_
          rintro e w2 ⟨rfl, hb2⟩
          obtain ⟨p0, p1⟩ := HBX.out w2 hb2
          have H2 : Hid (Below w.heap.size w w2 ∧ OwnM w.heap.size w2 (.slice B m d) (partL (X.take j) Y true)) := ⟨HB.out.1.trans (hb2.mono HB.out.1.size), HOW.out.below hb2⟩
          clear hb2 c0 c1
          go_wp2_with (at_builtin; refine wpList_append_own _ rfl _ _ 27 rfl w.heap.size 91 i0 (.agg #[.string ⟨#[]⟩, .string ⟨#[]⟩]) 2 32 Try.underlying27 hi hz0 hz1 hz2 rfl (by decide) _ m _ rfl ((HRW.out w2 H2.out.2).alloc _) ⟨w2.heap.size, 0, none⟩ 1 1 [.string sk, .string sx] ?c1 rfl ?c2 (two_cells _ _) ?c3 ?c4 ?c5 ?_)
          case c1 => simp [Act.eval]
          case c2 =>
            have := World.news_of_block (heap_new w2 (.cells #[.string sk, .string sx] 91))
            simpa using this
          case c3 => unfold maxLen; omega
          case c4 => omega
          case c5 => have := H2.out.1.size; simp; omega
          intro v' w3 hown1 hgrow _
          obtain ⟨A3, c3, rfl⟩ := own_slice hown1
          have HN : Hid (m + 1 = (partL (X.take (j + 1)) Y true).length ∧ OwnM w.heap.size w3 (.slice A3 (m + 1) c3) (partL (X.take (j + 1)) Y true) ∧ Below w.heap.size w w3) := by
            have hml := hI.out.1
            refine ⟨?_, ?_, (H2.out.1.alloc H2.out.1.size _).grown hgrow (by have := H2.out.1.size; simp; omega) (fun k e => ((HRW.out w2 H2.out.2).lt k e).1)⟩
            · rw [HPL.out, List.length_append, ← hml]; rfl
            · rw [HPL.out]
              refine OwnM.snoc ?_
              rw [← hml]
              have := hown1
              rw [bs, bs, strO_strL, strO_strL]
              exact this
          clear hown1 hgrow p0 p1
          go_wp2_with fail
          go_roundw
          case rel => exact ⟨j + 1, m + 1, A3, c3, rfl, by go_num, by omega, by omega, HN⟩
          case measure => simp [intOf]; omega
    · obtain rfl : j = n := by omega
      have HE : Hid (X.take j = X) := List.take_of_length_le (by rw [HX.out.len]; exact Nat.le_refl _)
      have HF : Hid (GotMap w wr (.returned (.slice B m d)) (partL X Y i)) := by
        have h1 := hI.out
        rw [HE.out] at h1
        obtain ⟨e, h2, h3⟩ := h1
        rw [e] at h2
        obtain ⟨A2, c2, e2, h4, h5⟩ := h2.reads
        injection e2 with e3 e4 e5
        subst e3 e5
        exact ⟨B, d, by rw [e], h4, h5, h3⟩
      go_wp2_with fail
      go_ret
      exact HF.out

end Go.Proofs.Ytnfhbljhohjkhaa
