/- The law PairParts. -/
import Derived.Test.YtocideolihbnaaaLComes
set_option linter.unusedVariables false
set_option linter.unusedSimpArgs false
namespace Go.Proofs.Ytocideolihbnaaa
open Go.RowKit Go.Deep

theorem asc_foldl (L M : Pairs) : L.foldl (fun M p => insL p.1 p.2 M) M = L.foldl (fun M p => insL p.1 p.2 M) M := rfl
/-- What is put ahead may come to what it comes to first. -/
theorem come_parts (L M : Pairs) : comeL (comeL L ++ M) = comeL (L ++ M) := by
  have h : ∀ A B : Pairs, comeL (A ++ B) = B.foldl (fun M p => insL p.1 p.2 M) (comeL A) := fun A B => by
    unfold comeL; rw [List.foldl_append]
  rw [h, h, come_self _ (comeL_asc L)]

/-- The cells that a list of pairs lies in. -/
theorem LIn.cells {S : Nat → Prop} {w : World} {A : Option Addr} {n : Nat} {L : Pairs} (h : LIn S w A n L) :
    ∃ vs : List Value, PsOf S w vs L ∧ (∀ v ∈ vs, v.oneCell' = true) ∧ (A = none → n = 0) ∧ ∀ a, A = some a → ∀ j u, vs[j]? = some u → w.cell? (a.add j) = some u := by
  rcases Nat.eq_zero_or_pos n with h0 | hn
  · have hl := h.len
    have : L = [] := List.eq_nil_of_length_eq_zero (hl.trans h0)
    subst this
    exact ⟨[], ⟨rfl, fun j hj => by simp at hj⟩, (fun v hv => by cases hv), (fun _ => h0), (fun a _ j u hj => by simp at hj)⟩
  · obtain ⟨b, o, rfl, hbl, hS, hc⟩ := h.cell hn
    have each : ∀ j, j < n → ∃ q : Value × Value, w.cell? ⟨b, o + j * 2, none⟩ = some q.1 ∧ w.cell? ⟨b, o + j * 2 + 1, none⟩ = some q.2 ∧ BIn S w q.1 (L.getD j ([], [])).1 ∧ BIn S w q.2 (L.getD j ([], [])).2 := fun j hj => by
      obtain ⟨kv, xv, h1, h2, h3, h4⟩ := hc j hj
      exact ⟨(kv, xv), h1, h2, h3, h4⟩
    have pick : ∃ q : Nat → Value × Value, ∀ j, j < n → w.cell? ⟨b, o + j * 2, none⟩ = some (q j).1 ∧ w.cell? ⟨b, o + j * 2 + 1, none⟩ = some (q j).2 ∧ BIn S w (q j).1 (L.getD j ([], [])).1 ∧ BIn S w (q j).2 (L.getD j ([], [])).2 :=
      ⟨fun j => if hj : j < n then (each j hj).choose else (.slice none 0 0, .slice none 0 0), fun j hj => by
        simp only [dif_pos hj]; exact (each j hj).choose_spec⟩
    obtain ⟨q, hq⟩ := pick
    have hg : ∀ i, i < n * 2 → ((List.range (n * 2)).map fun i => if i % 2 = 0 then (q (i / 2)).1 else (q (i / 2)).2)[i]? = some (if i % 2 = 0 then (q (i / 2)).1 else (q (i / 2)).2) := fun i hi => by
      rw [List.getElem?_map, List.getElem?_eq_getElem (by simpa using hi)]; simp
    refine ⟨(List.range (n * 2)).map fun i => if i % 2 = 0 then (q (i / 2)).1 else (q (i / 2)).2, ⟨by simp [h.len], fun j hj => ?_⟩, fun v hv => ?_, (fun e => by cases e), fun a e j u hj => ?_⟩
    · rw [h.len] at hj
      obtain ⟨_, _, h3, h4⟩ := hq j hj
      refine ⟨(q j).1, (q j).2, ?_, ?_, h3, h4⟩
      · rw [hg _ (by omega), if_pos (by omega), show j * 2 / 2 = j by omega]
      · rw [hg _ (by omega), if_neg (by omega), show (j * 2 + 1) / 2 = j by omega]
    · obtain ⟨i, hi, rfl⟩ := List.mem_map.1 hv
      have hi2 : i < n * 2 := by simpa using hi
      obtain ⟨_, _, h3, h4⟩ := hq (i / 2) (by omega)
      split
      · obtain ⟨_, _, _, e⟩ := h3.slice; rw [e]; rfl
      · obtain ⟨_, _, _, e⟩ := h4.slice; rw [e]; rfl
    · injection e with e
      subst e
      have hjl : j < n * 2 := by
        have := (List.getElem?_eq_some_iff.1 hj).1
        simpa using this
      rw [hg j hjl] at hj
      injection hj with hj
      subst hj
      rw [addP]
      obtain ⟨h1, h2, _, _⟩ := hq (j / 2) (by omega)
      split
      · rw [show o + j = o + j / 2 * 2 by omega]; exact h1
      · rw [show o + j = o + j / 2 * 2 + 1 by omega]; exact h2
/-- Appending nothing. -/
theorem run_append_none {base n c : Nat} {v : Value} {xs : List Value} {w : World} (ty : TypeId) (h : w.ownsRow base 34 2 v n xs) :
    (Builtin.append_ #[22, 22] ty #[v, .slice none 0 c]).run Try.prog w = .ok v w := by
  obtain ⟨i0, hi, hz0, hz1, hz2⟩ := info_parts info39b
  rcases h.2 with ⟨rfl, hn⟩ | ⟨g, cap, cur, rfl, hb, hg, hc, hm, hs, ht⟩
  · simp [Builtin.append_, run_underlying Try.underlying22, sizeOf, typeInfo, hi, Builtin.lenOf, Builtin.firstCells]
  · simp [Builtin.append_, run_underlying Try.underlying22, sizeOf, typeInfo, hi, Builtin.lenOf, Builtin.firstCells, hc, storeCells]

/-- A list put behind an own row. -/
theorem step_row {S : Nat → Prop} {w : World} {ops : Array Oper} {rest : List Oper} {o : Oper} {a : Act} {Q : Exit → Act → World → Prop} (hgd : o.guard = none) (s x : Operand)
    (ho : o.op = .call { callee := .builtin .append, args := #[s, x], argTypes := #[22, 22] })
    (base : Nat) (v : Value) (n : Nat) (xs : List Value) (L : Pairs) (hs : a.eval s = v) (hown : w.ownsRow base 34 2 v n xs) (hps : PsOf S w xs L)
    (B : Option Addr) (m c : Nat) (M : Pairs) (hx : a.eval x = .slice B m c) (hM : LIn S w B m M) (hn : n + m ≤ 100000) (hbase : base ≤ w.heap.size) (hSv : ∀ b, S b → v.ownBlock ≠ some b)
    (h : ∀ v' w' ys, w'.ownsRow base 34 2 v' (n + m) ys → PsOf S w' ys (L ++ M) → w.grownBy w' v.ownBlock → (v'.ownBlock = v.ownBlock ∨ v'.ownBlock = some w.heap.size) → wpList Try.prog ops Q rest (a.put o.dst v') w') :
    wpList Try.prog ops Q (o :: rest) a w := by
  obtain ⟨i0, hi, hz0, hz1, hz2⟩ := info_parts info39b
  obtain ⟨news, hp, h1, hnone, hcells⟩ := hM.cells
  cases B with
  | none =>
    obtain rfl : m = 0 := hnone rfl
    have hm0 : M = [] := List.eq_nil_of_length_eq_zero hM.len
    subst hm0
    refine wpList_plain hgd fun K hK => ?_
    have hr := run_append_none (c := c) o.type hown
    unfold Oper.wp execOp
    simp only [ho, resolve, invoke, builtin, Sem.run_bind, Sem.run_pure, Result.andThen_ok, List.map_toArray, List.map_cons, List.map_nil, hs, hx, hr]
    exact hK _ _ (h v w xs hown (by rw [List.append_nil]; exact hps) (World.grownBy.refl _ _) (.inl rfl))
  | some ad =>
    refine wpList_append_own_at w hgd s x 22 ho base 34 i0 (.agg #[.slice none 0 0, .slice none 0 0]) 2 48 Try.underlying22 hi hz0 hz1 hz2 rfl (by decide) v n xs hs hown ad m c news hx (by rw [hp.len, hM.len]) (hcells ad rfl) h1 (by unfold maxLen; omega) (by omega) hbase ?_
    intro v' w' h2 h3 _ h5
    exact h v' w' _ h2 ((hps.append hp).grown h3 (fun b hb _ e => hSv b hb e)) h3 h5

theorem own_at {g n c b : Nat} (h : (Value.slice (some ⟨g, 0, none⟩) n c).ownBlock = some b) : g = b := Option.some.inj h

set_option maxRecDepth 100000 in
set_option maxHeartbeats 3200000 in
theorem pairParts_any (A : Option Addr) (n c : Nat) (L : Pairs) (A' : Option Addr) (n' c' : Nat) (M : Pairs) (w : World) (h : PRaw w A n L) (hc : n ≤ c) (h' : PRaw w A' n' M) (hc' : n' ≤ c') :
    Calls Try.prog 3 #[.slice A n c, .slice A' n' c'] w fun e w' => e = .returned (.bool true) ∧ Below w.heap.size w w' := by
  have HO := Lib.hid h
  have HO' := Lib.hid h'
  have HF := Lib.hid (small_any A n c L 40 w h (by omega))
  clear h h'
  go_enter Try.func3, Try.ntmps3
  go_wp2_with fail
  refine HF.out.mono ?_
  rintro e w0 ⟨r, rfl, hr, hb0⟩
  have HB0 := Lib.hid hb0
  clear hb0
  cases r with
  | false =>
    clear hr
    go_wp2_with fail
    refine (awake_any w0).mono ?_
    rintro e w2 ⟨rfl, hb2⟩
    have HB2 : Hid (Below w.heap.size w w2) := HB0.out.trans (hb2.mono HB0.out.size)
    clear hb2
    go_wp2_with fail
    go_ret
    exact ⟨rfl, HB2.out⟩
  | true =>
    have HFI := Lib.hid (hr rfl)
    clear hr
    have HF' := Lib.hid (small_any A' n' c' M 40 w0 (HO'.out.below HB0.out) (by omega))
    go_wp2_with fail
    refine HF'.out.mono ?_
    rintro e w1 ⟨r, rfl, hr, hb1⟩
    have HB1 : Hid (Below w.heap.size w w1) := HB0.out.trans (hb1.mono HB0.out.size)
    clear hb1
    cases r with
    | false =>
      clear hr
      go_wp2_with fail
      refine (awake_any w1).mono ?_
      rintro e w2 ⟨rfl, hb2⟩
      have HB2 : Hid (Below w.heap.size w w2) := HB1.out.trans (hb2.mono HB1.out.size)
      clear hb2
      go_wp2_with fail
      go_ret
      exact ⟨rfl, HB2.out⟩
    | true =>
      have HFI' := Lib.hid (hr rfl)
      clear hr
      have hn40 : n ≤ 40 := by have := HFI.out.1; rw [HO.out.len] at this; exact this
      have hn40' : n' ≤ 40 := by have := HFI'.out.1; rw [HO'.out.len] at this; exact this
      have HLL : Hid (L.length = n ∧ M.length = n') := ⟨HO.out.len, HO'.out.len⟩
      have HL1 : Hid (LIn (fun b => b < w1.heap.size) w1 A n L) := ((HO.out.fine HFI.out).below HB1.out).imp fun b hb _ => hb
      have HM1 : Hid (LIn (fun b => b < w1.heap.size) w1 A' n' M) := ((HO'.out.fine HFI'.out).below HB1.out).imp fun b hb _ => hb
      have hbx : Below w1.heap.size w1 (w1.alloc (.cells #[] 34)) := (Below.refl _ _).alloc (Nat.le_refl _) _
      go_wp2_with (at_builtin; go_loud (refine step_row (S := fun b => b < w1.heap.size) rfl _ _ rfl w1.heap.size _ 0 [] [] rfl (World.ownsRow_made w1 #[] 0 (Nat.le_refl _) (Nat.zero_le _) rfl) ⟨rfl, fun j hj => by simp at hj⟩ A n c L rfl (HL1.out.below hbx) (by omega) (by simp) (fun b hb e => by have e2 := own_at e; omega) ?_))
      intro v2 w2 ys2 hown2 hps2 hg2 ho2
      obtain ⟨A2, c2, rfl⟩ := own_slice hown2
      have hb2 : Below w1.heap.size w1 w2 := hbx.grown hg2 (by simp) (by intro k hk; have := own_at hk; omega)
      have ho2' : ∀ k, (Value.slice A2 n c2).ownBlock = some k → w1.heap.size ≤ k := fun k e => (hown2.lt k e).1
      have H2 : Hid (w2.ownsRow w1.heap.size 34 2 (.slice A2 n c2) n ys2 ∧ PsOf (fun b => b < w1.heap.size) w2 ys2 ([] ++ L) ∧ Below w1.heap.size w1 w2 ∧ ∀ b, b < w1.heap.size → (Value.slice A2 n c2).ownBlock ≠ some b) :=
        ⟨hown2, hps2, hb2, fun b hb e => by have := ho2' b e; omega⟩
      clear hbx hown2 hps2 hg2 ho2 hb2 ho2'
      go_wp2_with (at_builtin; refine step_row (S := fun b => b < w1.heap.size) rfl _ _ rfl w1.heap.size _ _ ys2 ([] ++ L) rfl H2.out.1 H2.out.2.1 A' n' c' M rfl (HM1.out.below H2.out.2.2.1) (by omega) H2.out.2.2.1.size H2.out.2.2.2 ?_)
      intro v3 w3 ys3 hown3 hps3 hg3 ho3
      obtain ⟨A3, c3, rfl⟩ := own_slice hown3
      have hr3 := reads_own (S := fun _ => True) hown3 hps3 (by simp [HLL.out.1, HLL.out.2]) (fun _ _ _ => trivial) (fun _ _ => trivial)
      have H3 : Hid (LIn (fun _ => True) w3 A3 (n + n') (L ++ M) ∧ n + n' ≤ c3 ∧ Below w1.heap.size w1 w3) :=
        ⟨hr3.1, hr3.2, H2.out.2.2.1.grown hg3 H2.out.2.2.1.size (fun k e => (H2.out.1.lt k e).1)⟩
      clear hown3 hps3 hg3 ho3 hr3
      have HB3 : Hid (Below w1.heap.size w1 (w3.alloc (.cells #[] 34)) ∧ Below w3.heap.size w3 (w3.alloc (.cells #[] 34))) := ⟨H3.out.2.2.alloc H3.out.2.2.size _, (Below.refl _ _).alloc (Nat.le_refl _) _⟩
      have HC := Lib.hid (Come_any L A n c (w3.alloc (.cells #[] 34)) (HL1.out.below HB3.out.1) (by omega) hc)
      have HEM : Hid ((w3.alloc (.cells #[] 34)).ownsRow w3.heap.size 34 2 (.slice (some ⟨w3.heap.size, 0, none⟩) 0 0) 0 []) := World.ownsRow_made w3 #[] 0 (Nat.le_refl _) (Nat.zero_le _) rfl
      have HS3 : Hid ((w3.alloc (.cells #[] 34)).heap.size = w3.heap.size + 1) := World.size_alloc _ _
      go_wp2_with fail
      refine HC.out.mono ?_
      rintro e w4 hcame
      obtain ⟨A4, c4, N, rfl, hM4⟩ := hcame.parts HLL.out.1
      have H4 : Hid (w4.ownsRow w3.heap.size 34 2 (.slice (some ⟨w3.heap.size, 0, none⟩) 0 0) 0 [] ∧ LIn (fun b => b ≠ w3.heap.size ∧ b < w4.heap.size ∧ w3.heap.size ≤ b) w4 A4 N.length N ∧ Below w3.heap.size w3 w4 ∧ N = comeL L ∧ N.length ≤ n) :=
        ⟨own_below HEM.out hM4.out.2.2.2.2.2.1, hM4.out.2.1.imp fun b hb h => by have h1 : (w3.alloc (.cells #[] 34)).heap.size ≤ b := h; have h2 := HS3.out; exact ⟨by omega, hb, by omega⟩,
          HB3.out.2.trans (hM4.out.2.2.2.2.2.1.mono (by have := HS3.out; omega)), hM4.out.2.2.2.2.1, hM4.out.2.2.2.1⟩
      have hnn := H4.out.2.2.2.2
      clear hcame hM4
      go_wp2_with (at_builtin; refine step_row (S := fun b => b ≠ w3.heap.size ∧ b < w4.heap.size) rfl _ _ rfl w3.heap.size _ 0 [] [] rfl H4.out.1 ⟨rfl, fun j hj => by simp at hj⟩ A4 N.length c4 N rfl (H4.out.2.1.imp fun b _ h => ⟨h.1, h.2.1⟩) (by omega) H4.out.2.2.1.size (fun b hb e => hb.1 (own_at e).symm) ?_)
      intro v5 w5 ys5 hown5 hps5 hg5 ho5
      obtain ⟨A5, c5, rfl⟩ := own_slice hown5
      have H5 : Hid (w5.ownsRow w3.heap.size 34 2 (.slice A5 N.length c5) N.length ys5 ∧ PsOf (fun b => b ≠ w3.heap.size ∧ b < w4.heap.size) w5 ys5 ([] ++ N) ∧ Below w3.heap.size w3 w5 ∧ ∀ b, (b ≠ w3.heap.size ∧ b < w4.heap.size) → (Value.slice A5 N.length c5).ownBlock ≠ some b) :=
        ⟨hown5, hps5, H4.out.2.2.1.grown hg5 H4.out.2.2.1.size (fun k e => (H4.out.1.lt k e).1), fun b hb e => by
          rcases ho5 with h | h
          · rw [h] at e; exact hb.1 (own_at e).symm
          · rw [h] at e; injection e with e; omega⟩
      clear hown5 hps5 hg5 ho5
      have HM5 : Hid (LIn (fun b => b ≠ w3.heap.size ∧ b < w4.heap.size) w5 A' n' M) :=
        ((HM1.out.below H3.out.2.2).below H5.out.2.2.1).imp fun b _ h => by
          have h1 := H3.out.2.2.size
          have h2 := H4.out.2.2.1.size
          exact ⟨by omega, by omega⟩
      go_wp2_with (at_builtin; refine step_row (S := fun b => b ≠ w3.heap.size ∧ b < w4.heap.size) rfl _ _ rfl w3.heap.size _ _ ys5 ([] ++ N) rfl H5.out.1 H5.out.2.1 A' n' c' M rfl HM5.out (by omega) H5.out.2.2.1.size H5.out.2.2.2 ?_)
      intro v6 w6 ys6 hown6 hps6 hg6 ho6
      obtain ⟨A6, c6, rfl⟩ := own_slice hown6
      have hr6 := reads_own (S := fun _ => True) hown6 hps6 (by simp [HLL.out.2]) (fun _ _ _ => trivial) (fun _ _ => trivial)
      have H6 : Hid (LIn (fun _ => True) w6 A6 (N.length + n') (N ++ M) ∧ N.length + n' ≤ c6 ∧ Below w3.heap.size w3 w6) :=
        ⟨hr6.1, hr6.2, H5.out.2.2.1.grown hg6 H5.out.2.2.1.size (fun k e => (H5.out.1.lt k e).1)⟩
      clear hown6 hps6 hg6 ho6 hr6
      have HC7 := Lib.hid (Come_any (L ++ M) A3 (n + n') c3 w6 (H3.out.1.below H6.out.2.2) (by omega) H3.out.2.1)
      go_wp2_with fail
      refine HC7.out.mono ?_
      rintro e w7 hcame
      obtain ⟨A7, c7, N7, rfl, h7⟩ := hcame.parts (by rw [List.length_append, HLL.out.1, HLL.out.2])
      have HN7 : Hid (N7 = comeL (L ++ M) ∧ N7.length ≤ n + n' ∧ LIn (fun _ => True) w7 A7 N7.length N7 ∧ Below w6.heap.size w6 w7) := ⟨h7.out.2.2.2.2.1, h7.out.2.2.2.1, h7.out.2.1.imp fun _ _ _ => trivial, h7.out.2.2.2.2.2.1⟩
      clear hcame h7
      have HC8 := Lib.hid (Come_any (N ++ M) A6 (N.length + n') c6 w7 (H6.out.1.below HN7.out.2.2.2) (by omega) H6.out.2.1)
      go_wp2_with fail
      refine HC8.out.mono ?_
      rintro e w8 hcame
      obtain ⟨A8, c8, N8, rfl, h8⟩ := hcame.parts (by rw [List.length_append, HLL.out.2])
      have hq1 := HN7.out.2.1
      have hq2 := h8.out.2.2.2.1
      have HE : Hid (N7 = N8) := by rw [HN7.out.1, h8.out.2.2.2.2.1, H4.out.2.2.2.1]; exact (come_parts L M).symm
      have HS := Lib.hid (same_any N7 N8 A7 A8 N7.length N8.length c7 c8 w8 (HN7.out.2.2.1.below h8.out.2.2.2.2.2.1) h8.out.2.1 (by omega) (by omega))
      rw [decide_eq_true HE.out] at HS
      have HB8 : Hid (Below w.heap.size w w8) := by
        have h1 : Below w.heap.size w w3 := HB1.out.trans (H3.out.2.2.mono HB1.out.size)
        have h2 : Below w.heap.size w w6 := h1.trans (H6.out.2.2.mono h1.size)
        have h3 : Below w.heap.size w w7 := h2.trans (HN7.out.2.2.2.mono h2.size)
        exact h3.trans (h8.out.2.2.2.2.2.1.mono h3.size)
      clear hcame h8 hq1 hq2
      go_wp2_with fail
      refine HS.out.mono ?_
      rintro e w9 ⟨rfl, hb9⟩
      have HB9 : Hid (Below w.heap.size w w9) := HB8.out.trans (hb9.mono HB8.out.size)
      clear hb9
      go_wp2_with fail
      refine (awake_any w9).mono ?_
      rintro e w10 ⟨rfl, hb10⟩
      have H10 : Hid (Below w.heap.size w w10) := HB9.out.trans (hb10.mono HB9.out.size)
      clear hb10
      go_wp2_with fail
      go_ret
      exact ⟨rfl, H10.out⟩

end Go.Proofs.Ytocideolihbnaaa
