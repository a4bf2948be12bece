/- Texts put together: FStepRow LPart. -/
import Derived.Test.YtphjaebkcimklaaGreatDoorMso
import Derived.Test.YtphjaebkcimklaaGreatDoorMe
/- A list put behind an own row. -/
set_option linter.unusedVariables false
set_option linter.unusedSimpArgs false
namespace Go.Proofs.YtphjaebkcimklaaGreatDoor
open Go.RowKit Go.Deep Go.Shelf
attribute [local go_sem] Oper.semAt_some

/-- The cells that a list of pairs lies in. -/
theorem LIn.cells {S : Nat → Prop} {w : World} {A : Option Addr} {n : Nat} {L : Pairs} (h : LIn S w A n L) :
    ∃ vs : List Value, PsOf S w vs L ∧ (∀ v ∈ vs, v.oneCell' = true) ∧ (A = none → n = 0) ∧ ∀ a, A = some a → ∀ j u, vs[j]? = some u → w.cell? (a.add j) = some u := by
  rcases Nat.eq_zero_or_pos n with h0 | hn
  · have hl := h.len
    have : L = [] := List.eq_nil_of_length_eq_zero (hl.trans h0)
    subst this
    exact ⟨[], ⟨rfl, fun j hj => by simp at hj⟩, (fun v hv => by cases hv), (fun _ => h0), (fun a _ j u hj => by simp at hj)⟩
  · obtain ⟨b, o, rfl, hbl, hS, hc⟩ := h.cell hn
    have each : ∀ j, j < n → ∃ q : Value × Value, w.cell? ⟨b, o + j * 2, none⟩ = some q.1 ∧ w.cell? ⟨b, o + j * 2 + 1, none⟩ = some q.2 ∧ BIn S w q.1 (L.getD j ([], [])).1 ∧ BIn S w q.2 (L.getD j ([], [])).2 := fun j hj => by
      obtain ⟨kv, xv, h1, h2, h3, h4⟩ := hc j hj
      exact ⟨(kv, xv), h1, h2, h3, h4⟩
    have pick : ∃ q : Nat → Value × Value, ∀ j, j < n → w.cell? ⟨b, o + j * 2, none⟩ = some (q j).1 ∧ w.cell? ⟨b, o + j * 2 + 1, none⟩ = some (q j).2 ∧ BIn S w (q j).1 (L.getD j ([], [])).1 ∧ BIn S w (q j).2 (L.getD j ([], [])).2 :=
      ⟨fun j => if hj : j < n then (each j hj).choose else (.slice none 0 0, .slice none 0 0), fun j hj => by
        simp only [dif_pos hj]; exact (each j hj).choose_spec⟩
    obtain ⟨q, hq⟩ := pick
    have hg : ∀ i, i < n * 2 → ((List.range (n * 2)).map fun i => if i % 2 = 0 then (q (i / 2)).1 else (q (i / 2)).2)[i]? = some (if i % 2 = 0 then (q (i / 2)).1 else (q (i / 2)).2) := fun i hi => by
      rw [List.getElem?_map, List.getElem?_eq_getElem (by simpa using hi)]; simp
    refine ⟨(List.range (n * 2)).map fun i => if i % 2 = 0 then (q (i / 2)).1 else (q (i / 2)).2, ⟨by simp [h.len], fun j hj => ?_⟩, fun v hv => ?_, (fun e => by cases e), fun a e j u hj => ?_⟩
    · rw [h.len] at hj
      obtain ⟨_, _, h3, h4⟩ := hq j hj
      refine ⟨(q j).1, (q j).2, ?_, ?_, h3, h4⟩
      · rw [hg _ (by omega), if_pos (by omega), show j * 2 / 2 = j by omega]
      · rw [hg _ (by omega), if_neg (by omega), show (j * 2 + 1) / 2 = j by omega]
    · obtain ⟨i, hi, rfl⟩ := List.mem_map.1 hv
      have hi2 : i < n * 2 := by simpa using hi
      obtain ⟨_, _, h3, h4⟩ := hq (i / 2) (by omega)
      split
      · obtain ⟨_, _, _, e⟩ := h3.slice; rw [e]; rfl
      · obtain ⟨_, _, _, e⟩ := h4.slice; rw [e]; rfl
    · injection e with e
      subst e
      have hjl : j < n * 2 := by
        have := (List.getElem?_eq_some_iff.1 hj).1
        simpa using this
      rw [hg j hjl] at hj
      injection hj with hj
      subst hj
      rw [addP]
      obtain ⟨h1, h2, _, _⟩ := hq (j / 2) (by omega)
      split
      · rw [show o + j = o + j / 2 * 2 by omega]; exact h1
      · rw [show o + j = o + j / 2 * 2 + 1 by omega]; exact h2
/-- Appending nothing. -/
theorem run_append_none {base n c : Nat} {v : Value} {xs : List Value} {w : World} (ty : TypeId) (h : w.ownsRow base 60 2 v n xs) :
    (Builtin.append_ #[69, 69] ty #[v, .slice none 0 c]).run Tryz.prog w = .ok v w := by
  obtain ⟨i0, hi, hz0, hz1, hz2⟩ := info_parts info39b
  rcases h.2 with ⟨rfl, hn⟩ | ⟨g, cap, cur, rfl, hb, hg, hc, hm, hs, ht⟩
  · simp [Builtin.append_, run_underlying Tryz.underlying69, sizeOf, typeInfo, hi, Builtin.lenOf, Builtin.firstCells]
  · simp [Builtin.append_, run_underlying Tryz.underlying69, sizeOf, typeInfo, hi, Builtin.lenOf, Builtin.firstCells, hc, storeCells]

/-- A list put behind an own row. -/
theorem step_row {S : Nat → Prop} {w : World} {ops : Array Oper} {rest : List Oper} {o : Oper} {a : Act} {Q : Exit → Act → World → Prop} (hgd : o.guard = none) (s x : Operand)
    (ho : o.op = .call { callee := .builtin .append, args := #[s, x], argTypes := #[69, 69] })
    (base : Nat) (v : Value) (n : Nat) (xs : List Value) (L : Pairs) (hs : a.eval s = v) (hown : w.ownsRow base 60 2 v n xs) (hps : PsOf S w xs L)
    (B : Option Addr) (m c : Nat) (M : Pairs) (hx : a.eval x = .slice B m c) (hM : LIn S w B m M) (hn : n + m ≤ 100000) (hbase : base ≤ w.heap.size) (hSv : ∀ b, S b → v.ownBlock ≠ some b)
    (h : ∀ v' w' ys, w'.ownsRow base 60 2 v' (n + m) ys → PsOf S w' ys (L ++ M) → w.grownBy w' v.ownBlock → (v'.ownBlock = v.ownBlock ∨ v'.ownBlock = some w.heap.size) → wpList Tryz.prog ops Q rest (a.put o.dst v') w') :
    wpList Tryz.prog ops Q (o :: rest) a w := by
  obtain ⟨i0, hi, hz0, hz1, hz2⟩ := info_parts info39b
  obtain ⟨news, hp, h1, hnone, hcells⟩ := hM.cells
  cases B with
  | none =>
    obtain rfl : m = 0 := hnone rfl
    have hm0 : M = [] := List.eq_nil_of_length_eq_zero hM.len
    subst hm0
    refine wpList_plain hgd fun K hK => ?_
    have hr := run_append_none (c := c) o.type hown
    unfold Oper.wp execOp
    simp only [ho, resolve, invoke, builtin, Sem.run_bind, Sem.run_pure, Result.andThen_ok, List.map_toArray, List.map_cons, List.map_nil, hs, hx, hr]
    exact hK _ _ (h v w xs hown (by rw [List.append_nil]; exact hps) (World.grownBy.refl _ _) (.inl rfl))
  | some ad =>
    refine wpList_append_own_at w hgd s x 69 ho base 60 i0 (.agg #[.slice none 0 0, .slice none 0 0]) 2 48 Tryz.underlying69 hi hz0 hz1 hz2 rfl (by decide) v n xs hs hown ad m c news hx (by rw [hp.len, hM.len]) (hcells ad rfl) h1 (by unfold maxLen; omega) (by omega) hbase ?_
    intro v' w' h2 h3 _ h5
    exact h v' w' _ h2 ((hps.append hp).grown h3 (fun b hb _ e => hSv b hb e)) h3 h5

theorem own_at {g n c b : Nat} (h : (Value.slice (some ⟨g, 0, none⟩) n c).ownBlock = some b) : g = b := Option.some.inj h


/-- A struct's load behind a guard that holds. -/
theorem wpList_load_mid_g {P : Program} {ops : Array Oper} {rest : List Oper} {op : Oper} {a : Act} {w : World} {Q : Exit → Act → World → Prop} (hw : Region.wanted op (yielded ops a.tmps) = true) (ty : TypeId) (x : Operand) (ho : op.op = .load ty x)
    (b o : Nat) (hx : a.eval x = .pointer (some ⟨b, o, none⟩)) (cs : List Value) (d : TypeDesc) (hc : w.rangeAt b o cs)
    (hu : P.underlying ty = some d) (hd : d.isRow = true) (hi : (P.info? ty).map (·.size) = some cs.length)
    (h : wpList P ops Q rest (a.put op.dst (.agg cs.toArray)) w) : wpList P ops Q (op :: rest) a w :=
  wpList_step fun K hK => by rw [if_pos hw]; exact wp_load_mid ty x ho b o hx cs d hc hu hd hi (hK _ _ h)

end Go.Proofs.YtphjaebkcimklaaGreatDoor

/- What a law is given: a stretch and two numbers. -/
set_option linter.unusedVariables false
set_option linter.unusedSimpArgs false
namespace Go.Proofs.YtphjaebkcimklaaGreatDoor
open Go.RowKit Go.ChangeShapes Go.WideShapes Go.Deep

theorem cellsPart : Tryz.prog.cellsOf 27 = 5 := by kernel_rfl
section
variable {H : Type} {enc : TypeId × Value → H} {w : World} {base : Nat} {spare : Nat → Bool} {held : Bool}
set_option maxRecDepth 100000 in
theorem open_i64w {fuel : Nat} {v : Value} {x : DataW H × List MemPlace} (h : DataW.trod enc Tryz.prog w base spare held fuel 3 [v] = some x) : ∃ n, v = .int .i64 n ∧ (Lit.int .i64 n).wf = true := by
  cases fuel with
  | zero => simp [DataW.trod] at h
  | succ f =>
    unfold DataW.trod at h
    rw [Tryz.underlying3] at h
    cases v <;> simp at h
    obtain ⟨⟨rfl, hw⟩, _⟩ := h
    exact ⟨_, rfl, hw⟩

/-- A stretch and two numbers as they come. -/
def ZRaw (w : World) (cs : Array Value) (f t : Bytes) (c : Bool) (sk mo : Int) : Prop := ∃ fv tv, cs = #[fv, tv, .bool c, .int .i64 sk, .int .i64 mo] ∧ BRaw w fv f ∧ BRaw w tv t ∧ (Lit.int .i64 sk).wf = true ∧ (Lit.int .i64 mo).wf = true
set_option maxRecDepth 100000 in
theorem open_part {fuel : Nat} {cs : Array Value} {x : DataW H × List MemPlace} (h : DataW.trod enc Tryz.prog w base spare held fuel 27 cs.toList = some x) :
    ∃ f t c sk mo, ZRaw w cs f t c sk mo := by
  obtain ⟨xs, n, rfl, _, hlen, hxl, hf⟩ := DataW.trod_struct Tryz.underlying27 h
  rw [cellsPart] at hlen
  obtain ⟨l⟩ := cs
  simp only [] at hlen hf
  match l, hlen with
  | [v0, v1, v2, v3, v4], _ =>
    have g0 := hf 0 _ rfl
    have g1 := hf 1 _ rfl
    have g2 := hf 2 _ rfl
    simp [cellsSpan, cells3] at g0 g1 g2
    have hx3 : xs.length = 3 := hxl
    rw [List.getElem?_eq_getElem (by omega)] at g0 g1 g2
    obtain ⟨sf, st, sc, fv, tv, e, h1, h2⟩ := open_span (cs := #[v0, v1, v2]) g0
    obtain ⟨sk, rfl, w1⟩ := open_i64w g1
    obtain ⟨mo, rfl, w2⟩ := open_i64w g2
    injection e with e
    injection e with e
    injection e with e1 e
    injection e with e2 e
    injection e with e3 e
    subst e1 e2 e3
    exact ⟨sf, st, sc, sk, mo, v0, v1, rfl, h1, h2, w1, w2⟩
end

end Go.Proofs.YtphjaebkcimklaaGreatDoor
