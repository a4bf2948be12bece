/- append([]byte{}, x...) in a drawn region. -/
import Derived.Test.YtlnlgahokifolaaTStayW
set_option linter.unusedVariables false
set_option linter.unusedSimpArgs false
namespace Go.Proofs.Ytlnlgahokifolaa
open Go.RowKit Go.Deep

theorem own_empty {w : World} {g : Nat} (hg : w.heap[g]? = some (.cells #[] 5 (0, 0))) : w.ownsRow g 5 1 (.slice (some ⟨g, 0, none⟩) 0 0) 0 [] :=
  ⟨by simp, .inr ⟨g, 0, #[], rfl, Nat.le_refl _, hg, Nat.le_refl _, by simp [maxLen], by simp, by simp⟩⟩

theorem app_run {S : Nat → Prop} (w : World) (ty : TypeId) (g : Nat) (hg : w.heap[g]? = some (.cells #[] 5 (0, 0))) (v : Value) (l : Bytes) (hB : BIn S w v l) :
    ∃ A n c w', (Builtin.append_ #[27, 27] ty #[.slice (some ⟨g, 0, none⟩) 0 0, v]).run Try.prog w = .ok (.slice A n c) w' ∧ BIn (fun b => b = g ∨ w.heap.size ≤ b) w' (.slice A n c) l ∧ NfV w' (.slice A n c) ∧ w.grownBy w' (some g) := by
  obtain ⟨A, n, c, rfl, ⟨hc, h5⟩, hR, _⟩ := hB
  obtain ⟨i0, hi, hz0, hz1, hz2⟩ := info_parts info5
  have hlen := hR.len
  have hgl := (Array.getElem?_eq_some_iff.1 hg).1
  cases A with
  | none =>
    have hn : n = 0 := by
      rcases Nat.eq_zero_or_pos n with h | h
      · exact h
      · obtain ⟨b, o, e, _⟩ := hR.cell h; cases e
    subst hn
    refine ⟨some ⟨g, 0, none⟩, 0, 0, w, ?_, ⟨_, 0, 0, rfl, ⟨Nat.le_refl _, by omega⟩, ⟨hlen, by omega, fun h => by omega⟩, fun b o h => by omega⟩, fun A n c b o e hn => by cases e; omega, World.grownBy.refl _ _⟩
    simp [Builtin.append_, run_underlying Try.underlying27, sizeOf, typeInfo, hi, Builtin.lenOf, Builtin.firstCells, storeCells]
  | some a =>
    have HA : ∀ i, i < n → w.cell? (a.add i) = some (.int .u8 ((l.getD i 0).toNat : Int)) := by
      intro i hi
      obtain ⟨b, o, e, _, hcell⟩ := hR.cell (by omega)
      cases e
      rw [addP]
      exact hcell i hi
    obtain ⟨v', w', hr, h2, h3, h4, h6⟩ := run_append_own_at (P := Try.prog) w g 27 ty 5 i0 (.int .u8 0) 1 1 Try.underlying27 hi hz0 hz1 hz2 rfl (by decide) (.slice (some ⟨g, 0, none⟩) 0 0) 0 [] (own_empty hg) a n c (bvals l) (by simp [bvals]; omega)
      (fun j u hj => by
        have hjn : j < n := by
          have := (List.getElem?_eq_some_iff.1 hj).1
          simp [bvals] at this
          omega
        rw [HA j hjn]
        have e : (bvals l)[j]? = some (Value.int .u8 ((l.getD j 0).toNat : Int)) := by simp [bvals, List.getD, List.getElem?_eq_getElem (show j < l.length by omega)]
        rw [e] at hj
        exact hj)
      (fun u hu => by obtain ⟨x, _, rfl⟩ := List.mem_map.1 hu; rfl) (by unfold maxLen; omega) (by omega) (by omega)
    rw [List.nil_append, Nat.zero_add] at h2
    have hv : ∃ A c, v' = .slice A n c := by
      rcases h2.2 with ⟨e1, e2⟩ | ⟨g, cap, cur, e1, _⟩
      · exact ⟨none, 0, by rw [e1, e2]⟩
      · exact ⟨_, _, e1⟩
    obtain ⟨A', c', rfl⟩ := hv
    refine ⟨A', n, c', w', hr, ?_, ?_, h3⟩
    · have hb := BIn.owned hlen h5 h2
      obtain ⟨A2, n2, c2, e, g1, g2, g3⟩ := hb
      cases e
      refine ⟨_, _, _, rfl, g1, g2, fun b o hn e => ?_⟩
      subst e
      have ho : o = 0 := by
        rcases h2.2 with ⟨e1, e2⟩ | ⟨g, cap, cur, e1, _⟩
        · cases e1
        · cases e1; rfl
      subst ho
      rcases h6 with h | h
      · simp [Value.ownBlock] at h; exact .inl h
      · simp [Value.ownBlock] at h; exact .inr (by omega)
    · rcases h2.2 with ⟨hv, hn⟩ | ⟨g, cap, cur, hv, _, hg, _⟩
      · intro A n c b o e hn' ea; rw [hv] at e; cases e; omega
      · intro A n c b o e hn' ea; rw [hv] at e; cases e; cases ea; exact ⟨_, _, hg⟩

theorem step_app {P : Program} (w w' : World) {ops : Array Oper} {o : Oper} {a : Act} {K : Act → World → Prop} {Q : Exit → Act → World → Prop} {E : Prop} (hgd : o.guard = none) (s x : Operand) (t : TypeId)
    (ho : o.op = .call { callee := .builtin .append, args := #[s, x], argTypes := #[t, t] }) (v u r : Value) (hs : a.eval s = v) (hx : a.eval x = u) (hr : (Builtin.append_ #[t, t] o.type #[v, u]).run P w = .ok r w') (h : K (a.put o.dst r) w') :
    if Region.wanted o (yielded ops a.tmps) = true then Oper.wp P o a w K Q else E := by
  have hw : Region.wanted o (yielded ops a.tmps) = true := by simp [Region.wanted, hgd]
  rw [if_pos hw]
  unfold Oper.wp execOp
  simp only [ho, resolve, invoke, builtin, Sem.run_bind, Sem.run_pure, Result.andThen_ok, List.map_toArray, List.map_cons, List.map_nil, hs, hx, hr]
  exact h

theorem step_clone {S : Nat → Prop} (w : World) {ops : Array Oper} {o : Oper} {a : Act} {K : Act → World → Prop} {Q : Exit → Act → World → Prop} {E : Prop} (hgd : o.guard = none) (s x : Operand)
    (ho : o.op = .call { callee := .builtin .append, args := #[s, x], argTypes := #[27, 27] }) (g : Nat) (hs : a.eval s = .slice (some ⟨g, 0, none⟩) 0 0) (hg : w.heap[g]? = some (.cells #[] 5 (0, 0))) (v : Value) (l : Bytes) (hx : a.eval x = v) (hB : BIn S w v l)
    (h : ∀ A n c w', BIn (fun b => b = g ∨ w.heap.size ≤ b) w' (.slice A n c) l → NfV w' (.slice A n c) → w.grownBy w' (some g) → K (a.put o.dst (.slice A n c)) w') :
    if Region.wanted o (yielded ops a.tmps) = true then Oper.wp Try.prog o a w K Q else E := by
  obtain ⟨A, n, c, w', hr, h1, h2, h3⟩ := app_run w o.type g hg v l hB
  exact step_app w w' hgd s x 27 ho _ _ _ hs hx hr (h A n c w' h1 h2 h3)

/-- An empty row of bytes made since Y, all of Y still there. -/
structure Em (Y W : World) (g : Nat) : Prop where
  at_ : W.heap[g]? = some (.cells #[] 5 (0, 0))
  new : Y.heap.size ≤ g
  below : Below Y.heap.size Y W
theorem Em.alloc {Y W : World} {g : Nat} (h : Em Y W g) (o : Obj) : Em Y (W.alloc o) g := ⟨heap_old o h.at_, h.new, h.below.alloc h.below.size o⟩
theorem Em.made {Y W : World} (h : Below Y.heap.size Y W) : Em Y (W.alloc (.cells #[] 5)) W.heap.size := ⟨heap_new W _, h.size, h.alloc h.size _⟩
theorem Em.drew {Y W : World} {g : Nat} (h : Em Y W g) : Em Y W.drew g := ⟨h.at_, h.new, below_drew2 h.below⟩
theorem Em.lt {Y W : World} {g : Nat} (h : Em Y W g) : g < W.heap.size := (Array.getElem?_eq_some_iff.1 h.at_).1
theorem Em.grown {Y W W' : World} {g g' : Nat} (h : Em Y W g) (hg : W.grownBy W' (some g')) (hne : g ≠ g') (hg' : Y.heap.size ≤ g') : Em Y W' g :=
  ⟨(hg.block g h.lt (fun e => hne (Option.some.inj e))).trans h.at_, h.new, h.below.grown hg h.below.size (fun k e => by cases e; exact hg')⟩
/-- A box made since Y, empty as yet. -/
structure Bx (Y W : World) (g : Nat) : Prop where
  at_ : W.heap[g]? = some (.cells #[.int .i64 0, .slice none 0 0, .slice none 0 0] 29 (0, 0))
  new : Y.heap.size ≤ g
  below : Below Y.heap.size Y W
theorem Bx.alloc {Y W : World} {g : Nat} (h : Bx Y W g) (o : Obj) : Bx Y (W.alloc o) g := ⟨heap_old o h.at_, h.new, h.below.alloc h.below.size o⟩
theorem Bx.made {Y W : World} (h : Below Y.heap.size Y W) : Bx Y (W.alloc (.cells #[.int .i64 0, .slice none 0 0, .slice none 0 0] 29)) W.heap.size := ⟨heap_new W _, h.size, h.alloc h.size _⟩
theorem Bx.drew {Y W : World} {g : Nat} (h : Bx Y W g) : Bx Y W.drew g := ⟨h.at_, h.new, below_drew2 h.below⟩
theorem Bx.lt {Y W : World} {g : Nat} (h : Bx Y W g) : g < W.heap.size := (Array.getElem?_eq_some_iff.1 h.at_).1
theorem Bx.grown {Y W W' : World} {g g' : Nat} (h : Bx Y W g) (hg : W.grownBy W' (some g')) (hne : g ≠ g') (hg' : Y.heap.size ≤ g') : Bx Y W' g :=
  ⟨(hg.block g h.lt (fun e => hne (Option.some.inj e))).trans h.at_, h.new, h.below.grown hg h.below.size (fun k e => by cases e; exact hg')⟩

theorem by_alloc {Y W : World} (h : Below Y.heap.size Y W) (o : Obj) : Below Y.heap.size Y (W.alloc o) := h.alloc h.size o
theorem by_drew {Y W : World} (h : Below Y.heap.size Y W) : Below Y.heap.size Y W.drew := below_drew2 h
theorem by_grown {Y W W' : World} {g : Nat} (h : Below Y.heap.size Y W) (hg : W.grownBy W' (some g)) (hY : Y.heap.size ≤ g) : Below Y.heap.size Y W' := h.grown hg h.size (fun k e => by cases e; exact hY)
theorem Em.made' {Y W : World} {g : Nat} (hg : W.heap.size = g) (h : Below Y.heap.size Y W) : Em Y (W.alloc (.cells #[] 5)) g := hg ▸ Em.made h
theorem Bx.made' {Y W : World} {g : Nat} (hg : W.heap.size = g) (h : Below Y.heap.size Y W) : Bx Y (W.alloc (.cells #[.int .i64 0, .slice none 0 0, .slice none 0 0] 29)) g := hg ▸ Bx.made h
theorem BIn.ne {S : Nat → Prop} {W : World} {A : Option Addr} {n c g : Nat} {l : Bytes} (h : BIn S W (.slice A n c) l) (hg : W.heap[g]? = some (.cells #[] 5 (0, 0))) : ∀ b o, 0 < n → A = some ⟨b, o, none⟩ → b ≠ g := fun b o hn e hb => by
  obtain ⟨A', n', c', e', _, hr, _⟩ := h
  cases e'
  obtain ⟨b', o', e2, _, hc⟩ := hr.cell hn
  rw [e] at e2
  injection e2 with e2
  injection e2 with e3 e4
  subst e3 e4 hb
  have := hc 0 hn
  simp [World.cell?, hg] at this
theorem BIn.past {S : Nat → Prop} {W W' : World} {A : Option Addr} {n c g : Nat} {l : Bytes} (h : BIn S W (.slice A n c) l) (hg : W.heap[g]? = some (.cells #[] 5 (0, 0))) (hG : W.grownBy W' (some g)) : BIn S W' (.slice A n c) l := by
  have hne := h.ne hg
  obtain ⟨A', n', c', e', h1, hr, h2⟩ := h
  cases e'
  have h3 : BIn (fun b => S b ∧ b ≠ g) W (.slice A n c) l := ⟨A, n, c, rfl, h1, hr, fun b o hn e => ⟨h2 b o hn e, hne b o hn e⟩⟩
  exact (h3.carry hG.size fun b hb hlt => hG.block b hlt (fun e => hb.2 (Option.some.inj e))).imp fun b _ hb => hb.1
theorem NfV.past {S : Nat → Prop} {W W' : World} {A : Option Addr} {n c g : Nat} {l : Bytes} (h : NfV W (.slice A n c)) (hB : BIn S W (.slice A n c) l) (hg : W.heap[g]? = some (.cells #[] 5 (0, 0))) (hG : W.grownBy W' (some g)) : NfV W' (.slice A n c) := fun A' n' c' b o e hn ea => by
  have hnf := h A' n' c' b o e hn ea
  cases e
  exact hnf.same (hG.block b hnf.lt (fun e => hB.ne hg b o hn ea (Option.some.inj e)))

theorem with_ {p q : Prop} (h : p) (k : p → q) : q := k h
/-- A box that holds an operation whose bytes are its own. -/
structure Ob (Y W : World) (g : Nat) (op : Int) (A1 : Option Addr) (n1 c1 : Nat) (A2 : Option Addr) (n2 c2 : Nat) (k x : Bytes) : Prop where
  at_ : W.heap[g]? = some (.cells #[.int .i64 op, .slice A1 n1 c1, .slice A2 n2 c2] 29 (0, 0))
  new : Y.heap.size ≤ g
  key : BIn (New Y.heap.size) W (.slice A1 n1 c1) k
  val : BIn (New Y.heap.size) W (.slice A2 n2 c2) x
  nk : NfV W (.slice A1 n1 c1)
  nx : NfV W (.slice A2 n2 c2)
  below : Below Y.heap.size Y W
section
variable {Y W : World} {g : Nat} {op : Int} {A1 : Option Addr} {n1 c1 : Nat} {A2 : Option Addr} {n2 c2 : Nat} {k x : Bytes}
theorem Ob.drew (h : Ob Y W g op A1 n1 c1 A2 n2 c2 k x) : Ob Y W.drew g op A1 n1 c1 A2 n2 c2 k x := ⟨h.at_, h.new, h.key.below (below_drew2 (Below.refl _ _)), h.val.below (below_drew2 (Below.refl _ _)), h.nk.below (below_drew2 (Below.refl _ _)), h.nx.below (below_drew2 (Below.refl _ _)), below_drew2 h.below⟩
theorem Ob.lay (hb : Below Y.heap.size Y W) (h1 : BIn (New Y.heap.size) W (.slice A1 n1 c1) k ∧ NfV W (.slice A1 n1 c1)) (h2 : BIn (New Y.heap.size) W (.slice A2 n2 c2) x ∧ NfV W (.slice A2 n2 c2)) : Ob Y (W.alloc (.cells #[.int .i64 op, .slice A1 n1 c1, .slice A2 n2 c2] 29)) W.heap.size op A1 n1 c1 A2 n2 c2 k x :=
  have hn := (Below.refl W.heap.size W).alloc (Nat.le_refl _) (.cells #[.int .i64 op, .slice A1 n1 c1, .slice A2 n2 c2] 29)
  ⟨heap_new W _, hb.size, h1.1.below hn, h2.1.below hn, h1.2.below hn, h2.2.below hn, hb.alloc hb.size _⟩
theorem BIn.neB {S : Nat → Prop} {A : Option Addr} {n c : Nat} {l : Bytes} (h : BIn S W (.slice A n c) l) (hg : W.heap[g]? = some (.cells #[.int .i64 0, .slice none 0 0, .slice none 0 0] 29 (0, 0))) : ∀ b o, 0 < n → A = some ⟨b, o, none⟩ → b ≠ g := fun b o hn e hb => by
  obtain ⟨A', n', c', e', _, hr, _⟩ := h
  cases e'
  obtain ⟨b', o', e2, _, hc⟩ := hr.cell hn
  rw [e] at e2
  injection e2 with e2
  injection e2 with e3 e4
  subst e3 e4 hb
  have := hc 0 hn
  simp only [World.cell?, hg, Nat.add_zero] at this
  match o, this with
  | 0, h => simp at h
  | 1, h => simp at h
  | 2, h => simp at h
  | o + 3, h => simp at h
theorem heap_set3 (hg : W.heap[g]? = some (.cells #[.int .i64 0, .slice none 0 0, .slice none 0 0] 29 (0, 0))) (u v z : Value) : (((W.setCell ⟨g, 0, none⟩ u).setCell ⟨g, 1, none⟩ v).setCell ⟨g, 2, none⟩ z).heap[g]? = some (.cells #[u, v, z] 29 (0, 0)) := by
  simp [World.setCell, Array.getElem?_modify, hg]
theorem set3_other (u v z : Value) (b : Nat) (hb : b ≠ g) : (((W.setCell ⟨g, 0, none⟩ u).setCell ⟨g, 1, none⟩ v).setCell ⟨g, 2, none⟩ z).heap[b]? = W.heap[b]? := by
  rw [heap_setCell_other _ _ _ _ (by simpa using hb), heap_setCell_other _ _ _ _ (by simpa using hb), heap_setCell_other _ _ _ _ (by simpa using hb)]
theorem Ob.fill (h : Bx Y W g) (h1 : BIn (New Y.heap.size) W (.slice A1 n1 c1) k ∧ NfV W (.slice A1 n1 c1)) (h2 : BIn (New Y.heap.size) W (.slice A2 n2 c2) x ∧ NfV W (.slice A2 n2 c2)) : Ob Y (((W.setCell ⟨g, 0, none⟩ (.int .i64 op)).setCell ⟨g, 1, none⟩ (.slice A1 n1 c1)).setCell ⟨g, 2, none⟩ (.slice A2 n2 c2)) g op A1 n1 c1 A2 n2 c2 k x := by
  have hs : W.heap.size ≤ (((W.setCell ⟨g, 0, none⟩ (.int .i64 op)).setCell ⟨g, 1, none⟩ (.slice A1 n1 c1)).setCell ⟨g, 2, none⟩ (.slice A2 n2 c2)).heap.size := by simp
  have each : ∀ {A : Option Addr} {n c : Nat} {l : Bytes}, BIn (New Y.heap.size) W (.slice A n c) l ∧ NfV W (.slice A n c) → BIn (New Y.heap.size) (((W.setCell ⟨g, 0, none⟩ (.int .i64 op)).setCell ⟨g, 1, none⟩ (.slice A1 n1 c1)).setCell ⟨g, 2, none⟩ (.slice A2 n2 c2)) (.slice A n c) l ∧ NfV (((W.setCell ⟨g, 0, none⟩ (.int .i64 op)).setCell ⟨g, 1, none⟩ (.slice A1 n1 c1)).setCell ⟨g, 2, none⟩ (.slice A2 n2 c2)) (.slice A n c) := fun {A n c l} hh => by
    have hne := hh.1.neB h.at_
    obtain ⟨A', n', c', e', h1, hr, h2⟩ := hh.1
    cases e'
    have h3 : BIn (fun b => New Y.heap.size b ∧ b ≠ g) W (.slice A n c) l := ⟨A, n, c, rfl, h1, hr, fun b o hn e => ⟨h2 b o hn e, hne b o hn e⟩⟩
    exact ⟨(h3.carry hs fun b hb _ => set3_other _ _ _ b hb.2).imp fun b _ hb => hb.1, ((hh.2.set _ _ _).set _ _ _).set _ _ _⟩
  exact ⟨heap_set3 h.at_ _ _ _, h.new, (each h1).1, (each h2).1, (each h1).2, (each h2).2, ((h.below.setCell (p := ⟨g, 0, none⟩) h.new _).setCell (p := ⟨g, 1, none⟩) h.new _).setCell (p := ⟨g, 2, none⟩) h.new _⟩
theorem Bx.zs (h : Bx Y W g) : W.cell? ⟨g, 0, none⟩ = some (.int .i64 0) ∧ W.cell? ⟨g, 1, none⟩ = some (.slice none 0 0) ∧ W.cell? ⟨g, 2, none⟩ = some (.slice none 0 0) := ⟨cell_of_row W g 0 _ _ _ h.at_, cell_of_row W g 1 _ _ _ h.at_, cell_of_row W g 2 _ _ _ h.at_⟩
theorem Bx.fs (h : Bx Y W g) : W.frozen? ⟨g, 0, none⟩ = false ∧ W.frozen? ⟨g, 1, none⟩ = false ∧ W.frozen? ⟨g, 2, none⟩ = false := ⟨frozen_of_row W g 0 _ _ h.at_, frozen_of_row W g 1 _ _ h.at_, frozen_of_row W g 2 _ _ h.at_⟩
end

end Go.Proofs.Ytlnlgahokifolaa
