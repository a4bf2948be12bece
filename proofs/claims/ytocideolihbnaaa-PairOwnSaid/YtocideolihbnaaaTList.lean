/- The contract of the tree's List: each's walk with the closure that appends. -/
import Derived.Test.YtocideolihbnaaaTFrom
import Derived.Deep.AppendLies
import Derived.Deep.RegionLaw
import Derived.OwnWalk
import Derived.Test.YtocideolihbnaaaWLast
set_option linter.unusedVariables false
set_option linter.unusedSimpArgs false
namespace Go.Proofs.Ytocideolihbnaaa
open Go.RowKit Go.Proofs.YtocideolihbnaaaW.PrintLast
attribute [local go_sem ↓] Go.wp_at_zero Go.wp_at_succ

theorem info39b : (Try.prog.info? 34).map (fun i => (i.zero, i.size, i.bytes)) = some (some (.agg #[.slice none 0 0, .slice none 0 0]), 2, 48) := by kernel_rfl

/-- The cells of a row of pairs. -/
structure PsOf (S : Nat → Prop) (W : World) (vs : List Value) (L : Pairs) : Prop where
  len : vs.length = L.length * 2
  at_ : ∀ j, j < L.length → ∃ kv xv, vs[j * 2]? = some kv ∧ vs[j * 2 + 1]? = some xv ∧ BIn S W kv (L.getD j ([], [])).1 ∧ BIn S W xv (L.getD j ([], [])).2
theorem PsOf.imp {S S' : Nat → Prop} {W : World} {vs : List Value} {L : Pairs} (h : PsOf S W vs L) (hS : ∀ b, b < W.heap.size → S b → S' b) : PsOf S' W vs L :=
  ⟨h.len, fun j hj => by obtain ⟨kv, xv, h1, h2, h3, h4⟩ := h.at_ j hj; exact ⟨kv, xv, h1, h2, h3.imp hS, h4.imp hS⟩⟩
theorem PsOf.carry {S : Nat → Prop} {W W1 : World} {vs : List Value} {L : Pairs} (h : PsOf S W vs L) (hs : W.heap.size ≤ W1.heap.size) (hb : ∀ b, S b → b < W.heap.size → W1.heap[b]? = W.heap[b]?) : PsOf S W1 vs L :=
  ⟨h.len, fun j hj => by obtain ⟨kv, xv, h1, h2, h3, h4⟩ := h.at_ j hj; exact ⟨kv, xv, h1, h2, h3.carry hs hb, h4.carry hs hb⟩⟩
theorem PsOf.snoc {S : Nat → Prop} {W : World} {vs : List Value} {L : Pairs} {k x : Bytes} {kv xv : Value} (h : PsOf S W vs L) (hk : BIn S W kv k) (hx : BIn S W xv x) : PsOf S W (vs ++ [kv, xv]) (L ++ [(k, x)]) := by
  refine ⟨by simp [h.len]; omega, fun j hj => ?_⟩
  rw [List.length_append, List.length_singleton] at hj
  by_cases hlt : j < L.length
  · obtain ⟨a, b, h1, h2, h3, h4⟩ := h.at_ j hlt
    have e : (L ++ [(k, x)]).getD j ([], []) = L.getD j ([], []) := by simp [List.getD_eq_getElem?_getD, List.getElem?_append_left hlt]
    rw [e]
    exact ⟨a, b, by rw [List.getElem?_append_left (by rw [h.len]; omega)]; exact h1, by rw [List.getElem?_append_left (by rw [h.len]; omega)]; exact h2, h3, h4⟩
  · obtain rfl : j = L.length := by omega
    have e : (L ++ [(k, x)]).getD L.length ([], []) = (k, x) := by simp [List.getD_eq_getElem?_getD]
    rw [e]
    exact ⟨kv, xv, by rw [List.getElem?_append_right (by rw [h.len]; omega), h.len]; simp, by rw [List.getElem?_append_right (by rw [h.len]; omega), h.len]; simp, hk, hx⟩

/-- A list on its way: its variable, its row, its pairs. -/
structure LstV (base ob : Nat) (W : World) (A : Option Addr) (c : Nat) (vs : List Value) (L : Pairs) : Prop where
  le : base ≤ ob
  var : W.heap[ob]? = some (.cells #[.slice A L.length c] 22 (0, 0))
  own : W.ownsRow base 34 2 (.slice A L.length c) L.length vs
  ne : (Value.slice A L.length c).ownBlock ≠ some ob
  ps : PsOf (fun b => base ≤ b ∧ b ≠ ob ∧ (Value.slice A L.length c).ownBlock ≠ some b) W vs L
def Lst (base ob : Nat) (W : World) (L : Pairs) : Prop := ∃ A c vs, LstV base ob W A c vs L ∧ A ≠ none

theorem own_below {w w1 : World} {base : Nat} {e : TypeId} {size n : Nat} {v : Value} {xs : List Value} (h : w.ownsRow base e size v n xs) (hb : Below w.heap.size w w1) : w1.ownsRow base e size v n xs :=
  h.kept (row := none) ⟨hb.os, hb.tape, hb.output, hb.size, fun i hi _ => hb.block i hi⟩ (by cases v.ownBlock <;> simp)
theorem own_set {w : World} {base : Nat} {e : TypeId} {size n : Nat} {v : Value} {xs : List Value} (h : w.ownsRow base e size v n xs) {g : Nat} (hg : v.ownBlock ≠ some g) (i : Nat) (u : Value) : (w.setCell ⟨g, i, none⟩ u).ownsRow base e size v n xs :=
  h.kept (row := some g) ⟨rfl, rfl, rfl, by simp, fun k hk hne => heap_setCell_other w _ k u (by intro e; exact hne (congrArg some e))⟩ (.inr hg)

theorem LstV.step {base ob : Nat} {W wa w1 : World} {A : Option Addr} {c : Nat} {vs : List Value} {L : Pairs} {kv xv : Value} {k x : Bytes} {g cap : Nat} {o : Obj} (h : LstV base ob W A c vs L) (hb : Below W.heap.size W wa)
    (hk : BIn (New W.heap.size) wa kv k) (hx : BIn (New W.heap.size) wa xv x) (hown : w1.ownsRow base 34 2 (.slice (some ⟨g, 0, none⟩) (L.length + 1) cap) (L.length + 1) (vs ++ [kv, xv]))
    (hgr : (wa.alloc o).grownBy w1 (Value.slice A L.length c).ownBlock) (hat : (Value.slice A L.length c).ownBlock = some g ∨ g = wa.heap.size + 1) :
    Lst base ob (w1.setCell ⟨ob, 0, none⟩ (.slice (some ⟨g, 0, none⟩) (L.length + 1) cap)) (L ++ [(k, x)]) ∧ Below base W (w1.setCell ⟨ob, 0, none⟩ (.slice (some ⟨g, 0, none⟩) (L.length + 1) cap)) := by
  have hobl := (Array.getElem?_eq_some_iff.1 h.var).1
  have hsz := hb.size
  have hle := h.le
  have hs1 : (wa.alloc o).heap.size = wa.heap.size + 1 := by simp
  have hgs := hgr.size
  have hown0 := fun k (e : (Value.slice A L.length c).ownBlock = some k) => h.own.lt k e
  have hgob : g ≠ ob := by
    rcases hat with e | e
    · intro e2; subst e2; exact h.ne e
    · omega
  -- a block of W that is none of the two
  have far : ∀ b, b < W.heap.size → b ≠ ob → (Value.slice A L.length c).ownBlock ≠ some b → (w1.setCell ⟨ob, 0, none⟩ (.slice (some ⟨g, 0, none⟩) (L.length + 1) cap)).heap[b]? = W.heap[b]? := by
    intro b hlt h1 h2
    rw [heap_setCell_other _ _ _ _ (by simpa using h1), hgr.block b (by omega) (fun e => h2 e.symm), Below.heap_alloc wa o b (by omega), hb.block b hlt]
  have far2 : ∀ b, New W.heap.size b → b < wa.heap.size → (w1.setCell ⟨ob, 0, none⟩ (.slice (some ⟨g, 0, none⟩) (L.length + 1) cap)).heap[b]? = wa.heap[b]? := by
    intro b hge hlt
    have hge' : W.heap.size ≤ b := hge
    rw [heap_setCell_other _ _ _ _ (by simp only; omega), hgr.block b (by omega) (fun e => by have := hown0 b e.symm; omega), Below.heap_alloc wa o b hlt]
  have hsize : W.heap.size ≤ (w1.setCell ⟨ob, 0, none⟩ (.slice (some ⟨g, 0, none⟩) (L.length + 1) cap)).heap.size := by simp; omega
  have hsize2 : wa.heap.size ≤ (w1.setCell ⟨ob, 0, none⟩ (.slice (some ⟨g, 0, none⟩) (L.length + 1) cap)).heap.size := by simp; omega
  have new : ∀ b, b < wa.heap.size → New W.heap.size b → base ≤ b ∧ b ≠ ob ∧ (Value.slice (some ⟨g, 0, none⟩) (L ++ [(k, x)]).length cap).ownBlock ≠ some b := by
    intro b hlt hge
    have hge' : W.heap.size ≤ b := hge
    refine ⟨by omega, by omega, ?_⟩
    simp only [Value.ownBlock]
    intro e
    cases e
    rcases hat with e | e
    · have := hown0 _ e; omega
    · omega
  refine ⟨⟨some ⟨g, 0, none⟩, cap, vs ++ [kv, xv], ⟨hle, ?_, ?_, ?_, ?_⟩, by simp⟩, ?_⟩
  · have e1 : w1.heap[ob]? = some (.cells #[.slice A L.length c] 22 (0, 0)) := by
      rw [hgr.block ob (by omega) (fun e => h.ne e.symm), Below.heap_alloc wa o ob (by omega), hb.block ob hobl]; exact h.var
    simp [World.setCell, Array.getElem?_modify, e1]
  · rw [List.length_append, List.length_singleton]
    exact own_set hown (by simp [Value.ownBlock]; exact hgob) _ _
  · simp [Value.ownBlock]; exact hgob
  · refine PsOf.snoc (PsOf.imp (PsOf.carry (S := fun b => (base ≤ b ∧ b ≠ ob ∧ (Value.slice A L.length c).ownBlock ≠ some b) ∧ b < W.heap.size) (h.ps.imp fun b hlt hb => ⟨hb, hlt⟩) hsize fun b hb hlt => far b hlt hb.1.2.1 hb.1.2.2) ?_) ?_ ?_
    · intro b _ hb
      refine ⟨hb.1.1, hb.1.2.1, ?_⟩
      simp only [Value.ownBlock]
      intro e
      cases e
      rcases hat with e | e
      · exact hb.1.2.2 e
      · have := hb.2; omega
    · exact BIn.imp (BIn.carry (S := fun b => New W.heap.size b ∧ b < wa.heap.size) (hk.imp fun b hlt hb => ⟨hb, hlt⟩) hsize2 fun b hb hlt => far2 b hb.1 hlt) fun b _ hb => new b hb.2 hb.1
    · exact BIn.imp (BIn.carry (S := fun b => New W.heap.size b ∧ b < wa.heap.size) (hx.imp fun b hlt hb => ⟨hb, hlt⟩) hsize2 fun b hb hlt => far2 b hb.1 hlt) fun b _ hb => new b hb.2 hb.1
  · exact ((((Below.refl _ W).trans ((hb.mono (Nat.le_trans hle (Nat.le_of_lt hobl))))).alloc (by omega) o).grown hgr (by simp; omega) (fun k e => (hown0 k e).1)).setCell (p := ⟨ob, 0, none⟩) hle _

/-- A list that the call has made. -/
structure OwnL (base : Nat) (W : World) (A : Option Addr) (n c : Nat) (vs : List Value) (L : Pairs) : Prop where
  is : A ≠ none
  len : L.length = n
  own : W.ownsRow base 34 2 (.slice A n c) n vs
  ps : PsOf (fun b => base ≤ b ∧ (Value.slice A n c).ownBlock ≠ some b) W vs L
theorem reads_own {base n c : Nat} {W : World} {A : Option Addr} {vs : List Value} {L : Pairs} {S S' : Nat → Prop} (ho : W.ownsRow base 34 2 (.slice A n c) n vs) (hp : PsOf S' W vs L) (hl : L.length = n)
    (hS' : ∀ b, b < W.heap.size → S' b → S b) (hS : ∀ b, base ≤ b → S b) : LIn S W A n L ∧ n ≤ c := by
  subst hl
  rcases ho.2 with ⟨hv, hn⟩ | ⟨g, cap, cur, hv, hb, hg, hc, hm, hs, ht⟩
  · injection hv with h1 h2 h3
    exact ⟨⟨rfl, fun h => by omega⟩, by omega⟩
  · injection hv with h1 h2 h3
    subst h1
    subst h3
    refine ⟨⟨rfl, fun hn => ⟨g, 0, rfl, (Array.getElem?_eq_some_iff.1 hg).1, hS g hb, fun j hj => ?_⟩⟩, hc⟩
    obtain ⟨kv, xv, e1, e2, e3, e4⟩ := hp.at_ j hj
    refine ⟨kv, xv, ?_, ?_, e3.imp hS', e4.imp hS'⟩
    · rw [Nat.zero_add, ho.cellAt _ (by omega)]; exact e1
    · rw [Nat.zero_add, ho.cellAt _ (by omega)]; exact e2

end Go.Proofs.Ytocideolihbnaaa
