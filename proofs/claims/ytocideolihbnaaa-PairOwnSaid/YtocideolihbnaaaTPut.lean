/- The contracts of put and Put, with the meter. -/
import Derived.Test.YtocideolihbnaaaTJoin
set_option linter.unusedVariables false
set_option linter.unusedSimpArgs false
namespace Go.Proofs.Ytocideolihbnaaa
open Go.RowKit

/-- What a call has done to the meter. -/
structure Met (m : Option Nat) (w w' : World) (vi co vi' co' lo hi : Nat) : Prop where
  kept : Kept m w w'
  at_ : MAt m w' vi' co'
  low : vi + lo ≤ vi'
  high : vi' ≤ vi + hi
  up : co ≤ co'
  fit : co' + vi ≤ co + vi'
theorem Met.trans {m : Option Nat} {w w1 w2 : World} {vi co vi1 co1 vi2 co2 lo hi lo' hi' : Nat} (h : Met m w w1 vi co vi1 co1 lo hi) (h' : Met m w1 w2 vi1 co1 vi2 co2 lo' hi') : Met m w w2 vi co vi2 co2 (lo + lo') (hi + hi') :=
  ⟨h.kept.trans h'.kept, h'.at_, by have := h.low; have := h'.low; omega, by have := h.high; have := h'.high; omega, Nat.le_trans h.up h'.up, by have := h.fit; have := h'.fit; omega⟩
theorem Met.of {m : Option Nat} {w w' : World} {vi co : Nat} (h : MAt m w vi co) (hb : Below w.heap.size w w') : Met m w w' vi co vi co 0 0 :=
  ⟨.of hb, h.below hb, by omega, by omega, Nat.le_refl _, by omega⟩
theorem Met.wide {m : Option Nat} {w w' : World} {vi co vi' co' lo hi lo' hi' : Nat} (h : Met m w w' vi co vi' co' lo hi) (hl : lo' ≤ lo) (hh : hi ≤ hi') : Met m w w' vi co vi' co' lo' hi' :=
  ⟨h.kept, h.at_, by have := h.low; omega, by have := h.high; omega, h.up, h.fit⟩
theorem Kept.drew2 {m : Option Nat} {w w' : World} (h : Kept m w w') : Kept m w w'.drew := h.drew
def MadeM (S : Nat → Prop) (m : Option Nat) (w w' : World) (e : Ending) (L : Pairs) (vi co lo hi : Nat) : Prop :=
  ∃ u T vi' co', e = .returned (.pointer u) ∧ T.list = L ∧ T.even ∧ TIn (Up S w.heap.size) w' (.pointer u) T ∧ Met m w w' vi co vi' co' lo hi
theorem MAt.lt {m : Option Nat} {w : World} {vi co : Nat} (h : MAt m w vi co) : ∀ b, m = some b → b < w.heap.size := fun b e => (Array.getElem?_eq_some_iff.1 (h b e)).1
theorem up_far {S : Nat → Prop} {m : Option Nat} {w : World} {vi co n : Nat} (h : MAt m w vi co) (hn : w.heap.size ≤ n) (hS : ∀ b, S b → m ≠ some b) : ∀ b, Up S n b → m ≠ some b := fun b hb e => by
  rcases hb with hb | hb
  · exact hS b hb e
  · have := h.lt b e; omega
theorem PIn.kx {S : Nat → Prop} {w : World} {A A' : Option Addr} {n n' c c' : Nat} {k x : Bytes} (h : PIn S w (.agg #[.slice A n c, .slice A' n' c']) k x) : BIn S w (.slice A n c) k ∧ BIn S w (.slice A' n' c') x := by
  obtain ⟨kv, xv, e, h1, h2⟩ := h
  injection e with e
  injection e with e
  injection e with e1 e2
  injection e2 with e2 e3
  subst e1 e2
  exact ⟨h1, h2⟩

namespace PT
/-- The pairs of a tree with one put in, along the keys. -/
def putL : PT → Bytes → Bytes → Pairs
  | nil, key, v => [(key, v)]
  | node l k x r, key, v => if Lib.compareBytes key k = 0 then l.list ++ (key, v) :: r.list else if Lib.compareBytes key k = 1 then l.list ++ (k, x) :: r.putL key v else l.putL key v ++ (k, x) :: r.list
theorem putL_len : ∀ (T : PT) (key v : Bytes), (T.putL key v).length ≤ T.size + 1
  | nil, key, v => by simp [putL, size]
  | node l k x r, key, v => by
    have h1 := l.putL_len key v
    have h2 := r.putL_len key v
    have h3 := l.size_list
    have h4 := r.size_list
    unfold putL
    simp only [size]
    split
    · simp; omega
    · split <;> (simp; omega)
end PT

end Go.Proofs.Ytocideolihbnaaa
