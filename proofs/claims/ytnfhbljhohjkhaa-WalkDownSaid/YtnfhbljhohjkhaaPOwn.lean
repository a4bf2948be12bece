/- The package pair: Own: the same pairs in new memory. -/
import Derived.Test.YtnfhbljhohjkhaaTOpen
import Derived.Test.YtnfhbljhohjkhaaSRow
set_option linter.unusedVariables false
set_option linter.unusedSimpArgs false
namespace Go.Proofs.Ytnfhbljhohjkhaa
open Go.RowKit

theorem OwnL.below {base n c : Nat} {W W1 : World} {A : Option Addr} {vs : List Value} {L : Pairs} (h : OwnL base W A n c vs L) (hb : Below W.heap.size W W1) : OwnL base W1 A n c vs L :=
  ⟨h.is, h.len, own_below h.own hb, h.ps.carry hb.size fun b _ hlt => hb.block b hlt⟩
theorem OwnL.snoc {base n c c' : Nat} {W w1 : World} {A A' : Option Addr} {vs : List Value} {L : Pairs} {kv xv : Value} {k x : Bytes} (h : OwnL base W A n c vs L) (hbase : base ≤ W.heap.size)
    (hk : BIn (fun b => base ≤ b ∧ (Value.slice A n c).ownBlock ≠ some b) W kv k) (hx : BIn (fun b => base ≤ b ∧ (Value.slice A n c).ownBlock ≠ some b) W xv x)
    (hown : w1.ownsRow base 40 2 (.slice A' (n + 1) c') (n + 1) (vs ++ [kv, xv])) (hg : W.grownBy w1 (Value.slice A n c).ownBlock)
    (ho : (Value.slice A' (n + 1) c').ownBlock = (Value.slice A n c).ownBlock ∨ (Value.slice A' (n + 1) c').ownBlock = some W.heap.size) : OwnL base w1 A' (n + 1) c' (vs ++ [kv, xv]) (L ++ [(k, x)]) := by
  refine ⟨?_, by rw [List.length_append, h.len]; rfl, hown, ?_⟩
  · rcases hown.2 with ⟨hv, hn⟩ | ⟨g, cap, cur, hv, _⟩
    · omega
    · injection hv with h1 h2 h3; rw [h1]; simp
  · have hp := (h.ps.snoc hk hx).grown hg (fun b hb _ e => hb.2 e)
    refine ⟨hp.len, fun j hj => ?_⟩
    obtain ⟨a, b, h1, h2, h3, h4⟩ := (h.ps.snoc hk hx).at_ j hj
    have mv : ∀ {v : Value} {l : Bytes}, BIn (fun b => base ≤ b ∧ (Value.slice A n c).ownBlock ≠ some b) W v l → BIn (fun b => base ≤ b ∧ (Value.slice A' (n + 1) c').ownBlock ≠ some b) w1 v l := fun {v l} hb => by
      have hb2 := hb.imp (S' := fun b => (base ≤ b ∧ (Value.slice A n c).ownBlock ≠ some b) ∧ b < W.heap.size) fun b hlt hS => ⟨hS, hlt⟩
      refine (hb2.grown hg (fun b hb _ e => hb.1.2 e)).imp fun b _ hS => ⟨hS.1.1, fun e => ?_⟩
      rcases ho with ho | ho
      · rw [ho] at e; exact hS.1.2 e
      · rw [ho] at e; injection e with e; omega
    exact ⟨a, b, h1, h2, mv h3, mv h4⟩
theorem take_snoc' (L : Pairs) (j : Nat) (h : j < L.length) : L.take (j + 1) = L.take j ++ [((L.getD j ([], [])).1, (L.getD j ([], [])).2)] := by
  rw [List.take_succ_eq_append_getElem h, List.getD_eq_getElem?_getD, List.getElem?_eq_getElem h]
  rfl

end Go.Proofs.Ytnfhbljhohjkhaa
