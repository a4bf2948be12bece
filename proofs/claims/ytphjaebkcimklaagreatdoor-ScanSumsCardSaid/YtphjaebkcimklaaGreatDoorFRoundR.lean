/- A drawn region inside a round, by the words for one outside. -/
import Derived.Test.YtphjaebkcimklaaGreatDoorMgq
import Derived.Test.YtphjaebkcimklaaGreatDoorWLast
set_option linter.unusedVariables false
set_option linter.unusedSimpArgs false
namespace Go.Proofs.YtphjaebkcimklaaGreatDoor
open Go Go.RowKit Go.Proofs.YtphjaebkcimklaaGreatDoorW.PrintLast
section
variable {P : Program} {ops : Array Oper} {Q : Exit → Act → World → Prop} {md : Region.Mode} {l n : Nat} {S : World → Prop} {ds : List Nat}
theorem op_round {o : Oper} {a : Act} {w : World} {K : Act → World → Prop} (hd : ∀ c, o.op ≠ .defer c) (h : o.wp P a w K Q) : o.wpIn (Fence.wide.inRound l) n P a w K Q := by
  refine ⟨fun _ _ => trivial, ?_⟩
  unfold Oper.wp at h
  rw [show (Fence.wide.inRound l).round = some l from rfl, Oper.semAt_some l a.eval o hd]
  generalize (execOp a.eval o).run P w = r at *
  cases r with
  | ok x w' =>
    cases x <;> simp only [Oper.upon, Oper.uponIn] at h ⊢ <;>
      first
        | exact h
        | exact ⟨fun h => by simp [Fence.inRound, Fence.wide] at h, CallsIn.inRound l (callsIn_wide.2 h)⟩
        | exact ⟨fun h => by simp [Fence.inRound, Fence.wide] at h, fun c cs _ => by
            obtain ⟨v, w2, r, s⟩ := h c cs
            exact ⟨v, w2, r, stepsIn_wide.2 s⟩⟩
  | halt x w' => cases x <;> simp only [Oper.upon, Oper.uponIn] at h ⊢ <;> exact h
theorem any_round (hQ : ¬ LetsOut Q) (hd : ∀ (i : Nat) (o : Oper), ops[i]? = some o → ∀ c, o.op ≠ .defer c) : ∀ (fuel : Nat) (listed : Array Bool) (a : Act) (w : World),
    wpAny P md ops Q fuel listed a w → wpAnyIn (Fence.wide.inRound l) n P md ops Q fuel listed a w
  | 0, _, _, _, h => h
  | fuel + 1, listed, a, w, h => ⟨h.1, fun i hi => by
    have hop := h.2 i hi
    unfold wpOp at hop
    unfold wpOpIn
    cases ho : ops[i]? with
    | none => simp only [ho] at hop ⊢; exact any_round hQ hd fuel _ a w hop
    | some o =>
      simp only [ho] at hop ⊢
      by_cases hw : Region.wanted o (yielded ops a.tmps) = true
      · rw [if_pos hw] at hop ⊢
        rcases hop with hop | hop
        · exact Oper.wpIn_mono (fun a' w' h' => any_round hQ hd fuel _ a' w' h') (op_round (hd i o ho) hop)
        · exact absurd hop.2 hQ
      · rw [if_neg hw] at hop ⊢
        exact ⟨fun _ _ => trivial, any_round hQ hd fuel _ _ w hop⟩⟩
theorem rstart_ {id k : Nat} {a : Act} {w : World} (L : Array Bool) (hQ : ¬ LetsOut Q) (hd : (ops.toList.all fun o => match o.op with | .defer _ => false | _ => true) = true) (hm : P.follows .mixedOrders = true) (hn : ops.size = k) (hl : Array.replicate k false = L) (hS : S w.drew)
    (h : S w.drew → wpAnyLast P .any ops Q S ds k L a w.drew) : (Code.region id ops true).wpIn (Fence.wide.inRound l) n P Q a w := by
  subst hn
  subst hl
  refine wpIn_region_any hm (any_round hQ (fun i o ho c e => ?_) _ _ _ _ (wpAny_of_last _ _ _ _ (h hS)))
  have hm2 : o ∈ ops.toList := List.mem_of_getElem? (by simpa using ho)
  have := List.all_eq_true.1 hd o hm2
  rw [e] at this
  cases this
end
end Go.Proofs.YtphjaebkcimklaaGreatDoor
