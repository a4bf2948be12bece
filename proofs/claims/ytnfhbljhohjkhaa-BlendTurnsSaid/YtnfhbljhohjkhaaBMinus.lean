/- blend.Minus. -/
import Derived.Test.YtnfhbljhohjkhaaBPlain
set_option linter.unusedVariables false
set_option linter.unusedSimpArgs false
namespace Go.Proofs.Ytnfhbljhohjkhaa
open Go.RowKit

abbrev All : Nat → Prop := fun _ => True
theorem TIn.all {S : Nat → Prop} {w : World} {v : Value} {T : PT} (h : TIn S w v T) : TIn All w v T := h.imp fun _ _ _ => trivial

/-- What a blend tells. -/
def BlendR (f : Option Bytes → Option Bytes → Option Bytes) (A B : Pairs) (m : Nat) (w w' : World) (e : Ending) : Prop :=
  ∃ u T, e = .returned (.pointer u) ∧ Hid (T.even ∧ TIn All w' (.pointer u) T ∧ Blends f A B T.list ∧ T.size ≤ m ∧ Below w.heap.size w w')

theorem cut_less {T : PT} {k : Bytes} (h : Asc T.list) : (lessM T.list k).length + (moreM T.list k).length ≤ T.size := by
  have := T.cutL_len k
  rw [(cut_plain T k h).1, (cut_plain T k h).2] at this
  exact this

theorem minus_nil (A : Pairs) (hA : Asc A) : Blends fMinus A [] A := ⟨hA, fun key => rfl⟩
theorem minus_nil' (B : Pairs) : Blends fMinus [] B [] := ⟨List.Pairwise.nil, fun key => by
  show none = fMinus none _
  unfold fMinus; split <;> rfl⟩

set_option maxRecDepth 100000 in
set_option maxHeartbeats 3200000 in
theorem minus_any : ∀ (B A : PT) (v1 v2 : Value) (w : World), TIn All w v1 A → TIn All w v2 B → A.even → B.even → Asc A.list → Asc B.list → A.size + B.size ≤ 200000 → B.height ≤ 200000 →
    Calls Try.prog 35 #[v1, v2] w fun e w' => BlendR fMinus A.list B.list A.size w w' e := by
  intro B
  induction B with
  | nil =>
    intro A v1 v2 w h1 h2 e1 _ a1 _ _ _
    obtain rfl : v2 = .pointer none := h2
    obtain ⟨u, rfl⟩ := h1.ptr
    have HR : Hid (BlendR fMinus A.list PT.nil.list A.size w w (.returned (.pointer u))) := ⟨u, A, rfl, Lib.hid ⟨e1, h1, minus_nil _ a1, Nat.le_refl _, Below.refl _ _⟩⟩
    cases A with
    | nil =>
      obtain rfl : u = none := by cases h1; rfl
      clear h1
      go_enter Try.func35, Try.ntmps35
      go_wp2_with fail
      go_ret
      exact HR.out
    | node al ak ax ar =>
      obtain ⟨pa, rfl⟩ : ∃ pa, u = some pa := by obtain ⟨b, _, _, _, _, e, _⟩ := h1; cases e; exact ⟨_, rfl⟩
      clear h1
      go_enter Try.func35, Try.ntmps35
      go_wp2_with fail
      go_ret
      exact HR.out
  | node l k x r ihl ihr =>
    intro A v1 v2 w h1 h2 e1 e2 a1 a2 hn hh
    obtain ⟨pb, rfl⟩ : ∃ pb, v2 = .pointer (some pb) := by obtain ⟨b, _, _, _, _, e, _⟩ := h2; exact ⟨_, e⟩
    obtain ⟨u, rfl⟩ := h1.ptr
    cases A with
    | nil =>
      obtain rfl : u = none := by cases h1; rfl
      have HR : Hid (BlendR fMinus PT.nil.list (PT.node l k x r).list PT.nil.size w w (.returned (.pointer none))) := ⟨none, .nil, rfl, Lib.hid ⟨e1, h1, minus_nil' _, Nat.le_refl _, Below.refl _ _⟩⟩
      clear h1 h2 ihl ihr
      go_enter Try.func35, Try.ntmps35
      go_wp2_with fail
      go_ret
      exact HR.out
    | node al ak ax ar =>
      obtain ⟨pa, rfl⟩ : ∃ pa, u = some pa := by obtain ⟨b, _, _, _, _, e, _⟩ := h1; cases e; exact ⟨_, rfl⟩
      generalize hAA : PT.node al ak ax ar = A at *
      clear hAA al ak ax ar
      have H1 := Lib.hid (fun W (h : Below w.heap.size w W) => h1.below h)
      have H2 := Lib.hid (fun W (h : Below w.heap.size w W) => h2.below h)
      have HEV := Lib.hid (And.intro e1 (show evenB l.size r.size = true ∧ l.even ∧ r.even from e2))
      obtain ⟨hal, har, _, _⟩ := node_asc a2
      have HAS := Lib.hid (And.intro a1 (And.intro a2 (And.intro hal har)))
      have IL := Lib.hid ihl
      have IR := Lib.hid ihr
      have HN : Hid (A.size + (l.size + 1 + r.size) ≤ 200000) := hn
      have HCL := Lib.hid (cut_less (T := A) (k := k) a1)
      have HCP := Lib.hid (cut_plain A k a1)
      have HBL : Hid (∀ L' R' : Pairs, Blends fMinus (lessM A.list k) l.list L' → Blends fMinus (moreM A.list k) r.list R' → Blends fMinus A.list (PT.node l k x r).list (L' ++ R')) := fun L' R' g1 g2 => by
        have := blends_node (f := fMinus) rfl a2 g1 g2
        exact this
      clear h1 h2 e1 e2 a1 a2 hal har ihl ihr hn hh
      go_enter Try.func35, Try.ntmps35
      go_wp2_with fail
      refine (root_any (.pointer (some pb)) (.node l k x r) w (H2.out w (Below.refl _ _))).mono ?_
      rintro e w1 ⟨u, rfl, hu, hb1⟩
      obtain ⟨kv1, xv1, rfl, hk, hx⟩ := hu
      obtain ⟨Ak, nk, ck, rfl⟩ := hk.slice
      obtain ⟨Ax, nx, cx, rfl⟩ := hx.slice
      have HB1 := Lib.hid hb1
      have HK1 := Lib.hid hk
      have hfl := fun W => fld39 W Ak Ax nk nx ck cx
      clear hk hx hb1
      go_wp2_with fail
      refine (At_any (S := All) k A (.pointer (some pa)) (.slice Ak nk ck) w1 (H1.out w1 HB1.out) HK1.out HEV.out.1 (by have := HN.out; omega)).mono ?_
      rintro e w2 ⟨u1, u2, Av, nv, cv, ok, TL, TR, rfl, H4⟩
      have HB2 : Hid (Below w.heap.size w w2) := HB1.out.trans (H4.out.2.2.2.2.2.2.2.2.mono HB1.out.size)
      have HTL : Hid (TL.list = lessM A.list k ∧ TR.list = moreM A.list k ∧ TL.even ∧ TR.even ∧ TIn All w2 (.pointer u1) TL ∧ TIn All w2 (.pointer u2) TR ∧ TL.size + TR.size ≤ A.size) := by
        have q1 : TL.list = lessM A.list k := H4.out.2.1.trans HCP.out.1
        have q2 : TR.list = moreM A.list k := H4.out.2.2.1.trans HCP.out.2
        refine ⟨q1, q2, H4.out.2.2.2.1, H4.out.2.2.2.2.1, H4.out.2.2.2.2.2.1.all, H4.out.2.2.2.2.2.2.1.all, ?_⟩
        have := HCL.out
        rw [← q1, ← q2, PT.size_list, PT.size_list] at this
        exact this
      clear H4
      go_wp2_with fail
      refine (left_any (.node l k x r) (.pointer (some pb)) w2 (H2.out w2 HB2.out)).mono ?_
      rintro e w3 ⟨u3, rfl, hu3, rfl⟩
      obtain ⟨lu, rfl⟩ := hu3.ptr
      have HU3 := Lib.hid hu3
      clear hu3
      have HM1 := Lib.hid (IL.out TL (.pointer u1) (.pointer lu) w2 HTL.out.2.2.2.2.1 HU3.out HTL.out.2.2.1 HEV.out.2.2.1 (by rw [HTL.out.1]; exact less_asc k HAS.out.1) HAS.out.2.2.1 (by have h1 := HTL.out.2.2.2.2.2.2; have h2 := HN.out; omega) (by have h1 := l.height_le; have h2 := HN.out; omega))
      go_wp2_with fail
      refine HM1.out.mono ?_
      rintro e w4 ⟨u4, T4, rfl, h4⟩
      have HB4 : Hid (Below w.heap.size w w4) := HB2.out.trans (h4.out.2.2.2.2.mono HB2.out.size)
      go_wp2_with fail
      refine (right_any (.node l k x r) (.pointer (some pb)) w4 (H2.out w4 HB4.out)).mono ?_
      rintro e w5 ⟨u5, rfl, hu5, rfl⟩
      obtain ⟨ru, rfl⟩ := hu5.ptr
      have HU5 := Lib.hid hu5
      clear hu5
      have HM2 := Lib.hid (IR.out TR (.pointer u2) (.pointer ru) w4 (HTL.out.2.2.2.2.2.1.below h4.out.2.2.2.2) HU5.out HTL.out.2.2.2.1 HEV.out.2.2.2 (by rw [HTL.out.2.1]; exact more_asc k HAS.out.1) HAS.out.2.2.2 (by have h1 := HTL.out.2.2.2.2.2.2; have h2 := HN.out; omega) (by have h1 := r.height_le; have h2 := HN.out; omega))
      go_wp2_with fail
      refine HM2.out.mono ?_
      rintro e w6 ⟨u6, T6, rfl, h6⟩
      have HB6 : Hid (Below w.heap.size w w6) := HB4.out.trans (h6.out.2.2.2.2.mono HB4.out.size)
      have HSZ : Hid (T4.size + T6.size ≤ A.size) := by have h1 := HTL.out.2.2.2.2.2.2; have h2 := h4.out.2.2.2.1; have h3 := h6.out.2.2.2.1; exact (by omega : T4.size + T6.size ≤ A.size)
      have HPA := Lib.hid (Pair_any (S := All) none (fun _ _ => by simp) T4 T6 (.pointer u4) (.pointer u6) 0 0 w6 (h4.out.2.1.below h6.out.2.2.2.2) h6.out.2.1 (fun b e => by cases e) h4.out.1 h6.out.1 (by have h1 := HSZ.out; have h2 := HN.out; omega) (by have h1 := T6.height_le; have h2 := HSZ.out; have h3 := HN.out; omega))
      go_wp2_with fail
      refine HPA.out.mono ?_
      rintro e w7 ⟨u7, T7, vi, co, rfl, k1, k2, k3, k4⟩
      have HRES : Hid (BlendR fMinus A.list (PT.node l k x r).list A.size w w7 (.returned (.pointer u7))) := by
        refine ⟨u7, T7, rfl, Lib.hid ⟨k2, k3.all, ?_, ?_, ?_⟩⟩
        · rw [k1]
          refine HBL.out _ _ ?_ ?_
          · rw [← HTL.out.1]; exact h4.out.2.2.1
          · rw [← HTL.out.2.1]; exact h6.out.2.2.1
        · have := PT.size_of k1
          rw [List.length_append, PT.size_list, PT.size_list] at this
          have h1 := HSZ.out
          omega
        · exact HB6.out.trans (k4.kept.to.mono HB6.out.size)
      clear k1 k2 k3 k4
      go_wp2_with fail
      go_ret
      exact HRES.out

end Go.Proofs.Ytnfhbljhohjkhaa
