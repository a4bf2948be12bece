/- blend.Both: the pairs of the first whose keys the second holds. -/
import Derived.Test.YtnfhbljhohjkhaaBMinus
set_option linter.unusedVariables false
set_option linter.unusedSimpArgs false
namespace Go.Proofs.Ytnfhbljhohjkhaa
open Go.RowKit Go.Deep

theorem both_nil (A : Pairs) : Blends fBoth A [] [] := ⟨List.Pairwise.nil, fun key => by
  show none = fBoth _ none
  unfold fBoth; split <;> rfl⟩
theorem both_nil' (B : Pairs) : Blends fBoth [] B [] := ⟨List.Pairwise.nil, fun key => by
  show none = fBoth none _
  rfl⟩

set_option maxRecDepth 100000 in
set_option maxHeartbeats 3200000 in
theorem both_any : ∀ (B A : PT) (v1 v2 : Value) (w : World), TIn All w v1 B → TIn All w v2 A → B.even → A.even → Asc B.list → Asc A.list → A.size + B.size ≤ 200000 →
    Calls Try.prog 36 #[v1, v2] w fun e w' => BlendR fBoth A.list B.list (A.size + B.size) w w' e := by
  intro B
  induction B with
  | nil =>
    intro A v1 v2 w h1 h2 e1 _ a1 _ _
    obtain rfl : v1 = .pointer none := h1
    obtain ⟨u, rfl⟩ := h2.ptr
    have HR : Hid (BlendR fBoth A.list PT.nil.list (A.size + PT.nil.size) w w (.returned (.pointer none))) := ⟨none, .nil, rfl, Lib.hid ⟨trivial, rfl, both_nil _, Nat.zero_le _, Below.refl _ _⟩⟩
    clear h2
    go_enter Try.func36, Try.ntmps36
    go_wp2_with fail
    go_ret
    exact HR.out
  | node l k x r ihl ihr =>
    intro A v1 v2 w h1 h2 e1 e2 a1 a2 hn
    obtain ⟨pb, rfl⟩ : ∃ pb, v1 = .pointer (some pb) := by obtain ⟨b, _, _, _, _, e, _⟩ := h1; exact ⟨_, e⟩
    obtain ⟨u, rfl⟩ := h2.ptr
    cases A with
    | nil =>
      obtain rfl : u = none := by cases h2; rfl
      have HR : Hid (BlendR fBoth PT.nil.list (PT.node l k x r).list (PT.nil.size + (PT.node l k x r).size) w w (.returned (.pointer none))) := ⟨none, .nil, rfl, Lib.hid ⟨trivial, rfl, both_nil' _, Nat.zero_le _, Below.refl _ _⟩⟩
      clear h1 h2 ihl ihr
      go_enter Try.func36, Try.ntmps36
      go_wp2_with fail
      go_ret
      exact HR.out
    | node al ak ax ar =>
      obtain ⟨pa, rfl⟩ : ∃ pa, u = some pa := by obtain ⟨b, _, _, _, _, e, _⟩ := h2; cases e; exact ⟨_, rfl⟩
      generalize hAA : PT.node al ak ax ar = A at *
      clear hAA al ak ax ar
      have H1 := Lib.hid (fun W (h : Below w.heap.size w W) => h2.below h)
      have H2 := Lib.hid (fun W (h : Below w.heap.size w W) => h1.below h)
      have HEV := Lib.hid (And.intro e2 (show evenB l.size r.size = true ∧ l.even ∧ r.even from e1))
      obtain ⟨hal, har, _, _⟩ := node_asc a1
      have HAS := Lib.hid (And.intro a2 (And.intro a1 (And.intro hal har)))
      have IL := Lib.hid ihl
      have IR := Lib.hid ihr
      have HN : Hid (A.size + (l.size + 1 + r.size) ≤ 200000) := hn
      have HCL := Lib.hid (cut_less (T := A) (k := k) a2)
      have HCP := Lib.hid (cut_plain A k a2)
      have HGP : Hid (A.get k = getM A.list k) := get_plain A k a2
      have HBL : Hid (∀ L' R' : Pairs, Blends fBoth (lessM A.list k) l.list L' → Blends fBoth (moreM A.list k) r.list R' → Blends fBoth A.list (PT.node l k x r).list (L' ++ midL k (fBoth (getM A.list k) (some x)) R')) := fun L' R' g1 g2 =>
        blends_node (f := fBoth) rfl a1 g1 g2
      clear h1 h2 e1 e2 a1 a2 hal har ihl ihr hn
      go_enter Try.func36, Try.ntmps36
      go_wp2_with fail
      refine (root_any (.pointer (some pb)) (.node l k x r) w (H2.out w (Below.refl _ _))).mono ?_
      rintro e w1 ⟨u, rfl, hu, hb1⟩
      obtain ⟨kv1, xv1, rfl, hk, hx⟩ := hu
      obtain ⟨Ak, nk, ck, rfl⟩ := hk.slice
      obtain ⟨Ax, nx, cx, rfl⟩ := hx.slice
      have hbn : Below w1.heap.size w1 (w1.alloc (.cells #[.slice Ak nk ck, .slice Ax nx cx] 40)) := (Below.refl _ _).alloc (Nat.le_refl _) _
      have htw : Two (w1.alloc (.cells #[.slice Ak nk ck, .slice Ax nx cx] 40)) w1.heap.size (.slice Ak nk ck) (.slice Ax nx cx) := heap_new w1 _
      have HX : Hid (Below w.heap.size w (w1.alloc (.cells #[.slice Ak nk ck, .slice Ax nx cx] 40)) ∧ BIn All (w1.alloc (.cells #[.slice Ak nk ck, .slice Ax nx cx] 40)) (.slice Ak nk ck) k ∧ BIn All (w1.alloc (.cells #[.slice Ak nk ck, .slice Ax nx cx] 40)) (.slice Ax nx cx) x) :=
        ⟨hb1.trans (hbn.mono hb1.size), (hk.below hbn).imp (fun _ _ _ => trivial), (hx.below hbn).imp (fun _ _ _ => trivial)⟩
      have HTW := Lib.hid htw
      have hgl : Hid (w1.heap.size < (w1.alloc (.cells #[.slice Ak nk ck, .slice Ax nx cx] 40)).heap.size) := (by simp : w1.heap.size < (w1.alloc (.cells #[.slice Ak nk ck, .slice Ax nx cx] 40)).heap.size)
      clear hk hx hb1 hbn htw
      go_upto_region 4 with fail
      generalize w1.heap.size = g at *
      generalize w1.alloc (.cells #[.slice Ak nk ck, .slice Ax nx cx] 40) = X at *
      have HC : Hid (∀ W, Below X.heap.size X W → W.cell? ⟨g, 0, none⟩ = some (.slice Ak nk ck) ∧ W.cell? ⟨g, 1, none⟩ = some (.slice Ax nx cx)) := fun W h => (HTW.out.below h hgl.out).cells
      obtain ⟨b0, b1⟩ := HC.out X (Below.refl _ _)
      have HAT := Lib.hid (At_any (S := All) k A (.pointer (some pa)) (.slice Ak nk ck) X (H1.out X HX.out.1) HX.out.2.1 HEV.out.1 (by have := HN.out; omega))
      go_wp2_with fail
      refine HAT.out.mono ?_
      rintro e w2 ⟨u1, u2, Av, nv, cv, ok, TL, TR, rfl, H4⟩
      have HB2 : Hid (Below w.heap.size w w2) := HX.out.1.trans (H4.out.2.2.2.2.2.2.2.2.mono HX.out.1.size)
      have HX2 : Hid (Below X.heap.size X w2) := H4.out.2.2.2.2.2.2.2.2
      have HOK : Hid (ok = (getM A.list k).isSome) := by rw [← HGP.out]; exact H4.out.1
      have HTL : Hid (TL.list = lessM A.list k ∧ TR.list = moreM A.list k ∧ TL.even ∧ TR.even ∧ TIn All w2 (.pointer u1) TL ∧ TIn All w2 (.pointer u2) TR ∧ TL.size + TR.size ≤ A.size) := by
        have q1 : TL.list = lessM A.list k := H4.out.2.1.trans HCP.out.1
        have q2 : TR.list = moreM A.list k := H4.out.2.2.1.trans HCP.out.2
        refine ⟨q1, q2, H4.out.2.2.2.1, H4.out.2.2.2.2.1, H4.out.2.2.2.2.2.1.all, H4.out.2.2.2.2.2.2.1.all, ?_⟩
        have := HCL.out
        rw [← q1, ← q2, PT.size_list, PT.size_list] at this
        exact this
      clear H4 b0 b1 HAT
      go_wp2_with fail
      refine (left_any (.node l k x r) (.pointer (some pb)) w2 (H2.out w2 HB2.out)).mono ?_
      rintro e w3 ⟨u3, rfl, hu3, rfl⟩
      obtain ⟨lu, rfl⟩ := hu3.ptr
      have HU3 := Lib.hid hu3
      clear hu3
      have HM1 := Lib.hid (IL.out TL (.pointer lu) (.pointer u1) w2 HU3.out HTL.out.2.2.2.2.1 HEV.out.2.2.1 HTL.out.2.2.1 HAS.out.2.2.1 (by rw [HTL.out.1]; exact less_asc k HAS.out.1) (by have h1 := HTL.out.2.2.2.2.2.2; have h2 := HN.out; omega))
      go_wp2_with fail
      refine HM1.out.mono ?_
      rintro e w4 ⟨u4, T4, rfl, h4⟩
      have HB4 : Hid (Below w.heap.size w w4) := HB2.out.trans (h4.out.2.2.2.2.mono HB2.out.size)
      go_wp2_with fail
      refine (right_any (.node l k x r) (.pointer (some pb)) w4 (H2.out w4 HB4.out)).mono ?_
      rintro e w5 ⟨u5, rfl, hu5, rfl⟩
      obtain ⟨ru, rfl⟩ := hu5.ptr
      have HU5 := Lib.hid hu5
      clear hu5
      have HM2 := Lib.hid (IR.out TR (.pointer ru) (.pointer u2) w4 HU5.out (HTL.out.2.2.2.2.2.1.below h4.out.2.2.2.2) HEV.out.2.2.2 HTL.out.2.2.2.1 HAS.out.2.2.2 (by rw [HTL.out.2.1]; exact more_asc k HAS.out.1) (by have h1 := HTL.out.2.2.2.2.2.2; have h2 := HN.out; omega))
      go_wp2_with fail
      refine HM2.out.mono ?_
      rintro e w6 ⟨u6, T6, rfl, h6⟩
      have HB6 : Hid (Below w.heap.size w w6) := HB4.out.trans (h6.out.2.2.2.2.mono HB4.out.size)
      have HX6 : Hid (Below X.heap.size X w6) := (HX2.out.trans (h4.out.2.2.2.2.mono HX2.out.size)).trans (h6.out.2.2.2.2.mono (Nat.le_trans HX2.out.size h4.out.2.2.2.2.size))
      have HSZ : Hid (T4.size + T6.size ≤ A.size + (l.size + r.size)) := by have h1 := HTL.out.2.2.2.2.2.2; have h2 := h4.out.2.2.2.1; have h3 := h6.out.2.2.2.1; exact (by omega : T4.size + T6.size ≤ A.size + (l.size + r.size))
      obtain ⟨b0, b1⟩ := HC.out w6 HX6.out
      cases hok : ok with
      | true =>
        have HMD : Hid (midL k (fBoth (getM A.list k) (some x)) T6.list = (k, x) :: T6.list) := by
          have h := HOK.out
          rw [hok] at h
          unfold fBoth; rw [if_pos h.symm]; exact rfl
        have HJ := Lib.hid (Join_any (S := All) T4 T6 (.pointer u4) (.agg #[.slice Ak nk ck, .slice Ax nx cx]) (.pointer u6) k x w6 (h4.out.2.1.below h6.out.2.2.2.2) ⟨_, _, rfl, HX.out.2.1.below HX6.out, HX.out.2.2.below HX6.out⟩ h6.out.2.1 (by have h1 := HSZ.out; have h2 := HN.out; omega) h4.out.1 h6.out.1)
        go_wp2_with fail
        refine HJ.out.mono ?_
        rintro e w7 ⟨u7, T7, rfl, k1, k2, k3, k4⟩
        have HRES : Hid (BlendR fBoth A.list (PT.node l k x r).list (A.size + (PT.node l k x r).size) w w7 (.returned (.pointer u7))) := by
          refine ⟨u7, T7, rfl, Lib.hid ⟨k2, k3.all, ?_, ?_, HB6.out.trans (k4.mono HB6.out.size)⟩⟩
          · rw [k1, ← HMD.out]
            refine HBL.out _ _ ?_ ?_
            · rw [← HTL.out.1]; exact h4.out.2.2.1
            · rw [← HTL.out.2.1]; exact h6.out.2.2.1
          · have := PT.size_of k1
            rw [List.length_append, List.length_cons, PT.size_list, PT.size_list] at this
            have h1 := HSZ.out
            simp only [PT.size]
            omega
        clear k1 k2 k3 k4 b0 b1
        go_wp2_with fail
        go_ret
        exact HRES.out
      | false =>
        have HMD : Hid (midL k (fBoth (getM A.list k) (some x)) T6.list = T6.list) := by
          have h := HOK.out
          rw [hok] at h
          unfold fBoth; rw [if_neg (by rw [← h]; decide)]; exact rfl
        have HPA := Lib.hid (Pair_any (S := All) none (fun _ _ => by simp) T4 T6 (.pointer u4) (.pointer u6) 0 0 w6 (h4.out.2.1.below h6.out.2.2.2.2) h6.out.2.1 (fun b e => by cases e) h4.out.1 h6.out.1 (by have h1 := HSZ.out; have h2 := HN.out; omega) (by have h1 := T6.height_le; have h2 := HSZ.out; have h3 := HN.out; omega))
        go_wp2_with fail
        refine HPA.out.mono ?_
        rintro e w7 ⟨u7, T7, vi, co, rfl, k1, k2, k3, k4⟩
        have HRES : Hid (BlendR fBoth A.list (PT.node l k x r).list (A.size + (PT.node l k x r).size) w w7 (.returned (.pointer u7))) := by
          refine ⟨u7, T7, rfl, Lib.hid ⟨k2, k3.all, ?_, ?_, HB6.out.trans (k4.kept.to.mono HB6.out.size)⟩⟩
          · rw [k1, ← HMD.out]
            refine HBL.out _ _ ?_ ?_
            · rw [← HTL.out.1]; exact h4.out.2.2.1
            · rw [← HTL.out.2.1]; exact h6.out.2.2.1
          · have := PT.size_of k1
            rw [List.length_append, PT.size_list, PT.size_list] at this
            have h1 := HSZ.out
            simp only [PT.size]
            omega
        clear k1 k2 k3 k4 b0 b1
        go_wp2_with fail
        go_ret
        exact HRES.out

end Go.Proofs.Ytnfhbljhohjkhaa
