/- The contract of the tree's From. -/
import Derived.Test.YtphjaebkcimklaaGreatDoorTGet
set_option linter.unusedVariables false
set_option linter.unusedSimpArgs false
namespace Go.Proofs.YtphjaebkcimklaaGreatDoor
open Go.RowKit

abbrev Pairs := List (Bytes × Bytes)
/-- A slice of pairs, as it reads. -/
structure LIn (S : Nat → Prop) (w : World) (A : Option Addr) (n : Nat) (L : Pairs) : Prop where
  len : L.length = n
  cell : 0 < n → ∃ b o, A = some ⟨b, o, none⟩ ∧ b < w.heap.size ∧ S b ∧ ∀ j, j < n → ∃ kv xv, w.cell? ⟨b, o + j * 2, none⟩ = some kv ∧ w.cell? ⟨b, o + j * 2 + 1, none⟩ = some xv ∧ BIn S w kv (L.getD j ([], [])).1 ∧ BIn S w xv (L.getD j ([], [])).2
theorem cell_block {w w1 : World} {b i : Nat} (h : w1.heap[b]? = w.heap[b]?) : w1.cell? ⟨b, i, none⟩ = w.cell? ⟨b, i, none⟩ := by simp only [World.cell?, h]
theorem LIn.carry {S : Nat → Prop} {w w1 : World} {A : Option Addr} {n : Nat} {L : Pairs} (h : LIn S w A n L) (hs : w.heap.size ≤ w1.heap.size) (hb : ∀ b, S b → b < w.heap.size → w1.heap[b]? = w.heap[b]?) : LIn S w1 A n L := by
  refine ⟨h.len, fun hn => ?_⟩
  obtain ⟨b, o, e, hlt, hS, hc⟩ := h.cell hn
  refine ⟨b, o, e, Nat.lt_of_lt_of_le hlt hs, hS, fun j hj => ?_⟩
  obtain ⟨kv, xv, h1, h2, h3, h4⟩ := hc j hj
  exact ⟨kv, xv, (cell_block (hb b hS hlt)).trans h1, (cell_block (hb b hS hlt)).trans h2, h3.carry hs hb, h4.carry hs hb⟩
theorem LIn.below {S : Nat → Prop} {w w1 : World} {A : Option Addr} {n : Nat} {L : Pairs} (h : LIn S w A n L) (hk : Below w.heap.size w w1) : LIn S w1 A n L := h.carry hk.size fun b _ hlt => hk.block b hlt
theorem LIn.imp {S S' : Nat → Prop} {w : World} {A : Option Addr} {n : Nat} {L : Pairs} (h : LIn S w A n L) (hS : ∀ b, b < w.heap.size → S b → S' b) : LIn S' w A n L := by
  refine ⟨h.len, fun hn => ?_⟩
  obtain ⟨b, o, e, hlt, hSb, hc⟩ := h.cell hn
  refine ⟨b, o, e, hlt, hS b hlt hSb, fun j hj => ?_⟩
  obtain ⟨kv, xv, h1, h2, h3, h4⟩ := hc j hj
  exact ⟨kv, xv, h1, h2, h3.imp hS, h4.imp hS⟩
theorem LIn.take {S : Nat → Prop} {w : World} {A : Option Addr} {n k : Nat} {L : Pairs} (h : LIn S w A n L) (hk : k ≤ n) : LIn S w A k (L.take k) := by
  have := h.len
  refine ⟨by rw [List.length_take]; omega, fun hn => ?_⟩
  obtain ⟨b, o, e, hlt, hS, hc⟩ := h.cell (by omega)
  refine ⟨b, o, e, hlt, hS, fun j hj => ?_⟩
  have h2 := hc j (by omega)
  have e2 : (L.take k).getD j ([], []) = L.getD j ([], []) := by simp [List.getD_eq_getElem?_getD, List.getElem?_take, hj]
  rw [e2]; exact h2
theorem LIn.drop {S : Nat → Prop} {w : World} {b o n k : Nat} {L : Pairs} (h : LIn S w (some ⟨b, o, none⟩) n L) (hk : k ≤ n) (A : Option Addr) (hA : k < n → A = some ⟨b, o + k * 2, none⟩) : LIn S w A (n - k) (L.drop k) := by
  have := h.len
  refine ⟨by rw [List.length_drop]; omega, fun hn => ?_⟩
  obtain ⟨b', o', e, hlt, hS, hc⟩ := h.cell (by omega)
  cases e
  refine ⟨b, o + k * 2, hA (by omega), hlt, hS, fun j hj => ?_⟩
  have h2 := hc (k + j) (by omega)
  have e2 : (L.drop k).getD j ([], []) = L.getD (k + j) ([], []) := by simp [List.getD_eq_getElem?_getD, List.getElem?_drop]
  rw [e2, show o + k * 2 + j * 2 = o + (k + j) * 2 by omega]; exact h2

namespace PT
/-- Each node's sides are even. -/
def even : PT → Prop
  | nil => True
  | node l _ _ r => evenB l.size r.size = true ∧ l.even ∧ r.even
end PT
theorem evenB_half (n : Nat) (h : 0 < n) : evenB (n / 2) (n - (n / 2 + 1)) = true := by
  unfold evenB; simp; omega

theorem split_mid (L : Pairs) (k : Nat) (h : k < L.length) : L.take k ++ L.getD k ([], []) :: L.drop (k + 1) = L := by
  rw [List.getD_eq_getElem?_getD, List.getElem?_eq_getElem h]
  simp

set_option maxHeartbeats 6400000 in
theorem from_any : ∀ (n : Nat) {S : Nat → Prop} (L : Pairs) (A : Option Addr) (c : Nat) (w : World), LIn S w A n L → n ≤ c → n ≤ 500000 →
    Calls Tryz.prog 54 #[.slice A n c] w fun e w' => ∃ u T, e = .returned u ∧ T.list = L ∧ T.even ∧ TIn (New w.heap.size) w' u T ∧ Below w.heap.size w w' := by
  intro n
  induction n using Nat.strongRecOn with
  | _ n ih =>
    intro S L A c w hL hc hn
    rcases Nat.eq_zero_or_pos n with rfl | hpos
    · have hl0 : L = [] := List.eq_nil_of_length_eq_zero hL.len
      clear ih hL
      go_enter Tryz.func54, Tryz.ntmps54
      go_wp2_with fail
      go_ret
      exact ⟨_, PT.nil, rfl, by rw [hl0]; rfl, trivial, rfl, Below.refl _ _⟩
    · obtain ⟨b, o, rfl, hlt, hSb, hcell⟩ := hL.cell hpos
      obtain ⟨k, hk⟩ : ∃ k, n / 2 = k := ⟨_, rfl⟩
      have hkn : k < n := by omega
      obtain ⟨kv, xv, ck, cx, hbk, hbx⟩ := hcell k hkn
      obtain ⟨Ak, nk, ckk, rfl⟩ := hbk.slice
      obtain ⟨Ax, nx, cxx, rfl⟩ := hbx.slice
      have H1 := Lib.hid (fun W (h : Below w.heap.size w W) => ih k (by omega) (L.take k) (some ⟨b, o, none⟩) c W ((hL.take (by omega)).below h) (by omega) (by omega))
      have H2 := Lib.hid (fun W (h : Below w.heap.size w W) => ih (n - (k + 1)) (by omega) (L.drop (k + 1)) (if c = k + 1 then some ⟨b, o, none⟩ else some ⟨b, o + (k + 1) * 2, none⟩) (c - (k + 1)) W ((hL.drop (k := k + 1) (by omega) (if c = k + 1 then some ⟨b, o, none⟩ else some ⟨b, o + (k + 1) * 2, none⟩) (fun h => by rw [if_neg (by omega)])).below h) (by omega) (by omega))
      have HO := Lib.hid (fun W (h : Below w.heap.size w W) => own_any (.agg #[.slice Ak nk ckk, .slice Ax nx cxx]) (L.getD k ([], [])).1 (L.getD k ([], [])).2 W ⟨_, _, rfl, hbk.below h, hbx.below h⟩)
      have hck : Hid (∀ W, Below w.heap.size w W → W.cell? ⟨b, o + k * 2, none⟩ = some (.slice Ak nk ckk) ∧ W.cell? ⟨b, o + k * 2 + 1, none⟩ = some (.slice Ax nx cxx)) := fun W h => ⟨(cell_block (h.block b hlt)).trans ck, (cell_block (h.block b hlt)).trans cx⟩
      have HLN := Lib.hid hL.len
      have HMID := Lib.hid (split_mid L k (by rw [hL.len]; exact hkn))
      have HEV := Lib.hid (evenB_half n hpos)
      have hz : ((n : Int).tdiv 2) = (k : Int) := by rw [← hk]; rfl
      have al : (0 : Int) ≤ (k : Int) := by omega
      have al2 : (k : Int) ≤ (c : Int) := by omega
      have al3 : (k : Int) < (n : Int) := by omega
      have al4 : (k : Int) + 1 ≤ (n : Int) := by omega
      have al5 : (0 : Int) ≤ (k : Int) + 1 := by omega
      have wk : IntKind.i64.wrap ((k : Int) + 1) = (k : Int) + 1 := i64_small (by omega)
      clear ih hL hcell hbk hbx
      have hsl : ∀ W, Sem.run Tryz.prog (Instr.sliceAt 69 (.slice (some ⟨b, o, none⟩) n c) (some (.int .i64 ((k : Int) + 1))) none none) W = .ok (.slice (if c = k + 1 then some ⟨b, o, none⟩ else some ⟨b, o + (k + 1) * 2, none⟩) (n - (k + 1)) (c - (k + 1))) W := by
        intro W
        go_simp
      obtain ⟨A2, hA2⟩ : ∃ A2, (if c = k + 1 then some (⟨b, o, none⟩ : Addr) else some ⟨b, o + (k + 1) * 2, none⟩) = A2 := ⟨_, rfl⟩
      rw [hA2] at hsl H2
      clear hA2
      go_enter Tryz.func54, Tryz.ntmps54
      go_wp2_with fail
      go_region_held3 (fun w' => w'.cell? ⟨b, o + k * 2, none⟩ = some (.slice Ak nk ckk) ∧ w'.cell? ⟨b, o + k * 2 + 1, none⟩ = some (.slice Ax nx cxx))
        (first | with_reducible exact hck.out _ (Below.refl _ _) | with_reducible exact hck.out _ (below_drew2 (Below.refl _ _)) | with_reducible exact hck.out _ B1.out | with_reducible exact hck.out _ B2.out | with_reducible exact hck.out _ B3.out | with_reducible exact hck.out _ B4.out | go_keep)
        (first
          | (go_at_call 54; (with_reducible refine (H1.out _ (below_drew2 (Below.refl _ _))).mono ?_); rintro e wa ⟨u1, T1, rfl, hl1, he1, ht1, hb1⟩; obtain ⟨p1, rfl⟩ := ht1.ptr; have B1 : Hid (Below w.heap.size w wa) := below_drew1 hb1; have I1 : Hid (TIn (New w.heap.size) wa (.pointer p1) T1) := ht1; have E1 := Lib.hid (And.intro hl1 he1); clear hl1 he1 ht1 hb1)
          | (go_at_call 78; (with_reducible refine (HO.out _ B1.out).mono ?_); rintro e wb ⟨u2, rfl, hp2, hb2⟩; obtain ⟨kv2, xv2, rfl, hk2, hx2⟩ := hp2; have B2 : Hid (Below w.heap.size w wb) := B1.out.trans (hb2.mono B1.out.size); have I2 : Hid (TIn (New w.heap.size) wb (.pointer p1) T1) := I1.out.below hb2; have P2 : Hid (PIn (New w.heap.size) wb (.agg #[kv2, xv2]) (L.getD k ([], [])).1 (L.getD k ([], [])).2) := ⟨_, _, rfl, hk2.imp fun b _ hb => Nat.le_trans B1.out.size hb, hx2.imp fun b _ hb => Nat.le_trans B1.out.size hb⟩; clear hk2 hx2 hb2)
          | (go_at_call 54; (with_reducible refine (H2.out _ B2.out).mono ?_); rintro e wc ⟨u3, T3, rfl, hl3, he3, ht3, hb3⟩; obtain ⟨p3, rfl⟩ := ht3.ptr; have B3 : Hid (Below w.heap.size w wc) := B2.out.trans (hb3.mono B2.out.size); have I3 : Hid (TIn (New w.heap.size) wc (.pointer p1) T1) := I2.out.below hb3; have P3 : Hid (PIn (New w.heap.size) wc (.agg #[kv2, xv2]) (L.getD k ([], [])).1 (L.getD k ([], [])).2) := P2.out.below hb3; have J3 : Hid (TIn (New w.heap.size) wc (.pointer p3) T3) := ht3.imp fun b _ hb => Nat.le_trans B2.out.size hb; have E3 := Lib.hid (And.intro hl3 he3); clear hl3 he3 ht3 hb3)
          | (go_at_call 77; (with_reducible refine (node_any _ _ _ T1 T3 _ _ _ I3.out P3.out J3.out (by rw [← PT.size_list, ← PT.size_list, E1.out.1, E3.out.1, List.length_take, List.length_drop, HLN.out]; omega)).mono ?_); rintro e wd ⟨b4, rfl, ht4, hb4⟩; have B4 : Hid (Below w.heap.size w wd) := B3.out.trans (hb4.mono B3.out.size); have I4 : Hid (TIn (New w.heap.size) wd (.pointer (some b4)) (.node T1 (L.getD k ([], [])).1 (L.getD k ([], [])).2 T3)) := ht4.imp (fun b _ hb => by rcases hb with hb | hb; exact hb; exact Nat.le_trans B3.out.size hb); clear ht4 hb4))
      go_wp2_with fail
      go_ret
      refine ⟨_, _, rfl, ?_, ?_, I4.out, B4.out⟩
      · rw [PT.list, E1.out.1, E3.out.1]; exact HMID.out
      · refine ⟨?_, E1.out.2, E3.out.2⟩
        rw [← PT.size_list, ← PT.size_list, E1.out.1, E3.out.1, List.length_take, List.length_drop, HLN.out, Nat.min_eq_left (by omega), ← hk]
        exact HEV.out

end Go.Proofs.YtphjaebkcimklaaGreatDoor
