/- The package split: At: a tree cut at a key. -/
import Derived.Test.YtnfhbljhohjkhaaTPlays
import Derived.Test.YtnfhbljhohjkhaaTRank3
set_option linter.unusedVariables false
set_option linter.unusedSimpArgs false
namespace Go.Proofs.Ytnfhbljhohjkhaa
open Go.RowKit

theorem results_tmp4 {fn : Func} {t u v x : Tmp} (h : fn.results = #[.tmp t, .tmp u, .tmp v, .tmp x]) (tmps : Array Value) (P : Program) (w : World) :
    (results fn tmps).run P w = .ok (.tuple #[tmps.getD t undef, tmps.getD u undef, tmps.getD v undef, tmps.getD x undef]) w := by
  simp [results, h]

namespace PT
/-- What lies ahead of a key, and behind it, along the keys. -/
def cutL : PT → Bytes → Pairs × Pairs
  | nil, _ => ([], [])
  | node l k x r, key => if Lib.compareBytes key k = 0 then (l.list, r.list) else if Lib.compareBytes key k = 1 then (l.list ++ (k, x) :: (r.cutL key).1, (r.cutL key).2) else ((l.cutL key).1, (l.cutL key).2 ++ (k, x) :: r.list)
theorem cutL_len : ∀ (T : PT) (key : Bytes), (T.cutL key).1.length + (T.cutL key).2.length ≤ T.size
  | nil, _ => by simp [cutL]
  | node l k x r, key => by
    have hl := l.cutL_len key
    have hr := r.cutL_len key
    have h1 := l.size_list
    have h2 := r.size_list
    simp only [cutL, size]
    split
    · simp only []; omega
    · split
      · simp only [List.length_append, List.length_cons]; omega
      · simp only [List.length_append, List.length_cons]; omega
end PT

/-- What At tells. -/
def CutIn (S : Nat → Prop) (w w' : World) (e : Ending) (P : Pairs × Pairs) (o : Option Bytes) : Prop :=
  ∃ u1 u2 A n c ok TL TR, e = .returned (.tuple #[.pointer u1, .pointer u2, .slice A n c, .bool ok]) ∧ Hid (ok = o.isSome ∧ TL.list = P.1 ∧ TR.list = P.2 ∧ TL.even ∧ TR.even ∧ TIn (Up S w.heap.size) w' (.pointer u1) TL ∧ TIn (Up S w.heap.size) w' (.pointer u2) TR ∧
    BIn (New w.heap.size) w' (.slice A n c) (o.getD []) ∧ Below w.heap.size w w')
theorem up_up {S : Nat → Prop} {n m : Nat} (h : n ≤ m) (b : Nat) (hb : Up (Up S n) m b) : Up S n b := by
  rcases hb with hb | hb
  · exact hb
  · exact .inr (Nat.le_trans h hb)

set_option maxRecDepth 100000 in
set_option maxHeartbeats 3200000 in
theorem At_any {S S' : Nat → Prop} (key : Bytes) : ∀ (T : PT) (v kv : Value) (w : World), TIn S w v T → BIn S' w kv key → T.even → T.size ≤ 400000 →
    Calls Try.prog 18 #[v, kv] w fun e w' => CutIn S w w' e (T.cutL key) (T.get key) := by
  intro T
  induction T with
  | nil =>
    intro v kv w hT hK _ _
    obtain rfl : v = .pointer none := hT
    obtain ⟨A, n, c, rfl⟩ := hK.slice
    clear hK
    go_enter Try.func18, Try.ntmps18
    go_wp2_with fail
    try simp only [Exit.inBlock, Exit.then]
    refine bodyPost_ret (results_tmp4 rfl _ _ _) rfl ?_
    exact ⟨none, none, none, 0, 0, false, .nil, .nil, rfl, Lib.hid ⟨rfl, rfl, rfl, trivial, trivial, rfl, rfl, BIn.nil _ _, Below.refl _ _⟩⟩
  | node l k x r ihl ihr =>
    intro v kv w hT hK hev hn
    obtain ⟨pa, rfl⟩ : ∃ pa, v = .pointer (some pa) := by obtain ⟨b, _, _, _, _, e, _⟩ := hT; exact ⟨_, e⟩
    obtain ⟨A, n, c, rfl⟩ := hK.slice
    have hsn : l.size + 1 + r.size ≤ 400000 := hn
    have HT := Lib.hid (fun W (h : Below w.heap.size w W) => hT.below h)
    have HK := Lib.hid (fun W (h : Below w.heap.size w W) => hK.below h)
    have HEV := Lib.hid (show evenB l.size r.size = true ∧ l.even ∧ r.even from hev)
    have IL := Lib.hid ihl
    have IR := Lib.hid ihr
    have HGET : Hid (∀ key, (PT.node l k x r).get key = if Lib.compareBytes key k = 0 then some x else if Lib.compareBytes key k = 1 then r.get key else l.get key) := fun _ => rfl
    have HCUT : Hid (∀ key, (PT.node l k x r).cutL key = if Lib.compareBytes key k = 0 then (l.list, r.list) else if Lib.compareBytes key k = 1 then (l.list ++ (k, x) :: (r.cutL key).1, (r.cutL key).2) else ((l.cutL key).1, (l.cutL key).2 ++ (k, x) :: r.list)) := fun _ => rfl
    have HLL := Lib.hid (l.cutL_len key)
    have HRL := Lib.hid (r.cutL_len key)
    clear hT hK hev ihl ihr hn
    go_enter Try.func18, Try.ntmps18
    go_wp2_with fail
    refine (root_any (.pointer (some pa)) (.node l k x r) w (HT.out w (Below.refl _ _))).mono ?_
    rintro e w1 ⟨u, rfl, hu, hb1⟩
    obtain ⟨kv1, xv1, rfl, hk, hx⟩ := hu
    obtain ⟨Ak, nk, ck, rfl⟩ := hk.slice
    obtain ⟨Ax, nx, cx, rfl⟩ := hx.slice
    have hbn : Below w1.heap.size w1 (w1.alloc (.cells #[.slice Ak nk ck, .slice Ax nx cx] 40)) := (Below.refl _ _).alloc (Nat.le_refl _) _
    have htw : Two (w1.alloc (.cells #[.slice Ak nk ck, .slice Ax nx cx] 40)) w1.heap.size (.slice Ak nk ck) (.slice Ax nx cx) := heap_new w1 _
    have HX : Hid (Below w.heap.size w (w1.alloc (.cells #[.slice Ak nk ck, .slice Ax nx cx] 40)) ∧ BIn (New w.heap.size) (w1.alloc (.cells #[.slice Ak nk ck, .slice Ax nx cx] 40)) (.slice Ak nk ck) k ∧ BIn (New w.heap.size) (w1.alloc (.cells #[.slice Ak nk ck, .slice Ax nx cx] 40)) (.slice Ax nx cx) x) :=
      ⟨(hb1.trans (hbn.mono hb1.size)), hk.below hbn, hx.below hbn⟩
    have HTW := Lib.hid htw
    have hgl : Hid (w1.heap.size < (w1.alloc (.cells #[.slice Ak nk ck, .slice Ax nx cx] 40)).heap.size) := (by simp : w1.heap.size < (w1.alloc (.cells #[.slice Ak nk ck, .slice Ax nx cx] 40)).heap.size)
    clear hk hx hb1 hbn htw
    go_upto_region 4 with fail
    generalize w1.heap.size = g at *
    generalize w1.alloc (.cells #[.slice Ak nk ck, .slice Ax nx cx] 40) = X at *
    have HC : Hid (∀ W, Below X.heap.size X W → W.cell? ⟨g, 0, none⟩ = some (.slice Ak nk ck) ∧ W.cell? ⟨g, 1, none⟩ = some (.slice Ax nx cx)) := fun W h => (HTW.out.below h hgl.out).cells
    obtain ⟨b0, b1⟩ := HC.out X (Below.refl _ _)
    have HCM := Lib.hid (compare_any (.slice A n c) (.slice Ak nk ck) key k X (HK.out X HX.out.1) HX.out.2.1)
    have HTX : Hid (∀ W, Below X.heap.size X W → TIn S W (.pointer (some pa)) (.node l k x r) ∧ BIn S' W (.slice A n c) key ∧ Below w.heap.size w W) := fun W h => by
      have hb := HX.out.1.trans (h.mono HX.out.1.size)
      exact ⟨HT.out W hb, HK.out W hb, hb⟩
    have HSZ : Hid (w.heap.size ≤ X.heap.size) := HX.out.1.size
    go_wp2_with fail
    refine HCM.out.mono ?_
    rintro e w2 ⟨rfl, rfl⟩
    rcases cmp3 key k with hc | hc | hc
    · have hg : (PT.node l k x r).get key = some x := by rw [HGET.out, if_pos hc]
      have hcu : (PT.node l k x r).cutL key = (l.list, r.list) := by rw [HCUT.out, if_pos hc]
      have HG := Lib.hid (And.intro hg hcu)
      rw [hc]
      clear hg hcu hc
      go_upto_region 6 with fail
      clear b0 b1
      go_region_held3 (fun w' => w'.cell? ⟨g, 0, none⟩ = some (.slice Ak nk ck) ∧ w'.cell? ⟨g, 1, none⟩ = some (.slice Ax nx cx))
        (first | with_reducible exact HC.out _ (below_drew2 (Below.refl _ _)))
        (first
          | (go_at_call 59; (with_reducible refine (left_any (.node l k x r) (.pointer (some pa)) _ (HTX.out _ (below_drew2 (Below.refl _ _))).1).mono ?_); rintro e w3 ⟨u1, rfl, hu1, rfl⟩; obtain ⟨lu, rfl⟩ := hu1.ptr; have HU1 := Lib.hid hu1; clear hu1)
          | (go_at_call 60; (with_reducible refine (right_any (.node l k x r) (.pointer (some pa)) _ (HTX.out _ (below_drew2 (Below.refl _ _))).1).mono ?_); rintro e w4 ⟨u2, rfl, hu2, rfl⟩; obtain ⟨ru, rfl⟩ := hu2.ptr; have HU2 := Lib.hid hu2; clear hu2))
      have HF : Hid (l.even ∧ r.even ∧ TIn (Up S w.heap.size) X.drew (.pointer lu) l ∧ TIn (Up S w.heap.size) X.drew (.pointer ru) r ∧ BIn (New w.heap.size) X.drew (.slice Ax nx cx) x ∧ Below w.heap.size w X.drew) :=
        ⟨HEV.out.2.1, HEV.out.2.2, TIn.up HU1.out _, TIn.up HU2.out _, HX.out.2.2.below (below_drew2 (Below.refl _ _)), below_drew2 HX.out.1⟩
      go_wp2_with fail
      try simp only [Exit.inBlock, Exit.then]
      refine bodyPost_ret (results_tmp4 rfl _ _ _) rfl ?_
      rw [HG.out.1, HG.out.2]
      exact ⟨lu, ru, Ax, nx, cx, true, l, r, rfl, Lib.hid ⟨rfl, rfl, rfl, HF.out⟩⟩
    · have hg : (PT.node l k x r).get key = r.get key := by rw [HGET.out, if_neg (by omega), if_pos hc]
      have hcu : (PT.node l k x r).cutL key = (l.list ++ (k, x) :: (r.cutL key).1, (r.cutL key).2) := by rw [HCUT.out, if_neg (by omega), if_pos hc]
      have HG := Lib.hid (And.intro hg hcu)
      rw [hc]
      clear hg hcu hc b0 b1
      go_wp2_with fail
      refine (right_any (.node l k x r) (.pointer (some pa)) X (HTX.out X (Below.refl _ _)).1).mono ?_
      rintro e w3 ⟨u2, rfl, hu2, rfl⟩
      obtain ⟨ru, rfl⟩ := hu2.ptr
      have HR := Lib.hid (IR.out (.pointer ru) (.slice A n c) X hu2 (HTX.out X (Below.refl _ _)).2.1 HEV.out.2.2 (by omega))
      clear hu2
      go_wp2_with fail
      refine HR.out.mono ?_
      rintro e w4 ⟨u1, u2, Av, nv, cv, ok, TL, TR, rfl, H4⟩
      have HB4 : Hid (Below X.heap.size X w4) := H4.out.2.2.2.2.2.2.2.2
      have HPW : Hid (PIn (Up S w.heap.size) w4.drew (.agg #[.slice Ak nk ck, .slice Ax nx cx]) k x) := ⟨_, _, rfl, ((HX.out.2.1.below HB4.out).below (below_drew2 (Below.refl _ _))).imp (fun b _ hb => .inr hb), ((HX.out.2.2.below HB4.out).below (below_drew2 (Below.refl _ _))).imp (fun b _ hb => .inr hb)⟩
      go_upto_region 9 with fail
      go_region_held3 (fun w' => w'.cell? ⟨g, 0, none⟩ = some (.slice Ak nk ck) ∧ w'.cell? ⟨g, 1, none⟩ = some (.slice Ax nx cx))
        (first | with_reducible exact HC.out _ (below_drew2 HB4.out) | with_reducible exact HC.out _ HB5.out)
        (first
          | (go_at_call 59; (with_reducible refine (left_any (.node l k x r) (.pointer (some pa)) _ (HTX.out _ (below_drew2 HB4.out)).1).mono ?_); rintro e w5 ⟨u5, rfl, hu5, rfl⟩; obtain ⟨lu, rfl⟩ := hu5.ptr; have HU5 := Lib.hid hu5; clear hu5)
          | (go_at_call 23; (with_reducible refine (Join_any (S := Up S w.heap.size) l TL (.pointer lu) (.agg #[.slice Ak nk ck, .slice Ax nx cx]) (.pointer u1) k x w4.drew (TIn.up HU5.out _) HPW.out ((H4.out.2.2.2.2.2.1.below (below_drew2 (Below.refl _ _))).imp (fun b _ hb => up_imp HSZ.out b hb)) (by have h1 := HRL.out; have h2 := PT.size_of H4.out.2.1; omega) HEV.out.2.1 H4.out.2.2.2.1).mono ?_)
             rintro e w6 ⟨u6, T6, rfl, a1, a2, a3, a4⟩
             have HB5 : Hid (Below X.heap.size X w6) := HB4.out.trans ((below_drew1 a4).mono HB4.out.size)
             have HF : Hid (ok = (r.get key).isSome ∧ T6.list = l.list ++ (k, x) :: (r.cutL key).1 ∧ TR.list = (r.cutL key).2 ∧ T6.even ∧ TR.even ∧ TIn (Up S w.heap.size) w6 (.pointer u6) T6 ∧ TIn (Up S w.heap.size) w6 (.pointer u2) TR ∧ BIn (New w.heap.size) w6 (.slice Av nv cv) ((r.get key).getD []) ∧ Below w.heap.size w w6) :=
               ⟨H4.out.1, by rw [a1, H4.out.2.1], H4.out.2.2.1, a2, H4.out.2.2.2.2.1, a3.imp (fun b _ hb => up_up (Nat.le_trans HSZ.out HB4.out.size) b hb), (H4.out.2.2.2.2.2.2.1.below (below_drew1 a4)).imp (fun b _ hb => up_imp HSZ.out b hb), (H4.out.2.2.2.2.2.2.2.1.below (below_drew1 a4)).imp (fun b _ hb => Nat.le_trans HSZ.out hb), HX.out.1.trans (HB5.out.mono HX.out.1.size)⟩
             clear a1 a2 a3 a4))
      go_wp2_with fail
      try simp only [Exit.inBlock, Exit.then]
      refine bodyPost_ret (results_tmp4 rfl _ _ _) rfl ?_
      rw [HG.out.1, HG.out.2]
      exact ⟨u6, u2, Av, nv, cv, ok, T6, TR, rfl, HF⟩
    · have hg : (PT.node l k x r).get key = l.get key := by rw [HGET.out, if_neg (by omega), if_neg (by omega)]
      have hcu : (PT.node l k x r).cutL key = ((l.cutL key).1, (l.cutL key).2 ++ (k, x) :: r.list) := by rw [HCUT.out, if_neg (by omega), if_neg (by omega)]
      have HG := Lib.hid (And.intro hg hcu)
      rw [hc]
      clear hg hcu hc b0 b1
      go_wp2_with fail
      refine (left_any (.node l k x r) (.pointer (some pa)) X (HTX.out X (Below.refl _ _)).1).mono ?_
      rintro e w3 ⟨u2, rfl, hu2, rfl⟩
      obtain ⟨lu, rfl⟩ := hu2.ptr
      have HL := Lib.hid (IL.out (.pointer lu) (.slice A n c) X hu2 (HTX.out X (Below.refl _ _)).2.1 HEV.out.2.1 (by omega))
      clear hu2
      go_wp2_with fail
      refine HL.out.mono ?_
      rintro e w4 ⟨u1, u2, Av, nv, cv, ok, TL, TR, rfl, H4⟩
      have HB4 : Hid (Below X.heap.size X w4) := H4.out.2.2.2.2.2.2.2.2
      have HPW : Hid (PIn (Up S w.heap.size) w4.drew (.agg #[.slice Ak nk ck, .slice Ax nx cx]) k x) := ⟨_, _, rfl, ((HX.out.2.1.below HB4.out).below (below_drew2 (Below.refl _ _))).imp (fun b _ hb => .inr hb), ((HX.out.2.2.below HB4.out).below (below_drew2 (Below.refl _ _))).imp (fun b _ hb => .inr hb)⟩
      go_upto_region 11 with fail
      go_region_held3 (fun w' => w'.cell? ⟨g, 0, none⟩ = some (.slice Ak nk ck) ∧ w'.cell? ⟨g, 1, none⟩ = some (.slice Ax nx cx))
        (first | with_reducible exact HC.out _ (below_drew2 HB4.out) | with_reducible exact HC.out _ HB5.out)
        (first
          | (go_at_call 60; (with_reducible refine (right_any (.node l k x r) (.pointer (some pa)) _ (HTX.out _ (below_drew2 HB4.out)).1).mono ?_); rintro e w5 ⟨u5, rfl, hu5, rfl⟩; obtain ⟨ru, rfl⟩ := hu5.ptr; have HU5 := Lib.hid hu5; clear hu5)
          | (go_at_call 23; (with_reducible refine (Join_any (S := Up S w.heap.size) TR r (.pointer u2) (.agg #[.slice Ak nk ck, .slice Ax nx cx]) (.pointer ru) k x w4.drew ((H4.out.2.2.2.2.2.2.1.below (below_drew2 (Below.refl _ _))).imp (fun b _ hb => up_imp HSZ.out b hb)) HPW.out (TIn.up HU5.out _) (by have h1 := HLL.out; have h2 := PT.size_of H4.out.2.2.1; omega) H4.out.2.2.2.2.1 HEV.out.2.2).mono ?_)
             rintro e w6 ⟨u6, T6, rfl, a1, a2, a3, a4⟩
             have HB5 : Hid (Below X.heap.size X w6) := HB4.out.trans ((below_drew1 a4).mono HB4.out.size)
             have HF : Hid (ok = (l.get key).isSome ∧ TL.list = (l.cutL key).1 ∧ T6.list = (l.cutL key).2 ++ (k, x) :: r.list ∧ TL.even ∧ T6.even ∧ TIn (Up S w.heap.size) w6 (.pointer u1) TL ∧ TIn (Up S w.heap.size) w6 (.pointer u6) T6 ∧ BIn (New w.heap.size) w6 (.slice Av nv cv) ((l.get key).getD []) ∧ Below w.heap.size w w6) :=
               ⟨H4.out.1, H4.out.2.1, by rw [a1, H4.out.2.2.1], H4.out.2.2.2.1, a2, (H4.out.2.2.2.2.2.1.below (below_drew1 a4)).imp (fun b _ hb => up_imp HSZ.out b hb), a3.imp (fun b _ hb => up_up (Nat.le_trans HSZ.out HB4.out.size) b hb), (H4.out.2.2.2.2.2.2.2.1.below (below_drew1 a4)).imp (fun b _ hb => Nat.le_trans HSZ.out hb), HX.out.1.trans (HB5.out.mono HX.out.1.size)⟩
             clear a1 a2 a3 a4))
      go_wp2_with fail
      try simp only [Exit.inBlock, Exit.then]
      refine bodyPost_ret (results_tmp4 rfl _ _ _) rfl ?_
      rw [HG.out.1, HG.out.2]
      exact ⟨u1, u6, Av, nv, cv, ok, TL, T6, rfl, HF⟩

end Go.Proofs.Ytnfhbljhohjkhaa
