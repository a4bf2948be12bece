/- What Own and Come make may be written. -/
import Derived.Test.YtocideolihbnaaaPSame
set_option linter.unusedVariables false
set_option linter.unusedSimpArgs false
namespace Go.Proofs.Ytocideolihbnaaa
open Go.RowKit Stab

/-- A block of cells none of which is frozen. -/
def Nf (W : World) (b : Nat) : Prop := ∃ arr T, W.heap[b]? = some (.cells arr T (0, 0))
theorem Nf.lt {W : World} {b : Nat} (h : Nf W b) : b < W.heap.size := by obtain ⟨_, _, h⟩ := h; exact (Array.getElem?_eq_some_iff.1 h).1
theorem Nf.same {W W' : World} {b : Nat} (h : Nf W b) (hb : W'.heap[b]? = W.heap[b]?) : Nf W' b := by obtain ⟨arr, T, h⟩ := h; exact ⟨arr, T, hb.trans h⟩
/-- A slice over such a block. -/
def NfV (W : World) (v : Value) : Prop := ∀ A n c b o, v = .slice A n c → 0 < n → A = some ⟨b, o, none⟩ → Nf W b
theorem NfV.below {W W' : World} {v : Value} (h : NfV W v) (hb : Below W.heap.size W W') : NfV W' v := fun A n c b o e hn ea => (h A n c b o e hn ea).same (hb.block b (h A n c b o e hn ea).lt)
theorem BIn.and {S S' : Nat → Prop} {W : World} {v : Value} {l : Bytes} (h : BIn S W v l) (h' : ∀ A n c b o, v = .slice A n c → 0 < n → A = some ⟨b, o, none⟩ → S' b) : BIn (fun b => S b ∧ S' b) W v l := by
  obtain ⟨A, n, c, rfl, hc, hr, hs⟩ := h
  exact ⟨A, n, c, rfl, hc, hr, fun b o hn e => ⟨hs b o hn e, h' A n c b o rfl hn e⟩⟩
theorem BIn.dom {S : Nat → Prop} {W : World} {A : Option Addr} {n c : Nat} {l : Bytes} (h : BIn S W (.slice A n c) l) : ∀ b o, 0 < n → A = some ⟨b, o, none⟩ → S b := by
  obtain ⟨A', n', c', e, _, _, hs⟩ := h
  cases e
  exact hs
def NfL (W : World) (vs : List Value) : Prop := ∀ v ∈ vs, NfV W v
theorem NfL.get {W : World} {vs : List Value} (h : NfL W vs) (j : Nat) : NfV W (vs.getD j (.slice none 0 0)) := by
  rw [List.getD_eq_getElem?_getD]
  cases hj : vs[j]? with
  | none => intro A n c b o e hn; cases e; omega
  | some v => exact h v (List.mem_of_getElem? hj)
/-- A row of pairs of such slices. -/
def NfR (W : World) (A : Option Addr) (n : Nat) : Prop := 0 < n → ∃ b o, A = some ⟨b, o, none⟩ ∧ ∀ j, j < n → ∃ kv xv, W.cell? ⟨b, o + j * 2, none⟩ = some kv ∧ W.cell? ⟨b, o + j * 2 + 1, none⟩ = some xv ∧ NfV W kv ∧ NfV W xv
theorem nfR_of {base n c : Nat} {W : World} {A : Option Addr} {vs : List Value} (ho : W.ownsRow base 34 2 (.slice A n c) n vs) (h : NfL W vs) : NfR W A n := fun hn => by
  have hl := ho.1
  rcases ho.2 with ⟨hv, h0⟩ | ⟨g, cap, cur, hv, _⟩
  · omega
  · injection hv with e1 e2 e3
    subst e1
    refine ⟨g, 0, rfl, fun j hj => ?_⟩
    have h0 := World.ownsRow.cellAt ho (j := j * 2) (by omega)
    have h1 := World.ownsRow.cellAt ho (j := j * 2 + 1) (by omega)
    rw [List.getElem?_eq_getElem (by omega)] at h0 h1
    rw [Nat.zero_add]
    exact ⟨_, _, h0, h1, h _ (List.getElem_mem _), h _ (List.getElem_mem _)⟩

set_option maxHeartbeats 1600000 in
theorem clone_nf {S : Nat → Prop} (v : Value) (l : Bytes) (w : World) (h : BIn S w v l) :
    Calls Try.prog 30 #[v] w fun e w' => ∃ A n c, e = .returned (.slice A n c) ∧ BIn (New w.heap.size) w' (.slice A n c) l ∧ Below w.heap.size w w' ∧ NfV w' (.slice A n c) := by
  obtain ⟨A, n, c, rfl, ⟨hc, h5⟩, hR, _⟩ := h
  have q27 := nil27
  obtain ⟨i0, hi, hz0, hz1, hz2⟩ := info_parts info5
  have hlen := hR.len
  cases A with
  | none =>
    have hn : n = 0 := by
      rcases Nat.eq_zero_or_pos n with h | h
      · exact h
      · obtain ⟨b, o, e, _⟩ := hR.cell h; cases e
    subst hn
    clear hR
    go_enter Try.func30, Try.ntmps30
    go_wp2
    go_ret
    exact ⟨_, _, _, rfl, ⟨none, 0, 0, rfl, ⟨Nat.le_refl _, by omega⟩, ⟨hlen, by omega, fun h => by omega⟩, fun b o h => by omega⟩, Below.refl _ _, fun _ _ _ _ _ e hn => by cases e; omega⟩
  | some a =>
    have HA : Hid (∀ i, i < n → w.cell? (a.add i) = some (.int .u8 ((l.getD i 0).toNat : Int))) := by
      intro i hi
      obtain ⟨b, o, e, _, hcell⟩ := hR.cell (by omega)
      cases e
      rw [addP]
      exact hcell i hi
    clear hR
    go_enter Try.func30, Try.ntmps30
    go_wp2_with (at_builtin; refine wpList_append_own _ rfl _ _ 32 rfl w.heap.size 5 i0 (.int .u8 0) 1 1 Try.underlying32 hi hz0 hz1 hz2 rfl (by decide) _ _ _ rfl (World.ownsRow_made w #[] 0 (Nat.le_refl _) (Nat.zero_le _) rfl) a n c (bvals l) rfl ?qc1 ?qc2 ?qc3 ?qc4 ?qc5 ?qc6 ?_)
    case qc1 => simp [bvals]; omega
    case qc2 =>
      intro j u hj
      have hjn : j < n := by
        have := (List.getElem?_eq_some_iff.1 hj).1
        simp [bvals] at this
        omega
      refine Lib.cell?_alloc_some _ ?_
      rw [HA.out j hjn]
      have e : (bvals l)[j]? = some (Value.int .u8 ((l.getD j 0).toNat : Int)) := by simp [bvals, List.getD, List.getElem?_eq_getElem (show j < l.length by omega)]
      rw [e] at hj
      exact hj
    case qc3 => intro u hu; obtain ⟨x, _, rfl⟩ := List.mem_map.1 hu; rfl
    case qc4 => unfold maxLen; omega
    case qc5 => omega
    case qc6 => simp
    intro v' w1 hown hgrow hnil
    have hb : Below w.heap.size w w1 := ((Below.refl _ w).alloc (Nat.le_refl _) _).grown hgrow (by simp) (by intro k hk; simp [Value.ownBlock] at hk; omega)
    have hB : BIn (New w.heap.size) w1 v' l := BIn.owned hlen h5 (by simpa using hown)
    have HB := Lib.hid hb
    have HNF : Hid (NfV w1 v') := by
      have hv : NfV w1 v' := by
        rcases hown.2 with ⟨hv, hn⟩ | ⟨g, cap, cur, hv, _, hg, _⟩
        · intro A n c b o e hn' ea; rw [hv] at e; cases e; omega
        · intro A n c b o e hn' ea; rw [hv] at e; cases e; cases ea; exact ⟨_, _, hg⟩
      exact hv
    have HI := Lib.hid hB
    clear hown hgrow hnil hb hB
    go_wp2
    go_ret
    obtain ⟨A', n', c', rfl, h'⟩ := HI.out
    exact ⟨A', n', c', rfl, HI.out, HB.out, HNF.out⟩

set_option maxRecDepth 100000 in
set_option maxHeartbeats 3200000 in
theorem Own_nf {S : Nat → Prop} (L : Pairs) (A : Option Addr) (n c : Nat) (w : World) (hL : LIn S w A n L) (hn : n ≤ 100000) (hcn : n ≤ c) :
    Calls Try.prog 14 #[.slice A n c] w fun e w' => ∃ A' c' vs, e = .returned (.slice A' n c') ∧ OwnL w.heap.size w' A' n c' vs L ∧ Below w.heap.size w w' ∧ NfL w' vs := by
  obtain ⟨i0, hi, hz0, hz1, hz2⟩ := info_parts info39b
  have HL := Lib.hid hL
  clear hL
  go_enter Try.func14, Try.ntmps14
  go_wp2_with (refine wpList_make_own _ rfl _ _ 22 rfl w.heap.size 34 i0 _ 2 Try.underlying22 hi hz0 hz1 .i64 .i64 _ n rfl rfl rfl (by rw [hz2]; omega) (by unfold maxLen; omega) (Nat.le_refl _) ?_)
  intro w1 hown hgr
  have hb1 : Below w.heap.size w w1 := ⟨hgr.os, hgr.tape, hgr.output, hgr.size, fun b hb => hgr.block b hb (by simp)⟩
  have HI : Hid (OwnL w.heap.size w1 (some ⟨w.heap.size, 0, none⟩) 0 n [] (L.take 0) ∧ Below w.heap.size w w1 ∧ NfL w1 []) := ⟨⟨by simp, by simp, hown, ⟨rfl, fun j hj => by simp at hj⟩⟩, hb1, fun v hv => by cases hv⟩
  clear hown hgr hb1
  go_wp2_with fail
  go_loopw [3, 11] (fun u v wr => ∃ (j : Nat) (A' : Option Addr) (c' : Nat) (vs : List Value), u = .slice A' j c' ∧ v = .int .i64 (j : Int) ∧ j ≤ n ∧ Hid (OwnL w.heap.size wr A' j c' vs (L.take j) ∧ Below w.heap.size w wr ∧ NfL wr vs)) (fun _ v _ => n - (intOf v).toNat)
  case atStart => exact ⟨0, _, _, [], rfl, rfl, by omega, HI⟩
  case round =>
    obtain ⟨j, A', c', vs, rfl, rfl, hj, hI⟩ := hrel
    by_cases hlt : j < n
    · obtain ⟨b, o, rfl, hbl, hSb, hc⟩ := (HL.out.below hI.out.2.1).cell (by omega)
      obtain ⟨kv, xv, c0, c1, hk, hx⟩ := hc j hlt
      obtain ⟨Ak, nk, ck, rfl⟩ := hk.slice
      obtain ⟨Ax, nx, cx, rfl⟩ := hx.slice
      have hjl : j < L.length := by rw [HL.out.len]; exact hlt
      have HT := Lib.hid (take_snoc' L j hjl)
      have al : (0 : Int) ≤ (j : Int) := by omega
      have al3 : (j : Int) < (n : Int) := by omega
      have hbx := (Below.refl _ wr).alloc (Nat.le_refl _) (.cells #[.slice Ak nk ck, .slice Ax nx cx] 34)
      have htw : Two (wr.alloc (.cells #[.slice Ak nk ck, .slice Ax nx cx] 34)) wr.heap.size (.slice Ak nk ck) (.slice Ax nx cx) := heap_new wr _
      have HX : Hid (OwnL w.heap.size (wr.alloc (.cells #[.slice Ak nk ck, .slice Ax nx cx] 34)) A' j c' vs (L.take j) ∧ Below w.heap.size w (wr.alloc (.cells #[.slice Ak nk ck, .slice Ax nx cx] 34)) ∧ BIn S (wr.alloc (.cells #[.slice Ak nk ck, .slice Ax nx cx] 34)) (.slice Ak nk ck) (L.getD j ([], [])).1 ∧ BIn S (wr.alloc (.cells #[.slice Ak nk ck, .slice Ax nx cx] 34)) (.slice Ax nx cx) (L.getD j ([], [])).2) :=
        ⟨hI.out.1.below hbx, hI.out.2.1.alloc hI.out.2.1.size _, hk.below hbx, hx.below hbx⟩
      have HNV : Hid (NfL (wr.alloc (.cells #[.slice Ak nk ck, .slice Ax nx cx] 34)) vs) := fun v hv => (hI.out.2.2 v hv).below hbx
      have HW := Lib.hid htw
      clear hc hk hx hbx htw
      go_upto_region 5 with fail
      have hgl : Hid (wr.heap.size < (wr.alloc (.cells #[.slice Ak nk ck, .slice Ax nx cx] 34)).heap.size) := (by simp : wr.heap.size < (wr.alloc (.cells #[.slice Ak nk ck, .slice Ax nx cx] 34)).heap.size)
      have hgn : Hid (∀ k, (Value.slice A' j c').ownBlock = some k → k ≠ wr.heap.size) := fun k e h => by have := hI.out.1.own.lt k e; omega
      generalize wr.heap.size = g at *
      generalize wr.alloc (.cells #[.slice Ak nk ck, .slice Ax nx cx] 34) = X at *
      have HC : Hid (∀ W, Below X.heap.size X W → W.cell? ⟨g, 0, none⟩ = some (.slice Ak nk ck) ∧ W.cell? ⟨g, 1, none⟩ = some (.slice Ax nx cx)) := fun W h => (HW.out.below h hgl.out).cells
      have hlen : vs.length = j * 2 := by have := HX.out.1.own.1; omega
      clear c0 c1
      go_region_held3 (fun w' => w'.cell? ⟨g, 0, none⟩ = some (.slice Ak nk ck) ∧ w'.cell? ⟨g, 1, none⟩ = some (.slice Ax nx cx))
        (first | with_reducible exact HC.out _ (below_drew2 (Below.refl _ _)) | with_reducible exact HC.out _ B1.out | with_reducible exact HC.out _ B2.out | with_reducible exact HC.out _ (B2.out.alloc B2.out.size _) | with_reducible exact C5.out)
        (first
          | (go_at_call 30; (with_reducible refine (clone_nf (.slice Ak nk ck) (L.getD j ([], [])).1 _ (HX.out.2.2.1.below (below_drew2 (Below.refl _ _)))).mono ?_); rintro e wa ⟨A1, n1, c1, rfl, hB1, hb1, hf1⟩; have F1 : Hid (NfV wa (.slice A1 n1 c1)) := hf1; have B1 : Hid (Below X.heap.size X wa) := below_drew1 hb1; have K1 : Hid (BIn (New X.heap.size) wa (.slice A1 n1 c1) (L.getD j ([], [])).1) := hB1; clear hB1 hb1 hf1)
          | (go_at_call 30; (with_reducible refine (clone_nf (.slice Ax nx cx) (L.getD j ([], [])).2 _ (HX.out.2.2.2.below B1.out)).mono ?_); rintro e wb ⟨A2, n2, c2, rfl, hB2, hb2, hf2⟩; have F2 : Hid (NfV wb (.slice A1 n1 c1) ∧ NfV wb (.slice A2 n2 c2)) := ⟨F1.out.below hb2, hf2⟩; have B2 : Hid (Below X.heap.size X wb) := B1.out.trans (hb2.mono B1.out.size); have K2 : Hid (BIn (New X.heap.size) wb (.slice A1 n1 c1) (L.getD j ([], [])).1 ∧ BIn (New X.heap.size) wb (.slice A2 n2 c2) (L.getD j ([], [])).2) := ⟨K1.out.below hb2, hB2.imp fun b _ hb => Nat.le_trans B1.out.size hb⟩; clear hB2 hb2 hf2)
          | (have hbn : Below wb.heap.size wb (wb.alloc (.cells #[.slice A1 n1 c1, .slice A2 n2 c2] 34)) := (Below.refl _ _).alloc (Nat.le_refl _) _
             have HXY : Hid (OwnL w.heap.size (wb.alloc (.cells #[.slice A1 n1 c1, .slice A2 n2 c2] 34)) A' j c' vs (L.take j)) := (HX.out.1.below B2.out).below hbn
             refine step_append_v _ (by rfl) (.tmp 15) (.tmp 23) 22 (by rfl) w.heap.size 34 i0 _ 2 48 Try.underlying22 hi hz0 hz1 hz2 rfl (by omega) (.slice A' j c') j vs (by simp [Act.eval]) HXY.out.own ⟨wb.heap.size, 0, none⟩ 1 1 [.slice A1 n1 c1, .slice A2 n2 c2] (by simp [Act.eval]) rfl (World.news_of_block (heap_new wb _)) (by simp [Value.oneCell']) (by unfold maxLen; omega) (by omega) (by have h1 := HX.out.2.1.size; have h2 := B2.out.size; simp; omega) ?_
             intro A3 c3 w3 h3 g3 o3
             have C5 : Hid (w3.cell? ⟨g, 0, none⟩ = some (.slice Ak nk ck) ∧ w3.cell? ⟨g, 1, none⟩ = some (.slice Ax nx cx)) := Two.cells ((g3.block g (by have h1 := hgl.out; have h2 := B2.out.size; simp; omega) (fun e => hgn.out g e.symm rfl)).trans (HW.out.below (B2.out.alloc B2.out.size _) hgl.out))
             have hfar : ∀ b, New X.heap.size b → w.heap.size ≤ b ∧ (Value.slice A' j c').ownBlock ≠ some b := fun b hb => ⟨Nat.le_trans HX.out.2.1.size hb, fun e => by have h1 := HX.out.1.own.lt b e; have h2 : X.heap.size ≤ b := hb; omega⟩
             have hnf3 : NfL w3 (vs ++ [.slice A1 n1 c1, .slice A2 n2 c2]) := by
               have hs : ∀ v, NfV (wb.alloc (.cells #[.slice A1 n1 c1, .slice A2 n2 c2] 34)) v → (∀ A n c b o, v = .slice A n c → 0 < n → A = some ⟨b, o, none⟩ → (Value.slice A' j c').ownBlock ≠ some b) → NfV w3 v := fun v hv hne A n c b o e hn ea => (hv A n c b o e hn ea).same (g3.block b (hv A n c b o e hn ea).lt (fun e' => hne A n c b o e hn ea e'.symm))
               intro v hv
               rcases List.mem_append.1 hv with hv | hv
               · refine hs v (((HNV.out v hv).below (B2.out)).below hbn) fun A n c b o e hn ea h => ?_
                 obtain ⟨i, hi, rfl⟩ := List.getElem_of_mem hv
                 have hp := HX.out.1.ps
                 have hpl := hp.len
                 obtain ⟨kv, xv, e1, e2, e3, e4⟩ := hp.at_ (i / 2) (by omega)
                 rcases (by omega : i = i / 2 * 2 ∨ i = i / 2 * 2 + 1) with h2 | h2
                 · have : vs[i]? = some kv := by rw [h2]; exact e1
                   rw [List.getElem?_eq_getElem hi] at this
                   have hkv : vs[i] = kv := Option.some.inj this
                   rw [← hkv, e] at e3
                   exact (e3.dom b o hn ea).2 h
                 · have : vs[i]? = some xv := by rw [h2]; exact e2
                   rw [List.getElem?_eq_getElem hi] at this
                   have hkv : vs[i] = xv := Option.some.inj this
                   rw [← hkv, e] at e4
                   exact (e4.dom b o hn ea).2 h
               · simp only [List.mem_cons, List.not_mem_nil, or_false] at hv
                 rcases hv with rfl | rfl
                 · exact hs _ (F2.out.1.below hbn) fun A n c b o e hn ea h => by cases e; exact (hfar b (((K2.out.1.below hbn).dom) b o hn ea)).2 h
                 · exact hs _ (F2.out.2.below hbn) fun A n c b o e hn ea h => by cases e; exact (hfar b (((K2.out.2.below hbn).dom) b o hn ea)).2 h
             have HRES : Hid (OwnL w.heap.size w3 A3 (j + 1) c3 (vs ++ [.slice A1 n1 c1, .slice A2 n2 c2]) (L.take (j + 1)) ∧ Below w.heap.size w w3 ∧ NfL w3 (vs ++ [.slice A1 n1 c1, .slice A2 n2 c2])) := ⟨by
               rw [HT.out]
               exact HXY.out.snoc (by have h1 := HX.out.2.1.size; have h2 := B2.out.size; simp; omega) ((K2.out.1.below hbn).imp fun b _ hb => hfar b hb) ((K2.out.2.below hbn).imp fun b _ hb => hfar b hb) h3 g3 o3, ((HX.out.2.1.trans (B2.out.mono HX.out.2.1.size)).alloc (by have h1 := HX.out.2.1.size; have h2 := B2.out.size; omega) _).grown g3 (by have h1 := HX.out.2.1.size; have h2 := B2.out.size; simp; omega) (fun k e => (HX.out.1.own.lt k e).1), hnf3⟩
             clear h3 g3 o3 hbn hfar hnf3))
      go_wp2_with fail
      go_roundw
      case rel => exact ⟨j + 1, A3, c3, _, rfl, by go_num, by omega, HRES⟩
      case measure => simp [intOf]; omega
    · obtain rfl : j = n := by omega
      have HE : Hid (L.take j = L) := List.take_of_length_le (by rw [HL.out.len]; exact Nat.le_refl _)
      go_wp2_with fail
      go_ret
      exact ⟨A', c', vs, rfl, by have := hI.out.1; rw [HE.out] at this; exact this, hI.out.2.1, hI.out.2.2⟩

theorem On.reads2 {base g n c : Nat} {W W' : World} {vs : List Value} {L : Pairs} {f : Nat → Nat} {S : Nat → Prop} (h : On g n (valsOf n vs) f W W')
    (hown : ∀ i, i < n → BIn (fun b => (base ≤ b ∧ b ≠ g) ∧ S b) W (valsOf n vs i).1 (L.getD i ([], [])).1 ∧ BIn (fun b => (base ≤ b ∧ b ≠ g) ∧ S b) W (valsOf n vs i).2 (L.getD i ([], [])).2) (hf : ∀ p, p < n → f p < n) :
    (sortL L f n).length = n ∧ ∀ j, j < n → ∃ kv xv, W'.cell? ⟨g, j * 2, none⟩ = some kv ∧ W'.cell? ⟨g, j * 2 + 1, none⟩ = some xv ∧ BIn (fun b => (base ≤ b ∧ b ≠ g) ∧ S b) W' kv ((sortL L f n).getD j ([], [])).1 ∧ BIn (fun b => (base ≤ b ∧ b ≠ g) ∧ S b) W' xv ((sortL L f n).getD j ([], [])).2 := by
  refine ⟨sortL_len L f n, fun j hj => ?_⟩
  obtain ⟨c0, c1⟩ := h.row.cells hj
  obtain ⟨k1, k2⟩ := hown (f j) (hf j hj)
  rw [sortL_at L f n hj]
  exact ⟨_, _, c0, c1, k1.kept h.kept fun b hb e => hb.1.2 (Option.some.inj e).symm, k2.kept h.kept fun b hb e => hb.1.2 (Option.some.inj e).symm⟩

set_option maxRecDepth 100000 in
set_option maxHeartbeats 3200000 in
theorem Come_nf {S : Nat → Prop} (L : Pairs) (A : Option Addr) (n c : Nat) (w : World) (hL : LIn S w A n L) (hn : n ≤ 100000) (hcn : n ≤ c) :
    Calls Try.prog 11 #[.slice A n c] w fun e w' => ∃ A' c' f, e = .returned (.slice A' (dd (sortL L f n) n).length c') ∧ Hid ((dd (sortL L f n) n).length ≤ c' ∧ LIn (New w.heap.size) w' A' (dd (sortL L f n) n).length (dd (sortL L f n) n) ∧ Below w.heap.size w w' ∧ NfR w' A' (dd (sortL L f n) n).length) := by
  obtain ⟨i0, hi, hz0, hz1, hz2⟩ := info_parts info39b
  have HO := Lib.hid (Own_nf L A n c w hL hn hcn)
  have HLN := Lib.hid hL.len
  clear hL
  go_enter Try.func11, Try.ntmps11
  go_wp2_with fail
  refine HO.out.mono ?_
  rintro e w1 ⟨A1, c1, vs, rfl, hown, hb1, hnfl⟩
  obtain ⟨g, rfl, hg1, hg2, henv, hon, hvals⟩ := hown.sees hn
  have HS := Lib.hid (sortStable_any g n c1 (valsOf n vs) (keyOf' L) w1 henv hon)
  have HCC : Hid (n ≤ c1) := henv.hc
  have hval2 : ∀ i, i < n → BIn (fun b => (w.heap.size ≤ b ∧ b ≠ g) ∧ Nf w1 b) w1 (valsOf n vs i).1 (L.getD i ([], [])).1 ∧ BIn (fun b => (w.heap.size ≤ b ∧ b ≠ g) ∧ Nf w1 b) w1 (valsOf n vs i).2 (L.getD i ([], [])).2 := fun i hi => by
    have h1 := hvals i hi
    simp only [valsOf, if_pos hi] at h1 ⊢
    exact ⟨h1.1.and (hnfl.get _), h1.2.and (hnfl.get _)⟩
  have HG := Lib.hid (And.intro hg1 (And.intro hg2 (And.intro hval2 hb1)))
  clear hown henv hon hg1 hg2 hvals hb1 hnfl hval2
  unfold fnC at HS
  go_wp2_with fail
  refine HS.out.mono ?_
  rintro e w2 ⟨rfl, f, hon, hpost⟩
  have hf : ∀ p, p < n → f p < n := fun p hp => by
    obtain ⟨q, _, h2, e⟩ := hpost.1.fro p (Nat.zero_le _) hp
    rw [e]; exact h2
  have hk2 : Below w.heap.size w w2 := by
    have hk := hon.kept
    have hb1 := HG.out.2.2.2
    exact ⟨hk.os.trans hb1.os, hk.tape.trans hb1.tape, hk.output.trans hb1.output, Nat.le_trans hb1.size hk.size, fun b hb => (hk.block b (Nat.lt_of_lt_of_le hb hb1.size) (fun e => by have h1 := HG.out.1; injection e with e; omega)).trans (hb1.block b hb)⟩
  have HM0 := Lib.hid (hon.reads2 (base := w.heap.size) (c := 0) HG.out.2.2.1 hf).2
  have hgw2 : g < w2.heap.size := Nat.lt_of_lt_of_le HG.out.2.1 hon.kept.size
  have hnf2 : ∀ b, (w.heap.size ≤ b ∧ b ≠ g) ∧ Nf w1 b → (w.heap.size ≤ b ∧ b < w2.heap.size) ∧ Nf w2 b := fun b hb => by
    have h2 := hb.2.same (hon.kept.block b hb.2.lt (fun e => hb.1.2 (Option.some.inj e).symm))
    exact ⟨⟨hb.1.1, h2.lt⟩, h2⟩
  have HGW : Hid (g < w2.heap.size ∧ ∀ b, (w.heap.size ≤ b ∧ b ≠ g) ∧ Nf w1 b → (w.heap.size ≤ b ∧ b < w2.heap.size) ∧ Nf w2 b) := ⟨hgw2, hnf2⟩
  clear hgw2 hnf2
  have HPOST := Lib.hid hpost
  have HK2 := Lib.hid hk2
  have HML : Hid ((sortL L f n).length = n) := sortL_len L f n
  clear hon hpost hf hk2 HS HG
  obtain ⟨M, hM⟩ : ∃ M, sortL L f n = M := ⟨_, rfl⟩
  have HMM := Lib.hid hM
  rw [hM] at HM0 HML
  clear hM
  have HPS : Hid (∀ W, Below w2.heap.size w2 W → ∀ j, j < n → ∃ kv xv, W.cell? ⟨g, j * 2, none⟩ = some kv ∧ W.cell? ⟨g, j * 2 + 1, none⟩ = some xv ∧ BIn (fun b => (w.heap.size ≤ b ∧ b < w2.heap.size) ∧ Nf w2 b) W kv (M.getD j ([], [])).1 ∧ BIn (fun b => (w.heap.size ≤ b ∧ b < w2.heap.size) ∧ Nf w2 b) W xv (M.getD j ([], [])).2) := fun W hW j hj => by
    obtain ⟨kv, xv, h1, h2, h3, h4⟩ := HM0.out j hj
    exact ⟨kv, xv, (cell_block (hW.block g HGW.out.1)).trans h1, (cell_block (hW.block g HGW.out.1)).trans h2, (h3.imp fun b _ hS => HGW.out.2 b hS).below hW, (h4.imp fun b _ hS => HGW.out.2 b hS).below hW⟩
  have hi' := hi
  go_wp2_with fail
  go_loopw [3, 12] (fun u v wr => ∃ (j : Nat) (A' : Option Addr) (c' : Nat) (us : List Value), u = .slice A' (dd M j).length c' ∧ v = .int .i64 (j : Int) ∧ j ≤ n ∧ Hid (wr.ownsRow w2.heap.size 34 2 (.slice A' (dd M j).length c') (dd M j).length us ∧ PsOf (fun b => (w.heap.size ≤ b ∧ b < w2.heap.size) ∧ Nf w2 b) wr us (dd M j) ∧ Below w2.heap.size w2 wr)) (fun _ v _ => n - (intOf v).toNat)
  case atStart => exact ⟨0, none, 0, [], rfl, rfl, by omega, Lib.hid ⟨World.ownsRow_nil _ _ _ _, ⟨rfl, fun j hj => by simp [dd] at hj⟩, Below.refl _ _⟩⟩
  case round =>
    obtain ⟨j, A', c', us, rfl, rfl, hj, hI⟩ := hrel
    by_cases hlt : j < n
    · obtain ⟨kv, xv, c0, c1', hk, hx⟩ := HPS.out _ hI.out.2.2 j hlt
      obtain ⟨Ak, nk, ck, rfl⟩ := hk.slice
      obtain ⟨Ax, nx, cx, rfl⟩ := hx.slice
      have hcc := HCC.out
      have al : (0 : Int) ≤ (j : Int) := by omega
      have al3 : (j : Int) < (n : Int) := by omega
      have hbx := (Below.refl _ wr).alloc (Nat.le_refl _) (.cells #[.slice Ak nk ck, .slice Ax nx cx] 34)
      have htw : Two (wr.alloc (.cells #[.slice Ak nk ck, .slice Ax nx cx] 34)) wr.heap.size (.slice Ak nk ck) (.slice Ax nx cx) := heap_new wr _
      have hb2X : Below w2.heap.size w2 (wr.alloc (.cells #[.slice Ak nk ck, .slice Ax nx cx] 34)) := hI.out.2.2.alloc hI.out.2.2.size _
      have HX : Hid (Below wr.heap.size wr (wr.alloc (.cells #[.slice Ak nk ck, .slice Ax nx cx] 34)) ∧ Below w2.heap.size w2 (wr.alloc (.cells #[.slice Ak nk ck, .slice Ax nx cx] 34)) ∧ BIn (fun b => (w.heap.size ≤ b ∧ b < w2.heap.size) ∧ Nf w2 b) (wr.alloc (.cells #[.slice Ak nk ck, .slice Ax nx cx] 34)) (.slice Ak nk ck) (M.getD j ([], [])).1 ∧ BIn (fun b => (w.heap.size ≤ b ∧ b < w2.heap.size) ∧ Nf w2 b) (wr.alloc (.cells #[.slice Ak nk ck, .slice Ax nx cx] 34)) (.slice Ax nx cx) (M.getD j ([], [])).2) :=
        ⟨hbx, hb2X, hk.below hbx, hx.below hbx⟩
      have HTW := Lib.hid htw
      have hle := dd_len M j
      have HLE := Lib.hid hle
      have hdl : (dd M j).length ≤ 100000 := by omega
      have HSUC := Lib.hid (dd_succ M j)
      have hgb : Hid (wr.heap.size < (wr.alloc (.cells #[.slice Ak nk ck, .slice Ax nx cx] 34)).heap.size) := (by simp : wr.heap.size < (wr.alloc (.cells #[.slice Ak nk ck, .slice Ax nx cx] 34)).heap.size)
      have HOX : Hid ((wr.alloc (.cells #[.slice Ak nk ck, .slice Ax nx cx] 34)).ownsRow w2.heap.size 34 2 (.slice A' (dd M j).length c') (dd M j).length us ∧ PsOf (fun b => (w.heap.size ≤ b ∧ b < w2.heap.size) ∧ Nf w2 b) (wr.alloc (.cells #[.slice Ak nk ck, .slice Ax nx cx] 34)) us (dd M j)) := ⟨own_below hI.out.1 hbx, hI.out.2.1.carry hbx.size fun b _ hl => hbx.block b hl⟩
      clear hk hx hbx htw hb2X hle
      go_upto_region 7 with fail
      clear c0 c1'
      generalize wr.heap.size = gb at *
      generalize wr.alloc (.cells #[.slice Ak nk ck, .slice Ax nx cx] 34) = X at *
      have s0 := fun p : BelowBy X => (HTW.out.below p.below hgb.out).cells.1
      have s1 := fun p : BelowBy X => (HTW.out.below p.below hgb.out).cells.2
      -- what is behind the test, where the pair is taken
      by_cases hj1 : j + 1 < n
      · obtain ⟨kv2, xv2, d0, d1, hk2, hx2⟩ := HPS.out _ HX.out.2.1 (j + 1) hj1
        obtain ⟨Ak2, nk2, ck2, rfl⟩ := hk2.slice
        have hj1' : (j : Int) + 1 < (n : Int) := by omega
        have wj : IntKind.i64.wrap ((j : Int) + 1) = ((j + 1 : Nat) : Int) := by rw [wsm _ (by omega)]; omega
        obtain ⟨j1, hj1e⟩ : ∃ j1, j + 1 = j1 := ⟨_, rfl⟩
        have al4 : (0 : Int) ≤ (j1 : Int) := by omega
        have al5 : (j1 : Int) < (n : Int) := by omega
        rw [hj1e] at wj d0 d1 hk2 hj1
        have r0 := fun p : BelowBy X => (World.cell?_of_below p.below d0)
        have HEQ := Lib.hid (fun p : BelowBy X => equal_any (.slice Ak2 nk2 ck2) (.slice Ak nk ck) (M.getD j1 ([], [])).1 (M.getD j ([], [])).1 p.W (hk2.below p.below) (HX.out.2.2.1.below p.below))
        have HKB : Hid (keepB M j = !decide ((M.getD j1 ([], [])).1 = (M.getD j ([], [])).1)) := by
          unfold keepB
          rw [HML.out, hj1e, decide_eq_true hj1]; rfl
        have HJ1 := Lib.hid hj1e
        clear hk2 hx2 d0 d1 hj1e
        by_cases hkk : (M.getD j1 ([], [])).1 = (M.getD j ([], [])).1
        · rw [decide_eq_true hkk] at HEQ HKB
          clear hkk
          refine wp_region_quiet_below (by kernel_rfl) (by kernel_rfl) ?_
          repeat (quiet_step (first | (go_at_call 27; with_reducible refine Calls.below_same (HEQ.out _))))
          refine wpQuiet_nil ?_
          intro _ hw'
          obtain ⟨pb, rfl⟩ := hw'
          have HN : Hid (pb.W.ownsRow w2.heap.size 34 2 (.slice A' (dd M j).length c') (dd M j).length us ∧ PsOf (fun b => (w.heap.size ≤ b ∧ b < w2.heap.size) ∧ Nf w2 b) pb.W us (dd M j) ∧ Below w2.heap.size w2 pb.W) :=
            ⟨own_below HOX.out.1 pb.below, HOX.out.2.carry pb.below.size fun b _ hl => pb.below.block b hl, HX.out.2.1.trans (pb.below.mono HX.out.2.1.size)⟩
          have HDD : Hid (dd M (j + 1) = dd M j) := by rw [HSUC.out, HKB.out]; exact (by simp : dd M j ++ (if (!true) = true then [((M.getD j ([], [])).1, (M.getD j ([], [])).2)] else []) = dd M j)
          clear s0 s1 r0 wj
          go_wp2_with fail
          go_roundw
          case rel => exact ⟨j + 1, A', c', us, by rw [HDD.out], by go_num, by omega, by rw [HDD.out]; exact HN⟩
          case measure => simp [intOf]; omega
        · rw [decide_eq_false hkk] at HEQ HKB
          clear hkk
          refine wp_region_quiet_below (by kernel_rfl) (by kernel_rfl) ?_
          repeat (quiet_step (first | (go_at_call 27; with_reducible refine Calls.below_same (HEQ.out _))))
          refine wpQuiet_nil ?_
          intro _ hw'
          obtain ⟨pb, rfl⟩ := hw'
          clear r0 wj
          have HDD : Hid (dd M (j + 1) = dd M j ++ [((M.getD j ([], [])).1, (M.getD j ([], [])).2)]) := by rw [HSUC.out, HKB.out]; exact (by simp : dd M j ++ (if (!false) = true then [((M.getD j ([], [])).1, (M.getD j ([], [])).2)] else []) = dd M j ++ [((M.getD j ([], [])).1, (M.getD j ([], [])).2)])
          have c0 := s0 pb
          have c1' := s1 pb
          have HOP : Hid (pb.W.ownsRow w2.heap.size 34 2 (.slice A' (dd M j).length c') (dd M j).length us ∧ PsOf (fun b => (w.heap.size ≤ b ∧ b < w2.heap.size) ∧ Nf w2 b) pb.W us (dd M j) ∧ Below w2.heap.size w2 pb.W ∧ BIn (fun b => (w.heap.size ≤ b ∧ b < w2.heap.size) ∧ Nf w2 b) pb.W (.slice Ak nk ck) (M.getD j ([], [])).1 ∧ BIn (fun b => (w.heap.size ≤ b ∧ b < w2.heap.size) ∧ Nf w2 b) pb.W (.slice Ax nx cx) (M.getD j ([], [])).2) :=
            ⟨own_below HOX.out.1 pb.below, HOX.out.2.carry pb.below.size fun b _ hl => pb.below.block b hl, HX.out.2.1.trans (pb.below.mono HX.out.2.1.size), HX.out.2.2.1.below pb.below, HX.out.2.2.2.below pb.below⟩
          clear s0 s1
          generalize pb.W = V at *
          go_wp2_with (at_builtin; refine wpList_append_own _ rfl _ _ 22 rfl w2.heap.size 34 i0 (.agg #[.slice none 0 0, .slice none 0 0]) 2 48 Try.underlying22 hi hz0 hz1 hz2 rfl (by decide) _ _ _ rfl (HOP.out.1.alloc _) ⟨V.heap.size, 0, none⟩ 1 1 [.slice Ak nk ck, .slice Ax nx cx] ?c1 rfl ?c2 (by simp [Value.oneCell']) ?c3 ?c4 ?c5 ?_)
          case c1 => simp [Act.eval]
          case c2 =>
            have := World.news_of_block (heap_new V (.cells #[.slice Ak nk ck, .slice Ax nx cx] 34))
            simpa using this
          case c3 => unfold maxLen; omega
          case c4 => omega
          case c5 => have := HOP.out.2.2.1.size; simp; omega
          intro v' w3 hown1 hgrow _
          obtain ⟨A3, c3, rfl⟩ := own_slice hown1
          have hbn : Below V.heap.size V (V.alloc (.cells #[.slice Ak nk ck, .slice Ax nx cx] 34)) := (Below.refl _ _).alloc (Nat.le_refl _) _
          have hps : PsOf (fun b => (w.heap.size ≤ b ∧ b < w2.heap.size) ∧ Nf w2 b) w3 (us ++ [.slice Ak nk ck, .slice Ax nx cx]) (dd M j ++ [((M.getD j ([], [])).1, (M.getD j ([], [])).2)]) := by
            refine PsOf.grown (row := (Value.slice A' (dd M j).length c').ownBlock) ?_ hgrow (fun b hb _ e => by have h1 := HOP.out.1.lt b e; have h2 := hb.1; omega)
            exact (HOP.out.2.1.carry hbn.size fun b _ hl => hbn.block b hl).snoc (HOP.out.2.2.2.1.below hbn) (HOP.out.2.2.2.2.below hbn)
          have HN : Hid (w3.ownsRow w2.heap.size 34 2 (.slice A3 ((dd M j).length + 1) c3) ((dd M j).length + 1) (us ++ [.slice Ak nk ck, .slice Ax nx cx]) ∧ PsOf (fun b => (w.heap.size ≤ b ∧ b < w2.heap.size) ∧ Nf w2 b) w3 (us ++ [.slice Ak nk ck, .slice Ax nx cx]) (dd M j ++ [((M.getD j ([], [])).1, (M.getD j ([], [])).2)]) ∧ Below w2.heap.size w2 w3) :=
            ⟨hown1, hps, (HOP.out.2.2.1.alloc HOP.out.2.2.1.size _).grown hgrow (by have := HOP.out.2.2.1.size; simp; omega) (fun k e => (HOP.out.1.lt k e).1)⟩
          have HL1 : Hid ((dd M (j + 1)).length = (dd M j).length + 1) := by rw [HDD.out]; exact (by simp : (dd M j ++ [((M.getD j ([], [])).1, (M.getD j ([], [])).2)]).length = (dd M j).length + 1)
          clear hown1 hgrow hbn hps c0 c1'
          go_wp2_with fail
          go_roundw
          case rel => exact ⟨j + 1, A3, c3, _, by rw [HL1.out], by go_num, by omega, by rw [HL1.out, HDD.out]; exact HN⟩
          case measure => simp [intOf]; omega
      · have hj1' : ¬ (j : Int) + 1 < (n : Int) := by omega
        have wj : IntKind.i64.wrap ((j : Int) + 1) = (j : Int) + 1 := wsm _ (by omega)
        have HKB : Hid (keepB M j = !false) := by
          unfold keepB
          rw [HML.out, decide_eq_false hj1]; rfl
        go_quiet (fail)
        clear wj
        obtain ⟨pb, hpb⟩ : ∃ pb : BelowBy X, X.drewN nq = pb.W := ⟨⟨X.drewN nq, below_drewN' nq⟩, rfl⟩
        rw [hpb]
        clear hpb
        have HDD : Hid (dd M (j + 1) = dd M j ++ [((M.getD j ([], [])).1, (M.getD j ([], [])).2)]) := by rw [HSUC.out, HKB.out]; exact (by simp : dd M j ++ (if (!false) = true then [((M.getD j ([], [])).1, (M.getD j ([], [])).2)] else []) = dd M j ++ [((M.getD j ([], [])).1, (M.getD j ([], [])).2)])
        have c0 := s0 pb
        have c1' := s1 pb
        have HOP : Hid (pb.W.ownsRow w2.heap.size 34 2 (.slice A' (dd M j).length c') (dd M j).length us ∧ PsOf (fun b => (w.heap.size ≤ b ∧ b < w2.heap.size) ∧ Nf w2 b) pb.W us (dd M j) ∧ Below w2.heap.size w2 pb.W ∧ BIn (fun b => (w.heap.size ≤ b ∧ b < w2.heap.size) ∧ Nf w2 b) pb.W (.slice Ak nk ck) (M.getD j ([], [])).1 ∧ BIn (fun b => (w.heap.size ≤ b ∧ b < w2.heap.size) ∧ Nf w2 b) pb.W (.slice Ax nx cx) (M.getD j ([], [])).2) :=
          ⟨own_below HOX.out.1 pb.below, HOX.out.2.carry pb.below.size fun b _ hl => pb.below.block b hl, HX.out.2.1.trans (pb.below.mono HX.out.2.1.size), HX.out.2.2.1.below pb.below, HX.out.2.2.2.below pb.below⟩
        clear s0 s1
        generalize pb.W = V at *
        go_wp2_with (at_builtin; refine wpList_append_own _ rfl _ _ 22 rfl w2.heap.size 34 i0 (.agg #[.slice none 0 0, .slice none 0 0]) 2 48 Try.underlying22 hi hz0 hz1 hz2 rfl (by decide) _ _ _ rfl (HOP.out.1.alloc _) ⟨V.heap.size, 0, none⟩ 1 1 [.slice Ak nk ck, .slice Ax nx cx] ?c1 rfl ?c2 (by simp [Value.oneCell']) ?c3 ?c4 ?c5 ?_)
        case c3 => unfold maxLen; omega
        case c4 => omega
        case c5 => have := HOP.out.2.2.1.size; simp; omega
        intro v' w3 hown1 hgrow _
        obtain ⟨A3, c3, rfl⟩ := own_slice hown1
        have hbn : Below V.heap.size V (V.alloc (.cells #[.slice Ak nk ck, .slice Ax nx cx] 34)) := (Below.refl _ _).alloc (Nat.le_refl _) _
        have hps : PsOf (fun b => (w.heap.size ≤ b ∧ b < w2.heap.size) ∧ Nf w2 b) w3 (us ++ [.slice Ak nk ck, .slice Ax nx cx]) (dd M j ++ [((M.getD j ([], [])).1, (M.getD j ([], [])).2)]) := by
          refine PsOf.grown (row := (Value.slice A' (dd M j).length c').ownBlock) ?_ hgrow (fun b hb _ e => by have h1 := HOP.out.1.lt b e; have h2 := hb.1; omega)
          exact (HOP.out.2.1.carry hbn.size fun b _ hl => hbn.block b hl).snoc (HOP.out.2.2.2.1.below hbn) (HOP.out.2.2.2.2.below hbn)
        have HN : Hid (w3.ownsRow w2.heap.size 34 2 (.slice A3 ((dd M j).length + 1) c3) ((dd M j).length + 1) (us ++ [.slice Ak nk ck, .slice Ax nx cx]) ∧ PsOf (fun b => (w.heap.size ≤ b ∧ b < w2.heap.size) ∧ Nf w2 b) w3 (us ++ [.slice Ak nk ck, .slice Ax nx cx]) (dd M j ++ [((M.getD j ([], [])).1, (M.getD j ([], [])).2)]) ∧ Below w2.heap.size w2 w3) :=
          ⟨hown1, hps, (HOP.out.2.2.1.alloc HOP.out.2.2.1.size _).grown hgrow (by have := HOP.out.2.2.1.size; simp; omega) (fun k e => (HOP.out.1.lt k e).1)⟩
        have HL1 : Hid ((dd M (j + 1)).length = (dd M j).length + 1) := by rw [HDD.out]; exact (by simp : (dd M j ++ [((M.getD j ([], [])).1, (M.getD j ([], [])).2)]).length = (dd M j).length + 1)
        clear hown1 hgrow hbn hps c0 c1'
        go_wp2_with fail
        go_roundw
        case rel => exact ⟨j + 1, A3, c3, _, by rw [HL1.out], by go_num, by omega, by rw [HL1.out, HDD.out]; exact HN⟩
        case measure => simp [intOf]; omega
    · obtain rfl : j = n := by omega
      obtain ⟨h1, h2⟩ := reads_own (S := New w.heap.size) hI.out.1 hI.out.2.1 rfl (fun b _ hb => hb.1.1) (fun b hb => Nat.le_trans HK2.out.size hb)
      have hnl : NfL wr us := fun v hv => by
        obtain ⟨i, hi, rfl⟩ := List.getElem_of_mem hv
        have hp := hI.out.2.1
        have hpl := hp.len
        obtain ⟨kv, xv, e1, e2, e3, e4⟩ := hp.at_ (i / 2) (by omega)
        have fin : ∀ {l : Bytes}, BIn (fun b => (w.heap.size ≤ b ∧ b < w2.heap.size) ∧ Nf w2 b) wr (us[i]) l → NfV wr us[i] := fun hb A n c b o e hn ea => by
          rw [e] at hb
          have hS := hb.dom b o hn ea
          exact hS.2.same (hI.out.2.2.block b hS.1.2)
        rcases (by omega : i = i / 2 * 2 ∨ i = i / 2 * 2 + 1) with h2 | h2
        · have : us[i]? = some kv := by rw [h2]; exact e1
          rw [List.getElem?_eq_getElem hi] at this
          exact fin (by rw [Option.some.inj this]; exact e3)
        · have : us[i]? = some xv := by rw [h2]; exact e2
          rw [List.getElem?_eq_getElem hi] at this
          exact fin (by rw [Option.some.inj this]; exact e4)
      have hnr := nfR_of hI.out.1 hnl
      have HF : Hid ((dd (sortL L f j) j).length ≤ c' ∧ LIn (New w.heap.size) wr A' (dd (sortL L f j) j).length (dd (sortL L f j) j) ∧ Below w.heap.size w wr ∧ NfR wr A' (dd (sortL L f j) j).length) := by
        rw [HMM.out]
        exact And.intro h2 (And.intro h1 (And.intro (HK2.out.trans (hI.out.2.2.mono HK2.out.size)) hnr))
      have HME := Lib.hid HMM.out
      clear h1 h2 hnr hnl
      go_wp2_with fail
      go_ret
      exact ⟨A', c', f, by rw [HMM.out]; rfl, HF.out⟩

end Go.Proofs.Ytocideolihbnaaa
