/- Texts put together: FPick FCollapse. -/
import Derived.Test.YtphjaebkcimklaaGreatDoorMf1
import Derived.Test.YtphjaebkcimklaaGreatDoorMb
/- prune.pick: a branch of some of another one's children. -/
set_option linter.unusedVariables false
set_option linter.unusedSimpArgs false
namespace Go.Proofs.YtphjaebkcimklaaGreatDoor
open Go.RowKit Go.Shelf
attribute [local go_sem] Oper.semAt_some

/-- Some of the children. -/
def TT.sub (m : Nat) (kid : Nat → TT) : Nat → TT := fun i => if m.testBit i = true then kid i else .none
/-- A branch of them, if there are any. -/
def TT.some' (m : Nat) (kid : Nat → TT) : TT := if B.listN m 32 = [] then .none else .branch (TT.sub m kid)

set_option maxRecDepth 100000 in
set_option maxHeartbeats 3200000 in
theorem pick_any {S : Nat → Prop} (kid : Nat → TT) (v : Value) (m' : Nat) (w : World) (hT : TrIn S w (.branch kid) v) (hm' : m' < 4294967296) (hsub : ∀ i, m'.testBit i = true → (kid i).isNone = false) (hTab : B.TabOK w) :
    Calls Tryz.prog 149 #[v, .int .u32 (m' : Int)] w fun e w' => ∃ u, e = .returned u ∧ TrIn (Up S w.heap.size) w' (TT.some' m' kid) u ∧ Below w.heap.size w w' := by
  obtain ⟨b, m, A, c', cnt, us, rfl, hSb, hB, hm, hbit, hl, hcap, hV, htk⟩ := hT
  obtain ⟨i0, hi, hz0, hz1, hz2⟩ := info_parts info33
  have hbY : Below w.heap.size w (((w.alloc (.cells #[.iface 200 (.pointer (some ⟨b, 0, none⟩))] 33)).alloc (.cells #[.slice none 0 0] 203)).alloc (.cells #[.int .u32 (m' : Int)] 186)) := (((Below.refl _ w).alloc (Nat.le_refl _) _).alloc (by simp) _).alloc (by simp; omega) _
  have j3 : Boxed (((w.alloc (.cells #[.iface 200 (.pointer (some ⟨b, 0, none⟩))] 33)).alloc (.cells #[.slice none 0 0] 203)).alloc (.cells #[.int .u32 (m' : Int)] 186)) w.heap.size 33 (.iface 200 (.pointer (some ⟨b, 0, none⟩))) := ((Boxed.new w 33 _).alloc _).alloc _
  have k9 : Boxed (((w.alloc (.cells #[.iface 200 (.pointer (some ⟨b, 0, none⟩))] 33)).alloc (.cells #[.slice none 0 0] 203)).alloc (.cells #[.int .u32 (m' : Int)] 186)) (w.heap.size + 1) 203 (.slice none 0 0) := by
    have := Boxed.new (w.alloc (.cells #[.iface 200 (.pointer (some ⟨b, 0, none⟩))] 33)) 203 (.slice none 0 0)
    rw [World.size_alloc] at this
    exact this.alloc _
  have kB : Boxed (((w.alloc (.cells #[.iface 200 (.pointer (some ⟨b, 0, none⟩))] 33)).alloc (.cells #[.slice none 0 0] 203)).alloc (.cells #[.int .u32 (m' : Int)] 186)) (w.heap.size + 1 + 1) 186 (.int .u32 (m' : Int)) := by
    have := Boxed.new ((w.alloc (.cells #[.iface 200 (.pointer (some ⟨b, 0, none⟩))] 33)).alloc (.cells #[.slice none 0 0] 203)) 186 (.int .u32 (m' : Int))
    rw [World.size_alloc, World.size_alloc] at this
    exact this
  have hsY : (((w.alloc (.cells #[.iface 200 (.pointer (some ⟨b, 0, none⟩))] 33)).alloc (.cells #[.slice none 0 0] 203)).alloc (.cells #[.int .u32 (m' : Int)] 186)).heap.size = w.heap.size + 1 + 1 + 1 := by simp
  refine (callsIn_wide (n := 6)).1 (callsIn_of_wp_marks Tryz.func149 rfl trivial ((wpIn_wide (n := 6)).2 ?_) rfl)
  simp only [Tryz.ntmps149, List.size_toArray, List.length_cons, List.length_nil, Nat.reduceAdd, Nat.reduceSub, Array.replicate_succ, Array.replicate_zero, List.push_toArray, List.append_toArray, List.nil_append, List.cons_append]
  have HD := Lib.hid (And.intro hB (And.intro hbit (And.intro hl (And.intro hcap (And.intro hV htk)))))
  have HM' := Lib.hid (And.intro hm' hsub)
  have HTB := Lib.hid hTab
  have HS := Lib.hid hsY
  have HJ := Lib.hid (And.intro j3 (And.intro k9 kB))
  clear hB hbit hl hcap hV htk hsub hTab hsY j3 k9 kB
  go_wp2_with fail
  refine (B.allf_any m' _).mono ?_
  rintro e w1 ⟨rfl, hw1⟩
  rw [hw1]
  clear hw1 w1
  go_wp2_with fail
  have hw2 : w.heap.size + 1 + 1 < (((w.alloc (.cells #[.iface 200 (.pointer (some ⟨b, 0, none⟩))] 33)).alloc (.cells #[.slice none 0 0] 203)).alloc (.cells #[.int .u32 (m' : Int)] 186)).heap.size := by have := HS.out; omega
  obtain ⟨j3, k9, kB⟩ := HJ.out
  generalize (((w.alloc (.cells #[.iface 200 (.pointer (some ⟨b, 0, none⟩))] 33)).alloc (.cells #[.slice none 0 0] 203)).alloc (.cells #[.int .u32 (m' : Int)] 186)) = Y at *
  refine (wpIn_wide (n := 6)).1 ?_
  refine wpIn_rangeFunc_ownF rfl (by omega) (gf := 145) (lb := #[.pointer (some ⟨w.heap.size + 1 + 1, 0, none⟩)]) rfl trivial (enters_of Tryz.func145 (by kernel_rfl) rfl)
    (B.all_stops (w.heap.size + 1 + 1) (w.heap.size + 1) m' HM'.out.1 (by have := HTB.out.1; omega) Y (by omega) (by omega) kB.cell (HTB.out.below HTB.out.1 (Nat.le_refl _) hbY)) belowK_t (belowK_b (by omega)) (Below.refl _ _) (fun _ => rfl)
    (fun pre W => ((∃ v, Boxed W (w.heap.size + 1) 203 v ∧ W.ownsRow (w.heap.size + 1) 33 1 v pre.length (pre.map (kvalM us m)) ∧ True) ∧ Boxed W w.heap.size 33 (.iface 200 (.pointer (some ⟨b, 0, none⟩)))) ∧ Below w.heap.size w W)
    (fun _ _ _ => False)
    (OwnFrom.and (OwnFrom.and (Own.from (holdsRow_own (w.heap.size + 1) (w.heap.size + 1) 203 33 1 (fun pre : List Int => pre.length) (fun pre => pre.map (kvalM us m)) (fun _ _ => True)) _) (Own.from (fun s A B row hs hg hr => hs.own hg hr) _)) (ownFrom_below (Nat.le_refl _) (by omega)))
    (fun _ _ _ _ _ hs _ _ => hs)
    ⟨⟨⟨_, k9, World.ownsRow_nil _ _ _ _, trivial⟩, j3⟩, hbY⟩
    (fun x => { tmps := #[.iface 200 (.pointer (some ⟨b, 0, none⟩)), .int .u32 (m' : Int), .pointer (some ⟨w.heap.size, 0, none⟩), undef, .nilIface, .pointer (some ⟨w.heap.size + 1, 0, none⟩), .int .i64 x, undef, undef, .int .u32 (m' : Int), .func (.func 145) #[] #[.pointer (some ⟨w.heap.size + 1 + 1, 0, none⟩)], .int .i64 x, undef, undef, undef, undef, undef, undef, undef, undef, undef, undef, undef, undef, undef], defers := [] }) ?assign ?body ?done ?stop
  case assign =>
    intro l x W K hK
    gi_wp2
    exact hK
  case body =>
    rintro l pre x W ⟨⟨⟨v, hv, hrow, _⟩, h3⟩, hB⟩ hlt
    have hc9 := hv.cell
    have z3 := h3.cell
    have hBs := hB.size
    have hvl := hv.lt
    have hpl : pre.length < 32 := hlt
    have HE : Hid ((pre ++ [x]).map (kvalM us m) = pre.map (kvalM us m) ++ [kvalM us m x]) := by
      rw [List.map_append, List.map_singleton]; exact (rfl : pre.map (kvalM us m) ++ [kvalM us m x] = _)
    have HKI := Lib.hid (kid_int b m x A c' cnt us W ⟨(hB.block b (Array.getElem?_eq_some_iff.1 HD.out.1.cells).1).trans HD.out.1.cells⟩ hm HD.out.2.2.1 (HD.out.2.2.2.2.1.below hB))
    have hif := kvalM_if (us := us) (fun u hu => by
      obtain ⟨j, hj, rfl⟩ := List.getElem_of_mem hu
      have := (HD.out.2.2.2.2.2 j hj).isIf
      rwa [List.getD_eq_getElem?_getD, List.getElem?_eq_getElem hj, Option.getD_some] at this) m x
    generalize kvalM us m x = kv at *
    rcases hif with rfl | ⟨kT, kp, rfl⟩
    · gi_wp2
      refine ⟨trivial, ?_⟩
      with_reducible refine (CallsIn.inRound l (callsIn_wide.2 HKI.out)).mono ?_
      rintro e wq ⟨q, r, rfl, rfl⟩
      have HRW := ownsRow_drewN hrow q
      have c9q : (W.drewN q).cell? ⟨w.heap.size + 1, 0, none⟩ = some v := hc9
      gi_wp2_with (gi_at_builtin; refine wpListIn_append_own _ rfl _ _ 203 rfl (w.heap.size + 1) 33 i0 .nilIface 1 16 Tryz.underlying203 hi hz0 hz1 hz2 rfl (by decide) _ _ _ rfl (HRW.alloc _) ⟨W.heap.size, 0, none⟩ 1 1 [.nilIface] rfl rfl (cell_one_new _ _ _) (by simp [Value.oneCell']) (by unfold maxLen; omega) (by omega) (by simp; omega) ?_; intro v' w2 hown' hgrow _; obtain ⟨g', cap', rfl⟩ := ownsRow_succ hown'; obtain ⟨hv1, hv2, hr2, hk2, hb2⟩ := Boxed.appended (W := W.drewN q) hv (by decide) HRW (Nat.le_of_lt hv.lt) (Nat.le_refl _) hown' hgrow; have hc1 := hv1.cell; have hf1 := hv1.frozen)
      have hb2' : Below (w.heap.size + 1) W _ := (below_drewN (Below.refl _ W) q).trans hb2
      exact ⟨⟨hk2.1, hk2.2⟩, hb2', ⟨⟨_, hv2, by rw [HE.out, List.length_append]; exact hr2, trivial⟩, (hb2.block _ (by omega)).trans h3⟩, hB.trans (hb2'.mono (by omega))⟩
    · gi_wp2
      refine ⟨trivial, ?_⟩
      with_reducible refine (CallsIn.inRound l (callsIn_wide.2 HKI.out)).mono ?_
      rintro e wq ⟨q, r, rfl, rfl⟩
      have HRW := ownsRow_drewN hrow q
      have c9q : (W.drewN q).cell? ⟨w.heap.size + 1, 0, none⟩ = some v := hc9
      gi_wp2_with (gi_at_builtin; refine wpListIn_append_own _ rfl _ _ 203 rfl (w.heap.size + 1) 33 i0 .nilIface 1 16 Tryz.underlying203 hi hz0 hz1 hz2 rfl (by decide) _ _ _ rfl (HRW.alloc _) ⟨W.heap.size, 0, none⟩ 1 1 [.iface kT kp] rfl rfl (cell_one_new _ _ _) (by simp [Value.oneCell']) (by unfold maxLen; omega) (by omega) (by simp; omega) ?_; intro v' w2 hown' hgrow _; obtain ⟨g', cap', rfl⟩ := ownsRow_succ hown'; obtain ⟨hv1, hv2, hr2, hk2, hb2⟩ := Boxed.appended (W := W.drewN q) hv (by decide) HRW (Nat.le_of_lt hv.lt) (Nat.le_refl _) hown' hgrow; have hc1 := hv1.cell; have hf1 := hv1.frozen)
      have hb2' : Below (w.heap.size + 1) W _ := (below_drewN (Below.refl _ W) q).trans hb2
      exact ⟨⟨hk2.1, hk2.2⟩, hb2', ⟨⟨_, hv2, by rw [HE.out, List.length_append]; exact hr2, trivial⟩, (hb2.block _ (by omega)).trans h3⟩, hB.trans (hb2'.mono (by omega))⟩
  case done =>
    rintro D ys W hD rfl ⟨⟨⟨v, hv, hrow, _⟩, h3⟩, hB⟩ hK
    have hc9 := hv.cell
    have HOWN := Lib.hid hrow
    have HBO := Lib.hid hB
    have hys : (B.listN m' 32).length ≤ 32 := by rw [B.listN_len]; exact B.cnt_le _ _
    obtain ⟨Av, cv, rfl, hcv, hVv⟩ := VIn.owned (n := (B.listN m' 32).length) (by simp) hrow
    have hlm : ((B.listN m' 32).map (kvalM us m)).length = (B.listN m' 32).length := by simp
    have hdl : D < W.heap.size := (Array.getElem?_eq_some_iff.1 hK).1
    by_cases he : B.listN m' 32 = []
    · have HT : Hid (TT.some' m' kid = .none) := if_pos he
      rw [he] at hc9
      have hDw : w.heap.size ≤ D := by omega
      have HFIN : Hid (Below w.heap.size w (W.putObj D (.deferred none))) := HBO.out.trans (belowK_b (w := w) (Nat.le_refl _) W D _ _ hDw hK rfl rfl)
      clear hrow hVv hlm HOWN he
      simp only [List.length_nil] at hc9
      go_wp2_with fail
      refine (branch_none m' cv Av W).mono ?_
      rintro e w9 ⟨rfl, rfl⟩
      go_wp2_with fail
      refine ⟨by simp, .inl ⟨_, _, rfl, run_takeDeferred hK, ?_⟩⟩
      exact ⟨_, results_tmp rfl _ _ _, .nilIface, rfl, by rw [HT.out]; rfl, HFIN.out⟩
    · have HT : Hid (TT.some' m' kid = .branch (TT.sub m' kid)) := if_neg he
      have HBR := branch_any (S := Up S w.heap.size) m' Av cv ((B.listN m' 32).map (kvalM us m)) (TT.sub m' kid) W HM'.out.1 (hVv.imp fun b _ hb => .inr (by have : w.heap.size + 1 ≤ b := hb; omega)) (by rw [hlm]; exact List.length_pos_iff.2 he) hlm (by rw [hlm]; exact hcv)
        (fun i => by
          show m'.testBit i = !(if m'.testBit i = true then kid i else .none).isNone
          by_cases e : m'.testBit i = true
          · rw [if_pos e, HM'.out.2 i e, e]; rfl
          · rw [if_neg e]; simp at e; rw [e]; rfl)
        (fun j hj => by
          rw [hlm] at hj
          have hmem : (B.listN m' 32).getD j 0 ∈ B.listN m' 32 := by rw [List.getD_eq_getElem?_getD, List.getElem?_eq_getElem hj, Option.getD_some]; exact List.getElem_mem hj
          have hval : ((B.listN m' 32).map (kvalM us m)).getD j .nilIface = kvalM us m ((B.listN m' 32).getD j 0) := by
            rw [List.getD_eq_getElem?_getD, List.getElem?_map, List.getD_eq_getElem?_getD, List.getElem?_eq_getElem hj]; rfl
          rw [hval]
          generalize (B.listN m' 32).getD j 0 = x at *
          obtain ⟨k, hk, hb, rfl⟩ := (B.mem_listN m' 32 x).1 hmem
          rw [Int.toNat_natCast]
          show TrIn (Up S w.heap.size) W (if m'.testBit k = true then kid k else .none) _ ∧ (if m'.testBit k = true then kid k else .none).isNone = false
          rw [if_pos hb]
          have hb2 : m.testBit k = true := by rw [HD.out.2.1, HM'.out.2 k hb]; rfl
          obtain ⟨ha, hlt⟩ := B.listN_at m k hk hb2
          rw [← HD.out.2.2.1] at hlt
          have hu := HD.out.2.2.2.2.2 _ hlt
          rw [ha, Int.toNat_natCast] at hu
          rw [kvalM, if_pos ((B.mem_listN m 32 k).2 ⟨k, hk, hb2, rfl⟩), Int.toNat_natCast]
          exact ⟨(hu.below HBO.out).up _, HM'.out.2 k hb⟩)
      rw [hlm] at HBR
      have HBR2 := Lib.hid HBR
      clear HBR hrow hVv hlm
      go_wp2_with fail
      refine HBR2.out.mono ?_
      rintro e w9 ⟨bb, rfl, h91, h92⟩
      have HF := Lib.hid (And.intro h91 h92)
      clear h91 h92
      have hK9 : w9.heap[D]? = some (.deferred (some [])) := (HF.out.2.block D hdl).trans hK
      have hDw : w.heap.size ≤ D := by omega
      have HFIN : Hid (TrIn (Up S w.heap.size) (w9.putObj D (.deferred none)) (.branch (TT.sub m' kid)) (.iface 200 (.pointer (some ⟨bb, 0, none⟩))) ∧ Below w.heap.size w (w9.putObj D (.deferred none))) := by
        have hb9 := HBO.out.trans (HF.out.2.mono HBO.out.size)
        exact ⟨(HF.out.1.upup HBO.out.size).putObj hK9 rfl, hb9.trans ((belowK_b (w := w) (Nat.le_refl _) w9 D _ _ hDw hK9 rfl rfl))⟩
      go_wp2_with fail
      refine ⟨by simp, .inl ⟨_, _, rfl, run_takeDeferred hK9, ?_⟩⟩
      exact ⟨_, results_tmp rfl _ _ _, _, rfl, by rw [HT.out]; exact HFIN.out.1, HFIN.out.2⟩
  case stop =>
    rintro D c pre W _ _ h _
    exact h.elim

end Go.Proofs.YtphjaebkcimklaaGreatDoor

/- prune.collapse, prune.without. -/
set_option linter.unusedVariables false
set_option linter.unusedSimpArgs false
namespace Go.Proofs.YtphjaebkcimklaaGreatDoor
open Go.RowKit

theorem list_some (m : Nat) (kid : Nat → TT) (hk : ∀ c, m.testBit c = !(kid c).isNone) : B.listN m 32 = (TT.someKids kid).map fun k : Nat => (k : Int) := by
  unfold B.listN TT.someKids
  rw [show m.testBit = (fun c => !(kid c).isNone) from funext hk]
theorem collapse_nil (w : World) : Calls Tryz.prog 142 #[.nilIface] w fun e w' => e = .returned .nilIface ∧ w = w' := by
  have HM := Lib.hid (map_nil w)
  go_enter Tryz.func142, Tryz.ntmps142
  go_wp2_with fail
  refine HM.out.mono ?_
  rintro e w1 ⟨rfl, rfl⟩
  go_wp2_with fail
  go_ret
  exact ⟨rfl, rfl⟩

def CollOut (S : Nat → Prop) (w w' : World) (e : Ending) (t : TT) : Prop := ∃ u, e = .returned u ∧ TrIn S w' t u ∧ Below w.heap.size w w'

set_option maxRecDepth 100000 in
set_option maxHeartbeats 1600000 in
theorem collapse_any {S : Nat → Prop} (kid : Nat → TT) (v : Value) (w : World) (h : TrIn S w (.branch kid) v) (hne : ∃ c, (kid c).isNone = false) (hTab : B.TabOK w) :
    Calls Tryz.prog 142 #[v] w fun e w' => CollOut S w w' e (TT.collapse kid) := by
  have HT := Lib.hid h
  obtain ⟨b, m, A, c', cnt, us, rfl, hSb, hB, hm, hbit, hl, hcap, hV, htk⟩ := h
  have HM := Lib.hid (map_branch w b m A us.length c' cnt hB)
  have HL := Lib.hid (list_some m kid hbit)
  have hlen : (B.listN m 32).length = (TT.someKids kid).length := by rw [HL.out]; simp
  have HC := Lib.hid (bcount_any m w hm)
  rw [hlen] at HC
  by_cases h1 : (TT.someKids kid).length = 1
  · obtain ⟨c, hc⟩ := List.length_eq_one_iff.1 h1
    have hcm : c < 32 ∧ (kid c).isNone = false := TT.someKids_mem.1 (by rw [hc]; simp)
    have HN := Lib.hid (fun W (hb : Below w.heap.size w W) => B.nth_any m 0 W hm (by omega) (hTab.below hTab.1 (Nat.le_refl _) hb))
    have HK := Lib.hid (fun W (hb : Below w.heap.size w W) => kid_yes kid (.iface 200 (.pointer (some ⟨b, 0, none⟩))) c W (HT.out.below hb) hcm.1 hcm.2)
    have HLC : Hid (B.listN m 32 = [(c : Int)]) := by rw [HL.out, hc]; rfl
    have HCO : Hid (TT.collapse kid = if (kid c).isBranch then .branch kid else kid c) := by unfold TT.collapse; rw [hc]; exact (rfl : (if (kid c).isBranch then TT.branch kid else kid c) = _)
    rw [h1] at HC
    clear hB hbit hl hcap hV htk hlen h1 hc HL hTab
    go_enter Tryz.func142, Tryz.ntmps142
    go_wp2_with fail
    refine HM.out.mono ?_
    rintro e w1 ⟨rfl, rfl⟩
    go_wp2_with fail
    refine HC.out.mono ?_
    rintro e w2 ⟨rfl, hb2⟩
    have HB2 := Lib.hid hb2
    clear hb2
    go_wp2_with fail
    refine (HN.out w2 HB2.out).mono ?_
    rintro e w3 ⟨hr, hb3⟩
    have hr2 : e = .returned (.tuple #[.int .i64 (c : Int), .bool true]) := by
      rcases hr with ⟨j, hj, hjl, rfl⟩ | ⟨hj, _⟩
      · obtain rfl : j = 0 := by omega
        rw [HLC.out]; rfl
      · rw [HLC.out] at hj; simp at hj
    subst hr2
    have HB3 : Hid (Below w1.heap.size w1 w3) := HB2.out.trans (hb3.mono HB2.out.size)
    clear hb3 hr
    go_wp2_with fail
    refine (HK.out w3 HB3.out).mono ?_
    rintro e w4 ⟨u, q, rfl, hu, rfl⟩
    have HU : Hid (TrIn S (w3.drewN q) (kid c) u ∧ Below w1.heap.size w1 (w3.drewN q)) := ⟨hu.below (below_drewN' q), HB3.out.trans ((below_drewN' q).mono HB3.out.size)⟩
    clear hu
    generalize w3.drewN q = X at *
    cases hk : kid c with
    | none => rw [hk] at hcm; exact absurd hcm.2 (by decide)
    | leaf hh k x =>
      have hu := HU.out.1
      rw [hk] at hu
      obtain ⟨b', rfl, _⟩ := hu
      have HCO2 : Hid (TT.collapse kid = kid c) := by rw [HCO.out, hk]; exact (rfl : TT.leaf hh k x = _)
      have mm := m_kind_175
      clear hk
      go_wp2_with fail
      refine (kind_175 _ _).mono ?_
      rintro e w5 ⟨rfl, rfl⟩
      go_wp2_with fail
      go_ret
      exact ⟨_, rfl, by rw [HCO2.out]; exact HU.out.1, HU.out.2⟩
    | bucket hh L =>
      have hu := HU.out.1
      rw [hk] at hu
      obtain ⟨b', T, rfl, _⟩ := hu
      have HCO2 : Hid (TT.collapse kid = kid c) := by rw [HCO.out, hk]; exact (rfl : TT.bucket hh L = _)
      have mm := m_kind_181
      clear hk
      go_wp2_with fail
      refine (kind_181 _ _).mono ?_
      rintro e w5 ⟨rfl, rfl⟩
      go_wp2_with fail
      go_ret
      exact ⟨_, rfl, by rw [HCO2.out]; exact HU.out.1, HU.out.2⟩
    | branch kid' =>
      have hu := HU.out.1
      rw [hk] at hu
      obtain ⟨b', m', A', c'', cnt', us', rfl, _⟩ := hu
      have HCO2 : Hid (TT.collapse kid = .branch kid) := by rw [HCO.out, hk]; exact (rfl : TT.branch kid = _)
      have mm := m_kind_200
      clear hk
      go_wp2_with fail
      refine (kind_200 _ _).mono ?_
      rintro e w5 ⟨rfl, rfl⟩
      go_wp2_with fail
      go_ret
      exact ⟨_, rfl, by rw [HCO2.out]; exact HT.out.below HU.out.2, HU.out.2⟩
  · have HCO : Hid (TT.collapse kid = .branch kid) := by
      unfold TT.collapse
      split
      · rename_i e
        obtain ⟨c, hc⟩ := hne
        have hb : m.testBit c = true := by rw [hbit, hc]; rfl
        have hc32 : c < 32 := by
          rcases Nat.lt_or_ge c 32 with h | h
          · exact h
          · rw [B.test_big hm h] at hb; cases hb
        have : c ∈ TT.someKids kid := TT.someKids_mem.2 ⟨hc32, hc⟩
        rw [e] at this; cases this
      · rename_i c e; exact absurd (by rw [e]; rfl) h1
      · exact (rfl : TT.branch kid = _)
    have h1' : ((TT.someKids kid).length : Int) ≠ 1 := by omega
    generalize ((TT.someKids kid).length : Int) = kk at *
    have h1b : (kk == 1) = false := by simpa using h1'
    have h1c : (kk != 1) = true := by simpa using h1'
    clear hB hbit hl hcap hV htk hlen h1 HL hTab h1' hne
    go_enter Tryz.func142, Tryz.ntmps142
    go_wp2_with fail
    refine HM.out.mono ?_
    rintro e w1 ⟨rfl, rfl⟩
    go_wp2_with fail
    refine HC.out.mono ?_
    rintro e w2 ⟨rfl, hb2⟩
    have HB2 := Lib.hid hb2
    clear hb2
    go_wp2_with fail
    go_ret
    exact ⟨_, rfl, by rw [HCO.out]; exact HT.out.below HB2.out, HB2.out⟩

set_option maxRecDepth 100000 in
set_option maxHeartbeats 1600000 in
theorem without_any {S : Nat → Prop} (kid : Nat → TT) (v : Value) (c : Nat) (w : World) (h : TrIn S w (.branch kid) v) (hc : c < 32) (hTab : B.TabOK w) :
    Calls Tryz.prog 141 #[v, .int .i64 (c : Int)] w fun e w' => CollOut (Up S w.heap.size) w w' e (TT.collapse fun i => if i = c then .none else kid i) := by
  have HT := Lib.hid h
  obtain ⟨b, m, A, c', cnt, us, rfl, hSb, hB, hm, hbit, hl, hcap, hV, htk⟩ := h
  have HM := Lib.hid (map_branch w b m A us.length c' cnt hB)
  have HW := Lib.hid (fun W => B.withoutK_any m c W hm hc)
  have HBT := Lib.hid hbit
  have HTB := Lib.hid hTab
  clear hB hbit hl hcap hV htk hTab
  go_enter Tryz.func141, Tryz.ntmps141
  go_wp2_with fail
  refine HM.out.mono ?_
  rintro e w1 ⟨rfl, rfl⟩
  go_wp2_with fail
  refine (HW.out _).mono ?_
  rintro e w1 ⟨m', rfl, hm', hb', rfl⟩
  have hsub : TT.sub m' kid = fun i => if i = c then .none else kid i := by
    funext i
    unfold TT.sub
    by_cases e : i = c
    · rw [if_pos e, if_neg (by rw [hb']; simp [e])]
    · rw [if_neg e]
      cases hi : m.testBit i with
      | true => rw [if_pos (by rw [hb', hi]; simp [e])]
      | false =>
        rw [if_neg (by rw [hb', hi]; simp)]
        have := HBT.out i
        rw [hi] at this
        cases hk : kid i with
        | none => rfl
        | leaf _ _ _ => rw [hk] at this; cases this
        | bucket _ _ => rw [hk] at this; cases this
        | branch _ => rw [hk] at this; cases this
  have HP := Lib.hid (pick_any (S := S) kid (.iface 200 (.pointer (some ⟨b, 0, none⟩))) m' w1 HT.out hm' (fun i hi => by
    rw [hb'] at hi
    have hi2 : m.testBit i = true := by simp at hi; exact hi.1
    have := HBT.out i
    rw [hi2] at this
    simpa using this.symm) HTB.out)
  have HSUB := Lib.hid hsub
  have HM' := Lib.hid (And.intro hm' hb')
  clear hm' hb' hsub
  go_wp2_with fail
  refine HP.out.mono ?_
  rintro e w2 ⟨u, rfl, hu, hb2⟩
  have HB2 := Lib.hid hb2
  unfold TT.some' at hu
  by_cases he : B.listN m' 32 = []
  · rw [if_pos he] at hu
    obtain rfl : u = .nilIface := hu
    have HCO : Hid (TT.collapse (fun i => if i = c then .none else kid i) = .none) := by
      rw [← HSUB.out]
      unfold TT.collapse
      have : TT.someKids (TT.sub m' kid) = [] := by
        unfold TT.someKids
        rw [List.filter_eq_nil_iff]
        intro k hk hs
        have hk32 : k < 32 := by simpa using hk
        have : (k : Int) ∈ B.listN m' 32 := (B.mem_listN m' 32 k).2 ⟨k, hk32, by
          unfold TT.sub at hs
          by_cases e : m'.testBit k = true
          · exact e
          · rw [if_neg e] at hs; exact absurd hs (by decide), rfl⟩
        rw [he] at this; cases this
      rw [this]
      exact (rfl : TT.none = TT.none)
    clear hb2 he
    go_wp2_with fail
    refine (collapse_nil w2).mono ?_
    rintro e w3 ⟨rfl, rfl⟩
    go_wp2_with fail
    go_ret
    exact ⟨_, rfl, by rw [HCO.out]; rfl, HB2.out⟩
  · rw [if_neg he, HSUB.out] at hu
    have hex : ∃ i, ((fun i => if i = c then TT.none else kid i) i).isNone = false := by
      obtain ⟨x, hx⟩ := List.exists_mem_of_ne_nil _ he
      obtain ⟨k, hk, hb, rfl⟩ := (B.mem_listN m' 32 x).1 hx
      rw [HM'.out.2] at hb
      simp only [Bool.and_eq_true, Bool.not_eq_true', decide_eq_false_iff_not] at hb
      refine ⟨k, ?_⟩
      show (if k = c then TT.none else kid k).isNone = false
      rw [if_neg hb.2]
      have := HBT.out k
      rw [hb.1] at this
      simpa using this.symm
    have HCL := Lib.hid (collapse_any (fun i => if i = c then TT.none else kid i) u w2 hu hex (HTB.out.below HTB.out.1 (Nat.le_refl _) hb2))
    obtain ⟨uT, up, rfl⟩ := hu.iface rfl
    clear hb2 hex he hu
    go_wp2_with fail
    refine HCL.out.mono ?_
    rintro e w3 ⟨u3, rfl, hu3, hb3⟩
    have HF := Lib.hid (And.intro hu3 (HB2.out.trans (hb3.mono HB2.out.size)))
    clear hu3 hb3
    go_wp2_with fail
    go_ret
    exact ⟨_, rfl, HF.out.1, HF.out.2⟩

end Go.Proofs.YtphjaebkcimklaaGreatDoor
