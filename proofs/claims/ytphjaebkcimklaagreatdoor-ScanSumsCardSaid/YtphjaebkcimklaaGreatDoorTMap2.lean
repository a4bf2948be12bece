/- The reference's sorted map: Without, Put. -/
import Derived.Test.YtphjaebkcimklaaGreatDoorTMap
import Derived.Deep.CutBlock
import Derived.Deep.DeepCutAuto
import Derived.Deep.CutRange
set_option linter.unusedVariables false
set_option linter.unusedSimpArgs false
namespace Go.Proofs.YtphjaebkcimklaaGreatDoor
open Go.RowKit

/-- The cells of a row of pairs of texts. -/
def mvals : Pairs → List Value
  | [] => []
  | (k, x) :: M => bs k :: bs x :: mvals M
theorem mvals_append : ∀ (a b : Pairs), mvals (a ++ b) = mvals a ++ mvals b
  | [], b => rfl
  | (k, x) :: a, b => by simp [mvals, mvals_append a b]
theorem mvals_len : ∀ M : Pairs, (mvals M).length = M.length * 2
  | [] => rfl
  | (k, x) :: M => by simp [mvals, mvals_len M]; omega
theorem mvals_get : ∀ (M : Pairs) (j : Nat), j < M.length → (mvals M)[j * 2]? = some (bs (M.getD j ([], [])).1) ∧ (mvals M)[j * 2 + 1]? = some (bs (M.getD j ([], [])).2)
  | [], j, h => by simp at h
  | (k, x) :: M, 0, _ => by simp [mvals]
  | (k, x) :: M, j + 1, h => by
    have := mvals_get M j (by simpa using h)
    rw [show (j + 1) * 2 = j * 2 + 1 + 1 by omega, show j * 2 + 1 + 1 + 1 = (j * 2 + 1) + 1 + 1 by omega]
    simpa [mvals] using this

/-- A map that the call has made. -/
def OwnM (base : Nat) (w : World) (v : Value) (M : Pairs) : Prop := w.ownsRow base 56 2 v M.length (mvals M)
theorem OwnM.reads {base : Nat} {w : World} {v : Value} {M : Pairs} (h : OwnM base w v M) : ∃ A c, v = .slice A M.length c ∧ M.length ≤ c ∧ MIn (New base) w A M.length M := by
  rcases h.2 with ⟨hv, hn⟩ | ⟨g, cap, cur, hv, hb, hg, hc, hm, hs, ht⟩
  · subst hv
    have h0 : M.length = 0 := hn
    exact ⟨none, 0, by rw [h0], by omega, ⟨rfl, fun h => by omega⟩⟩
  · subst hv
    refine ⟨_, _, rfl, hc, ⟨rfl, fun hn => ⟨g, 0, rfl, (Array.getElem?_eq_some_iff.1 hg).1, hb, fun j hj => ?_⟩⟩⟩
    obtain ⟨e1, e2⟩ := mvals_get M j hj
    rw [Nat.zero_add]
    exact ⟨by rw [World.ownsRow.cellAt h _ (by omega)]; exact e1, by rw [World.ownsRow.cellAt h _ (by omega)]; exact e2⟩
theorem OwnM.below {base : Nat} {w w1 : World} {v : Value} {M : Pairs} (h : OwnM base w v M) (hb : Below w.heap.size w w1) : OwnM base w1 v M := by
  rcases h.2 with ⟨hv, hn⟩ | ⟨g, cap, cur, hv, _⟩
  · subst hv; exact own_below h hb
  · subst hv; exact own_below h hb
theorem own_slice {w : World} {base size n : Nat} {e : TypeId} {v : Value} {xs : List Value} (h : w.ownsRow base e size v n xs) : ∃ A c, v = .slice A n c := by
  rcases h.2 with ⟨hv, hn⟩ | ⟨g, cap, cur, hv, _⟩
  · subst hn; exact ⟨_, _, hv⟩
  · exact ⟨_, _, hv⟩

def withoutM (M : Pairs) (key : Bytes) : Pairs := M.filter fun p => decide (p.1 ≠ key)
theorem withoutM_take (M : Pairs) (key : Bytes) (j : Nat) (h : j < M.length) : withoutM (M.take (j + 1)) key = withoutM (M.take j) key ++ (if (M.getD j ([], [])).1 = key then [] else [M.getD j ([], [])]) := by
  rw [List.take_succ_eq_append_getElem h, withoutM, List.filter_append, withoutM]
  congr 1
  rw [List.getD_eq_getElem?_getD, List.getElem?_eq_getElem h, Option.getD_some]
  by_cases hk : M[j].1 = key
  · rw [if_pos hk]; simp [hk]
  · rw [if_neg hk]; simp [hk]

theorem two_cells (s t : ByteArray) : ∀ u ∈ [Value.string s, Value.string t], u.oneCell' = true := by
  intro u hu; simp at hu; rcases hu with rfl | rfl <;> rfl

set_option maxHeartbeats 6400000 in
theorem mwithout_any {S : Nat → Prop} (M : Pairs) (A : Option Addr) (n c : Nat) (s : ByteArray) (w : World) (hM : MIn S w A n M) (hn : n ≤ 1000000) :
    Calls Tryz.prog 60 #[.slice A n c, .string s] w fun e w' => ∃ v, e = .returned v ∧ OwnM w.heap.size w' v (withoutM M (strL s)) ∧ Below w.heap.size w w' := by
  obtain ⟨i0, hi, hz0, hz1, hz2⟩ := info_parts info73b
  have HM := Lib.hid hM
  clear hM
  go_enter Tryz.func60, Tryz.ntmps60
  go_wp2_with fail
  go_loopw [5, 10] (fun u v wr => ∃ j : Nat, v = .int .i64 (j : Int) ∧ j ≤ n ∧ OwnM w.heap.size wr u (withoutM (M.take j) (strL s)) ∧ Below w.heap.size w wr) (fun _ v _ => n - (intOf v).toNat)
  case atStart => exact ⟨0, rfl, by omega, by simp only [List.take_zero]; exact World.ownsRow_nil _ _ _ _, Below.refl _ _⟩
  case round =>
    obtain ⟨j, rfl, hj, hown, hb⟩ := hrel
    have HB := Lib.hid hb
    have hsz := hb.size
    by_cases hlt : j < n
    · obtain ⟨b, o, rfl, hbl, hSb, hc⟩ := (HM.out.below HB.out).cell (by omega)
      obtain ⟨c0, c1⟩ := hc j hlt
      have hjl : j < M.length := by rw [HM.out.len]; exact hlt
      have HT := Lib.hid (withoutM_take M (strL s) j hjl)
      have hle : (withoutM (M.take j) (strL s)).length ≤ j := by
        refine Nat.le_trans (List.length_filter_le _ _) ?_
        simp; omega
      obtain ⟨sk, hsk⟩ : ∃ sk, strO (M.getD j ([], [])).1 = sk := ⟨_, rfl⟩
      obtain ⟨sx, hsx⟩ : ∃ sx, strO (M.getD j ([], [])).2 = sx := ⟨_, rfl⟩
      have HSK := Lib.hid hsk
      have HSX := Lib.hid hsx
      simp only [bs, hsk, hsx] at c0 c1
      have al : (0 : Int) ≤ (j : Int) := by omega
      have al3 : (j : Int) < (n : Int) := by omega
      have HO := Lib.hid (hown.below ((Below.refl _ _).alloc (Nat.le_refl _) (.cells #[.string sk, .string sx] 56)))
      have HOB := Lib.hid hown
      clear hc hsk hsx hown hb
      by_cases he : sk = s
      · subst he
        have HE : Hid (withoutM (M.take (j + 1)) (strL sk) = withoutM (M.take j) (strL sk)) := by
          rw [HT.out, if_pos (by rw [← HSK.out, strL_strO]), List.append_nil]; exact (rfl : withoutM (M.take j) (strL sk) = withoutM (M.take j) (strL sk))
        go_wp2_with fail
        go_roundw
        case rel => exact ⟨j + 1, by go_num, by omega, by rw [HE.out]; exact HO.out, HB.out.alloc HB.out.size _⟩
        case measure => simp [intOf]; omega
      · have HE : Hid (withoutM (M.take (j + 1)) (strL s) = withoutM (M.take j) (strL s) ++ [M.getD j ([], [])]) := by
          rw [HT.out, if_neg (by intro h; exact he (by rw [← HSK.out, h, strO_strL]))]; exact (rfl : withoutM (M.take j) (strL s) ++ [M.getD j ([], [])] = withoutM (M.take j) (strL s) ++ [M.getD j ([], [])])
        have he2 := text_ne he
        clear he
        go_wp2_with (at_builtin; refine wpList_append_own _ rfl _ _ 39 rfl w.heap.size 56 i0 (.agg #[.string ⟨#[]⟩, .string ⟨#[]⟩]) 2 32 Tryz.underlying39 hi hz0 hz1 hz2 rfl (by decide) _ _ _ rfl (HO.out.alloc _) ⟨wr.heap.size + 1, 0, none⟩ 1 1 [.string sk, .string sx] ?c1 rfl ?c2 (two_cells _ _) ?c3 ?c4 ?c5 ?_)
        case c1 => simp [Act.eval]
        case c2 =>
          have := World.news_of_block (heap_new (wr.alloc (.cells #[.string sk, .string sx] 56)) (.cells #[.string sk, .string sx] 56))
          simpa using this
        case c3 => unfold maxLen; omega
        case c4 => omega
        case c5 => simp; omega
        intro v' w1 hown1 hgrow _
        have HO2 : Hid (OwnM w.heap.size w1 v' (withoutM (M.take (j + 1)) (strL s))) := by
          rw [HE.out, OwnM, List.length_append, mvals_append]
          simp only [mvals, bs, HSK.out, HSX.out]
          exact hown1
        have HB1 : Hid (Below w.heap.size w w1) := ((HB.out.alloc HB.out.size _).alloc (by simp; omega) _).grown hgrow (by simp; omega) (fun k e => (HO.out.lt k e).1)
        clear hown1 hgrow
        go_wp2_with fail
        go_roundw
        case rel => exact ⟨j + 1, by go_num, by omega, HO2.out, HB1.out⟩
        case measure => simp [intOf]; omega
    · obtain rfl : j = n := by omega
      have HE : Hid (M.take j = M) := List.take_of_length_le (by rw [HM.out.len]; exact Nat.le_refl _)
      have HO := Lib.hid hown
      clear hown
      go_wp2_with fail
      go_ret
      exact ⟨_, rfl, by have := HO.out; rw [HE.out] at this; exact this, HB.out⟩

/-- A map as it comes back. -/
def GotMap (w w' : World) (e : Ending) (M : Pairs) : Prop := ∃ A c, e = .returned (.slice A M.length c) ∧ M.length ≤ c ∧ MIn (New w.heap.size) w' A M.length M ∧ Below w.heap.size w w'
theorem mwithout_any' {S : Nat → Prop} (M : Pairs) (A : Option Addr) (n c : Nat) (s : ByteArray) (w : World) (hM : MIn S w A n M) (hn : n ≤ 1000000) :
    Calls Tryz.prog 60 #[.slice A n c, .string s] w fun e w' => GotMap w w' e (withoutM M (strL s)) :=
  (mwithout_any M A n c s w hM hn).mono fun e w' ⟨v, he, ho, hb⟩ => by
    obtain ⟨A', c', rfl, h1, h2⟩ := ho.reads
    exact ⟨A', c', he, h1, h2, hb⟩

def putStep (k x : Bytes) (st : Pairs × Bool) (q : Bytes × Bytes) : Pairs × Bool :=
  ((if (!st.2 && !decide (cmp q.1 k = -1)) = true then st.1 ++ [(k, x)] else st.1) ++ (if q.1 = k then [] else [q]), st.2 || !decide (cmp q.1 k = -1))
def putSt (M : Pairs) (k x : Bytes) : Pairs × Bool := M.foldl (putStep k x) ([], false)
/-- The map with a pair put in, as the reference puts it. -/
def putM (M : Pairs) (k x : Bytes) : Pairs := (putSt M k x).1 ++ (if (putSt M k x).2 then [] else [(k, x)])
theorem putSt_take (M : Pairs) (k x : Bytes) (j : Nat) (h : j < M.length) : putSt (M.take (j + 1)) k x = putStep k x (putSt (M.take j) k x) (M.getD j ([], [])) := by
  rw [List.take_succ_eq_append_getElem h, putSt, List.foldl_append, putSt, List.getD_eq_getElem?_getD, List.getElem?_eq_getElem h, Option.getD_some]
  rfl
theorem putSt_len (k x : Bytes) : ∀ (M : Pairs) (st : Pairs × Bool), (M.foldl (putStep k x) st).1.length ≤ st.1.length + M.length * 2
  | [], st => by simp
  | q :: M, st => by
    rw [List.foldl_cons]
    refine Nat.le_trans (putSt_len k x M _) ?_
    have : (putStep k x st q).1.length ≤ st.1.length + 2 := by
      unfold putStep
      simp only [List.length_append]
      split <;> split <;> simp
    simp only [List.length_cons]
    omega

set_option maxRecDepth 100000 in
set_option maxHeartbeats 12800000 in
theorem mput_any {S : Nat → Prop} (M : Pairs) (A : Option Addr) (n c : Nat) (s t : ByteArray) (w : World) (hM : MIn S w A n M) (hn : n ≤ 1000000) (hk : ∀ p ∈ M, p.1.length ≤ 100000) :
    Calls Tryz.prog 58 #[.slice A n c, .agg #[.string s, .string t]] w fun e w' => ∃ v, e = .returned v ∧ OwnM (w.heap.size + 1) w' v (putM M (strL s) (strL t)) ∧ Below w.heap.size w w' := by
  obtain ⟨i0, hi, hz0, hz1, hz2⟩ := info_parts info73b
  have hB := (Below.refl _ w).alloc (Nat.le_refl _) (.cells #[.string s, .string t] 56)
  have HM := Lib.hid (hM.below hB)
  have HML := Lib.hid hM.len
  have HKL := Lib.hid hk
  have hbox : (w.alloc (.cells #[.string s, .string t] 56)).heap[w.heap.size]? = some (.cells #[.string s, .string t] 56 (0, 0)) := heap_new w _
  have hXs : (w.alloc (.cells #[.string s, .string t] 56)).heap.size = w.heap.size + 1 := by simp
  have HWX := Lib.hid hB
  go_enter Tryz.func58, Tryz.ntmps58
  go_wp2_with fail
  generalize w.alloc (.cells #[.string s, .string t] 56) = X at *
  have HXS := Lib.hid hXs
  have HP : Hid (∀ W, Below X.heap.size X W → W.cell? ⟨w.heap.size, 0, none⟩ = some (.string s) ∧ W.cell? ⟨w.heap.size, 1, none⟩ = some (.string t)) := fun W h => by
    have h2 := (h.block w.heap.size (by omega)).trans hbox
    exact ⟨cell_of_row W w.heap.size 0 _ _ _ h2, cell_of_row W w.heap.size 1 _ _ _ h2⟩
  clear hM hk hbox hXs hB
  go_loopw [5, 6, 11] (fun u d v wr => ∃ j : Nat, v = .int .i64 (j : Int) ∧ j ≤ n ∧ d = .bool (putSt (M.take j) (strL s) (strL t)).2 ∧ OwnM X.heap.size wr u (putSt (M.take j) (strL s) (strL t)).1 ∧ Below X.heap.size X wr) (fun _ _ v _ => n - (intOf v).toNat)
  case atStart => exact ⟨0, rfl, by omega, rfl, World.ownsRow_nil _ _ _ _, Below.refl _ _⟩
  case round =>
    obtain ⟨j, rfl, hj, rfl, hown, hb⟩ := hrel
    have HB := Lib.hid hb
    have hsz := hb.size
    by_cases hlt : j < n
    · obtain ⟨b, o, rfl, hbl, hSb, hc⟩ := (HM.out.below HB.out).cell (by omega)
      obtain ⟨c0, c1⟩ := hc j hlt
      obtain ⟨p0, p1⟩ := HP.out _ HB.out
      have hjl : j < M.length := by rw [HML.out]; exact hlt
      have HT := Lib.hid (putSt_take M (strL s) (strL t) j hjl)
      have hle : (putSt (M.take j) (strL s) (strL t)).1.length ≤ 2000000 := by
        have := putSt_len (strL s) (strL t) (M.take j) ([], false)
        simp only [List.length_take, List.length_nil] at this
        have h2 : (putSt (M.take j) (strL s) (strL t)).1.length ≤ 0 + min j M.length * 2 := this
        omega
      have hks : (strO (M.getD j ([], [])).1).size ≤ 1000000 := by
        rw [strO_size]
        have : M.getD j ([], []) ∈ M := by
          rw [List.getD_eq_getElem?_getD, List.getElem?_eq_getElem hjl, Option.getD_some]; exact List.getElem_mem hjl
        have := HKL.out _ this
        omega
      obtain ⟨sk, hsk⟩ : ∃ sk, strO (M.getD j ([], [])).1 = sk := ⟨_, rfl⟩
      obtain ⟨sx, hsx⟩ : ∃ sx, strO (M.getD j ([], [])).2 = sx := ⟨_, rfl⟩
      rw [hsk] at hks
      have HSK := Lib.hid hsk
      have HSX := Lib.hid hsx
      have HSKL : Hid ((M.getD j ([], [])).1 = strL sk) := by rw [← hsk, strL_strO]; exact (rfl : (M.getD j ([], [])).1 = (M.getD j ([], [])).1)
      have HLS := Lib.hid (fun W => less_any sk s W hks)
      simp only [bs, hsk, hsx] at c0 c1
      obtain ⟨acc, hacc⟩ : ∃ a, (putSt (M.take j) (strL s) (strL t)).1 = a := ⟨_, rfl⟩
      obtain ⟨d, hd⟩ : ∃ d, (putSt (M.take j) (strL s) (strL t)).2 = d := ⟨_, rfl⟩
      have HST : Hid (putSt (M.take j) (strL s) (strL t) = (acc, d)) := by rw [← hacc, ← hd]; exact (rfl : putSt (M.take j) (strL s) (strL t) = _)
      rw [hacc] at hown hle
      rw [hd]
      have al : (0 : Int) ≤ (j : Int) := by omega
      have al3 : (j : Int) < (n : Int) := by omega
      have HLT := Lib.hid (fun k (e : u5.ownBlock = some k) => (World.ownsRow.lt hown k e).2)
      have HO := Lib.hid (hown.below ((Below.refl _ _).alloc (Nat.le_refl _) (.cells #[.string sk, .string sx] 56)))
      have HQ : Hid ((wr.alloc (.cells #[.string sk, .string sx] 56)).heap[wr.heap.size]? = some (.cells #[.string sk, .string sx] 56 (0, 0))) := heap_new wr _
      have HY : Hid (Below X.heap.size X (wr.alloc (.cells #[.string sk, .string sx] 56))) := hb.alloc hb.size _
      have HYS : Hid ((wr.alloc (.cells #[.string sk, .string sx] 56)).heap.size = wr.heap.size + 1) := (by simp : (wr.alloc (.cells #[.string sk, .string sx] 56)).heap.size = wr.heap.size + 1)
      clear hc hsk hsx hown hb hks hacc hd
      go_upto_region 6 with fail
      generalize hYE : wr.alloc (.cells #[.string sk, .string sx] 56) = Y at *
      clear hYE
      have hYw : w.heap.size < Y.heap.size ∧ wr.heap.size < Y.heap.size := by have := HYS.out; have := HXS.out; omega
      go_cut [24] (fun v wx => v = .bool (!d && !decide (cmp (strL sk) (strL s) = -1)) ∧ ∃ q, wx = Y.drewN q)
      case first =>
        obtain ⟨p0, p1⟩ := HP.out _ HY.out
        have q0 := cell_of_row Y wr.heap.size 0 _ _ _ HQ.out
        have q1 := cell_of_row Y wr.heap.size 1 _ _ _ HQ.out
        dsimp at q0 q1
        cases d with
        | true =>
          go_wp2_with fail
          go_meet
          exact ⟨rfl, 0, rfl⟩
        | false =>
          go_wp2_with fail
          refine (HLS.out _).mono ?_
          rintro e w2 ⟨rfl, q, rfl⟩
          go_wp2_with fail
          go_meet
          exact ⟨rfl, q, rfl⟩
      case rest =>
        obtain ⟨rfl, q, rfl⟩ := hcut
        have HY1 : Hid (Below X.heap.size X (Y.drewN q)) := below_drewN HY.out q
        have HQ1 : Hid ((Y.drewN q).heap[wr.heap.size]? = some (.cells #[.string sk, .string sx] 56 (0, 0))) := HQ.out
        have HO1 : Hid (OwnM X.heap.size (Y.drewN q) u5 acc) := HO.out
        obtain ⟨hit, hhit⟩ : ∃ hit, (!d && !decide (cmp (strL sk) (strL s) = -1)) = hit := ⟨_, rfl⟩
        have HHIT := Lib.hid hhit
        rw [hhit]
        have hZ : (Y.drewN q).heap.size = Y.heap.size := rfl
        clear hhit
        generalize Y.drewN q = Z at *
        go_upto_if 24 with fail
        go_cut [5, 6] (fun u d' wx => d' = .bool (d || !decide (cmp (strL sk) (strL s) = -1)) ∧ OwnM X.heap.size wx u (if hit = true then acc ++ [(strL s, strL t)] else acc) ∧ Below X.heap.size X wx ∧ wx.heap[wr.heap.size]? = some (.cells #[.string sk, .string sx] 56 (0, 0)))
        case first =>
          obtain ⟨p0, p1⟩ := HP.out _ HY1.out
          cases hit with
          | false =>
            have HD : Hid (d = (d || !decide (cmp (strL sk) (strL s) = -1))) := by
              have := HHIT.out
              exact (by revert this; cases d <;> cases decide (cmp (strL sk) (strL s) = -1) <;> simp : d = (d || !decide (cmp (strL sk) (strL s) = -1)))
            go_wp2_with fail
            go_meet
            exact ⟨by rw [← HD.out], HO1.out, HY1.out, HQ1.out⟩
          | true =>
            have HD : Hid ((d || !decide (cmp (strL sk) (strL s) = -1)) = true) := by
              have := HHIT.out
              exact (by revert this; cases d <;> cases decide (cmp (strL sk) (strL s) = -1) <;> simp : (d || !decide (cmp (strL sk) (strL s) = -1)) = true)
            go_wp2_with (at_builtin; refine wpList_append_own _ rfl _ _ 39 rfl X.heap.size 56 i0 (.agg #[.string ⟨#[]⟩, .string ⟨#[]⟩]) 2 32 Tryz.underlying39 hi hz0 hz1 hz2 rfl (by decide) _ _ _ rfl (HO1.out.alloc _) ⟨Z.heap.size, 0, none⟩ 1 1 [.string s, .string t] ?c1 rfl ?c2 (two_cells _ _) ?c3 ?c4 ?c5 ?_)
            case c3 => unfold maxLen; omega
            case c4 => omega
            case c5 => have := HY1.out.size; simp; omega
            intro v' w1 hown1 hgrow _
            have HF : Hid (OwnM X.heap.size w1 v' (acc ++ [(strL s, strL t)]) ∧ Below X.heap.size X w1 ∧ w1.heap[wr.heap.size]? = some (.cells #[.string sk, .string sx] 56 (0, 0))) := by
              refine (⟨?_, (HY1.out.alloc HY1.out.size _).grown hgrow (by have := HY1.out.size; simp; omega) (fun k e => (HO1.out.lt k e).1), ?_⟩ : _ ∧ _ ∧ _)
              · rw [OwnM, List.length_append, mvals_append]
                simp only [mvals, bs, strO_strL]
                exact hown1
              · exact (hgrow.block wr.heap.size (by simp; omega) (fun e => by have := HLT.out _ e.symm; omega)).trans (heap_old _ HQ1.out)
            clear hown1 hgrow
            go_wp2_with fail
            go_meet
            exact ⟨by rw [HD.out], by simpa using HF.out⟩
        case rest =>
          obtain ⟨rfl, hown, hb, hq⟩ := hcut
          obtain ⟨p0, p1⟩ := HP.out _ hb
          have q0 := cell_of_row _ wr.heap.size 0 _ _ _ hq
          have q1 := cell_of_row _ wr.heap.size 1 _ _ _ hq
          dsimp at q0 q1
          obtain ⟨acc2, hacc2⟩ : ∃ a, (if hit = true then acc ++ [(strL s, strL t)] else acc) = a := ⟨_, rfl⟩
          rw [hacc2] at hown
          have hle2 : acc2.length ≤ 2000001 := by
            rw [← hacc2]
            split
            · rw [List.length_append]; simp; omega
            · omega
          have hnx : putSt (M.take (j + 1)) (strL s) (strL t) = (acc2 ++ (if sk = s then [] else [M.getD j ([], [])]), (d || !decide (cmp (strL sk) (strL s) = -1))) := by
            rw [HT.out, HST.out, putStep, HSKL.out, HHIT.out, hacc2]
            have e : (strL sk = strL s) = (sk = s) := propext ⟨fun h => by rw [← strO_strL sk, h, strO_strL], fun h => by rw [h]⟩
            simp only [e]
          have HNX := Lib.hid hnx
          clear hnx
          have HOW := Lib.hid hown
          have HBB := Lib.hid hb
          clear hq hown hb hacc2
          generalize (d || !decide (cmp (strL sk) (strL s) = -1)) = d2 at *
          by_cases he : sk = s
          · have HE : Hid (putSt (M.take (j + 1)) (strL s) (strL t) = (acc2, d2)) := by rw [HNX.out, if_pos he, List.append_nil]; exact (rfl : (acc2, d2) = _)
            have he2 : (sk.toList == s.toList) = true := by rw [he]; simp
            clear he
            go_wp2_with fail
            go_roundw
            case rel => exact ⟨j + 1, by go_num, by omega, by rw [HE.out], by rw [HE.out]; exact HOW.out, HBB.out⟩
            case measure => simp [intOf]; omega
          · have HE : Hid (putSt (M.take (j + 1)) (strL s) (strL t) = (acc2 ++ [M.getD j ([], [])], d2)) := by rw [HNX.out, if_neg he]; exact (rfl : (acc2 ++ [M.getD j ([], [])], d2) = _)
            have he2 := text_ne he
            clear he
            go_wp2_with (at_builtin; refine wpList_append_own _ rfl _ _ 39 rfl X.heap.size 56 i0 (.agg #[.string ⟨#[]⟩, .string ⟨#[]⟩]) 2 32 Tryz.underlying39 hi hz0 hz1 hz2 rfl (by decide) _ _ _ rfl (HOW.out.alloc _) ⟨wc.heap.size, 0, none⟩ 1 1 [.string sk, .string sx] ?d1 rfl ?d2 (two_cells _ _) ?d3 ?d4 ?d5 ?_)
            case d1 => simp [Act.eval]
            case d2 => exact World.news_of_block (heap_new wc _)
            case d3 => unfold maxLen; omega
            case d4 => omega
            case d5 => have := HBB.out.size; simp; omega
            intro v' w1 hown1 hgrow _
            have HF : Hid (OwnM X.heap.size w1 v' (acc2 ++ [M.getD j ([], [])]) ∧ Below X.heap.size X w1) := by
              refine (⟨?_, (HBB.out.alloc HBB.out.size _).grown hgrow (by have := HBB.out.size; simp; omega) (fun k e => (World.ownsRow.lt HOW.out k e).1)⟩ : _ ∧ _)
              rw [OwnM, List.length_append, mvals_append]
              simp only [mvals, bs, HSK.out, HSX.out]
              exact hown1
            clear hown1 hgrow
            go_wp2_with fail
            go_roundw
            case rel => exact ⟨j + 1, by go_num, by omega, by rw [HE.out], by rw [HE.out]; exact HF.out.1, HF.out.2⟩
            case measure => simp [intOf]; omega
    · obtain rfl : j = n := by omega
      have htk : M.take j = M := List.take_of_length_le (by rw [HML.out]; exact Nat.le_refl _)
      rw [htk] at hown
      rw [htk]
      have hle : (putSt M (strL s) (strL t)).1.length ≤ 2000000 := by
        have := putSt_len (strL s) (strL t) M ([], false)
        have h2 : (putSt M (strL s) (strL t)).1.length ≤ 0 + M.length * 2 := this
        have := HML.out
        omega
      obtain ⟨d, hd⟩ : ∃ d, (putSt M (strL s) (strL t)).2 = d := ⟨_, rfl⟩
      have HD := Lib.hid hd
      rw [hd]
      have HO := Lib.hid hown
      clear hown hd htk hb
      obtain ⟨p0, p1⟩ := HP.out _ HB.out
      cases d with
      | true =>
        have HR : Hid (putM M (strL s) (strL t) = (putSt M (strL s) (strL t)).1) := by
          have : putM M (strL s) (strL t) = (putSt M (strL s) (strL t)).1 := by rw [putM, HD.out, if_pos rfl, List.append_nil]
          exact this
        go_wp2_with fail
        go_ret
        refine ⟨_, rfl, ?_, HWX.out.trans (HB.out.mono HWX.out.size)⟩
        rw [HR.out, ← HXS.out]
        exact HO.out
      | false =>
        have HR : Hid (putM M (strL s) (strL t) = (putSt M (strL s) (strL t)).1 ++ [(strL s, strL t)]) := by
          have : putM M (strL s) (strL t) = (putSt M (strL s) (strL t)).1 ++ [(strL s, strL t)] := by rw [putM, HD.out]; rfl
          exact this
        go_wp2_with (at_builtin; refine wpList_append_own _ rfl _ _ 39 rfl X.heap.size 56 i0 (.agg #[.string ⟨#[]⟩, .string ⟨#[]⟩]) 2 32 Tryz.underlying39 hi hz0 hz1 hz2 rfl (by decide) _ _ _ rfl (HO.out.alloc _) ⟨wr.heap.size, 0, none⟩ 1 1 [.string s, .string t] ?e1 rfl ?e2 (two_cells _ _) ?e3 ?e4 ?e5 ?_)
        case e1 => simp [Act.eval]
        case e2 => exact World.news_of_block (heap_new wr _)
        case e3 => unfold maxLen; omega
        case e4 => omega
        case e5 => have := HB.out.size; simp; omega
        intro v' w1 hown1 hgrow _
        have HF : Hid (OwnM X.heap.size w1 v' (putM M (strL s) (strL t)) ∧ Below X.heap.size X w1) := by
          refine (⟨?_, (HB.out.alloc HB.out.size _).grown hgrow (by have := HB.out.size; simp; omega) (fun k e => (World.ownsRow.lt HO.out k e).1)⟩ : _ ∧ _)
          rw [HR.out, OwnM, List.length_append, mvals_append]
          simp only [mvals, bs, strO_strL]
          exact hown1
        clear hown1 hgrow
        go_wp2_with fail
        go_ret
        refine ⟨_, rfl, ?_, HWX.out.trans (HF.out.2.mono HWX.out.size)⟩
        rw [← HXS.out]
        exact HF.out.1

theorem mput_any' {S : Nat → Prop} (M : Pairs) (A : Option Addr) (n c : Nat) (s t : ByteArray) (w : World) (hM : MIn S w A n M) (hn : n ≤ 1000000) (hk : ∀ p ∈ M, p.1.length ≤ 100000) :
    Calls Tryz.prog 58 #[.slice A n c, .agg #[.string s, .string t]] w fun e w' => GotMap w w' e (putM M (strL s) (strL t)) :=
  (mput_any M A n c s t w hM hn hk).mono fun e w' ⟨v, he, ho, hb⟩ => by
    obtain ⟨A', c', rfl, h1, h2⟩ := ho.reads
    exact ⟨A', c', he, h1, h2.imp (fun b _ hb => by have : w.heap.size + 1 ≤ b := hb; exact Nat.le_trans (Nat.le_succ _) this), hb⟩

end Go.Proofs.YtphjaebkcimklaaGreatDoor
