/- Texts put together: CMap FFrom FLit FFine. -/
import Derived.Test.YtphjaebkcimklaaGreatDoorTMap
import Derived.Test.YtphjaebkcimklaaGreatDoorTFrom
import Derived.Test.YtphjaebkcimklaaGreatDoorMs2
import Derived.Test.YtphjaebkcimklaaGreatDoorTQuiet
import Derived.Test.YtphjaebkcimklaaGreatDoorMf7
import Derived.Test.YtphjaebkcimklaaGreatDoorTOpen
import Derived.Test.YtphjaebkcimklaaGreatDoorTRank3
/- Pairs: Is of any two; Check; Map (out of seat c). -/
set_option linter.unusedVariables false
set_option linter.unusedSimpArgs false
namespace Go.Proofs.YtphjaebkcimklaaGreatDoor
open Go.RowKit Go.Deep


theorem BIn.length_eq {S : Nat → Prop} {w : World} {A : Option Addr} {n c : Nat} {l : Bytes} (h : BIn S w (.slice A n c) l) : l.length = n := by
  obtain ⟨_, _, _, e, _, hR, _⟩ := h
  cases e
  exact hR.len
def bigP (p : Bytes × Bytes) : Prop := 65536 < p.1.length ∨ 65536 < p.2.length
instance (p : Bytes × Bytes) : Decidable (bigP p) := by unfold bigP; infer_instance

set_option maxHeartbeats 3200000 in
theorem checkC_any (Ak Ax : Option Addr) (nk nx ck cx : Nat) (w : World) :
    Calls Tryz.prog 74 #[.agg #[.slice Ak nk ck, .slice Ax nx cx]] w fun e w' => e = .returned (.int .i64 (if 65536 < nk ∨ 65536 < nx then 4 else 0)) ∧ Below w.heap.size w w' := by
  by_cases hk : 65536 < nk
  · have h1 : (65536 : Int) < (nk : Int) := by omega
    have HR : Hid ((if 65536 < nk ∨ 65536 < nx then (4 : Int) else 0) = 4) := if_pos (.inl hk)
    rw [HR.out]
    clear hk
    go_enter Tryz.func74, Tryz.ntmps74
    go_wp2_with fail
    go_ret
    exact ⟨rfl, (Below.refl _ _).alloc (Nat.le_refl _) _⟩
  · have h1 : ¬ (65536 : Int) < (nk : Int) := by omega
    by_cases hx : 65536 < nx
    · have h2 : (65536 : Int) < (nx : Int) := by omega
      have HR : Hid ((if 65536 < nk ∨ 65536 < nx then (4 : Int) else 0) = 4) := if_pos (.inr hx)
      rw [HR.out]
      clear hk hx
      go_enter Tryz.func74, Tryz.ntmps74
      go_wp2_with fail
      go_ret
      exact ⟨rfl, (Below.refl _ _).alloc (Nat.le_refl _) _⟩
    · have h2 : ¬ (65536 : Int) < (nx : Int) := by omega
      have HR : Hid ((if 65536 < nk ∨ 65536 < nx then (4 : Int) else 0) = 0) := if_neg (fun h => h.elim hk hx)
      rw [HR.out]
      clear hk hx
      go_enter Tryz.func74, Tryz.ntmps74
      go_wp2_with fail
      go_ret
      exact ⟨rfl, (Below.refl _ _).alloc (Nat.le_refl _) _⟩

def mapAt (L : Pairs) (i : Nat) : Int :=
  if bigP (L.getD i ([], [])) then 4 else if i = 0 then 0 else
  if (L.getD (i - 1) ([], [])).1 = (L.getD i ([], [])).1 then 6 else if cmp (L.getD (i - 1) ([], [])).1 (L.getD i ([], [])).1 = 1 then 5 else 0
/-- What Map tells: where the first fault lies, and its kind. -/
def Mapped (L : Pairs) (n i : Nat) (er : Int) : Prop := (i < n ∧ (∀ j, j < i → mapAt L j = 0) ∧ er = mapAt L i ∧ er ≠ 0) ∨ (i = n ∧ er = 0 ∧ ∀ j, j < n → mapAt L j = 0)
def MapR (w w' : World) (e : Ending) (L : Pairs) (n : Nat) : Prop := ∃ (i : Nat) (er : Int), e = .returned (.tuple #[.int .i64 (i : Int), .int .i64 er]) ∧ Hid (Mapped L n i er ∧ Below w.heap.size w w')

set_option maxRecDepth 100000 in
set_option maxHeartbeats 3200000 in
theorem map_any {S : Nat → Prop} (L : Pairs) (A : Option Addr) (n c : Nat) (w : World) (hL : LIn S w A n L) (hn : n ≤ 100000) :
    Calls Tryz.prog 52 #[.slice A n c] w fun e w' => MapR w w' e L n := by
  have HL := Lib.hid hL
  clear hL
  go_enter Tryz.func52, Tryz.ntmps52
  go_wp2_with fail
  go_loopw [8] (fun v wr => ∃ j : Nat, v = .int .i64 (j : Int) ∧ j ≤ n ∧ Hid ((∀ i, i < j → mapAt L i = 0) ∧ Below w.heap.size w wr)) (fun v _ => n - (intOf v).toNat)
  case atStart => exact ⟨0, rfl, by omega, Lib.hid ⟨fun i hi => by omega, Below.refl _ _⟩⟩
  case round =>
    obtain ⟨j, rfl, hj, hI⟩ := hrel
    by_cases hlt : j < n
    · obtain ⟨b, o, rfl, hbl, hSb, hc⟩ := (HL.out.below hI.out.2).cell (by omega)
      have HC := Lib.hid hc
      obtain ⟨kv, xv, c0, c1, hk, hx⟩ := hc j hlt
      obtain ⟨Ak, nk, ck, rfl⟩ := hk.slice
      obtain ⟨Ax, nx, cx, rfl⟩ := hx.slice
      have HNX : Hid ((L.getD j ([], [])).1.length = nk ∧ (L.getD j ([], [])).2.length = nx) := ⟨BIn.length_eq hk, BIn.length_eq hx⟩
      have al : (0 : Int) ≤ (j : Int) := by omega
      have al3 : (j : Int) < (n : Int) := by omega
      have al4 : ¬ (1048576 : Int) ≤ (j : Int) := by omega
      have htw : Two (wr.alloc (.cells #[.slice Ak nk ck, .slice Ax nx cx] 60)) wr.heap.size (.slice Ak nk ck) (.slice Ax nx cx) := heap_new wr _
      have hbx := (Below.refl _ wr).alloc (Nat.le_refl _) (.cells #[.slice Ak nk ck, .slice Ax nx cx] 60)
      have HBX : Hid (Below wr.heap.size wr (wr.alloc (.cells #[.slice Ak nk ck, .slice Ax nx cx] 60))) := hbx
      have HTW := Lib.hid htw
      have HK := Lib.hid hk
      have HCH := Lib.hid (checkC_any Ak Ax nk nx ck cx (wr.alloc (.cells #[.slice Ak nk ck, .slice Ax nx cx] 60)))
      have HS : Hid (∀ er, mapAt L j = er → er ≠ 0 → Mapped L n j er) := fun er h1 h2 => .inl ⟨hlt, hI.out.1, h1.symm, h2⟩
      have HZ : Hid (mapAt L j = 0 → ∀ i, i < j + 1 → mapAt L i = 0) := fun h i hi => by
        rcases Nat.lt_succ_iff_lt_or_eq.1 hi with h' | rfl
        · exact hI.out.1 i h'
        · exact h
      clear hc hk hx hbx htw
      by_cases hbig : 65536 < nk ∨ 65536 < nx
      · rw [if_pos hbig] at HCH
        have HM : Hid (mapAt L j = 4) := by
          have : bigP (L.getD j ([], [])) := by unfold bigP; rw [HNX.out.1, HNX.out.2]; exact hbig
          unfold mapAt; rw [if_pos this]; exact rfl
        clear hbig
        go_wp2_with fail
        refine HCH.out.mono ?_
        rintro e w2 ⟨rfl, hb2⟩
        have HB2 : Hid (Below w.heap.size w w2) := (hI.out.2.trans (HBX.out.mono hI.out.2.size)).trans (hb2.mono (Nat.le_trans hI.out.2.size HBX.out.size))
        clear hb2
        go_wp2_with fail
        go_ret2
        exact ⟨j, 4, rfl, Lib.hid ⟨HS.out 4 HM.out (by decide), HB2.out⟩⟩
      · rw [if_neg hbig] at HCH
        have HNB : Hid (¬ bigP (L.getD j ([], []))) := by unfold bigP; rw [HNX.out.1, HNX.out.2]; exact hbig
        clear hbig
        go_wp2_with fail
        refine HCH.out.mono ?_
        rintro e w2 ⟨rfl, hb2⟩
        have HB2 : Hid (Below wr.heap.size wr w2 ∧ Below w.heap.size w w2 ∧ Two w2 wr.heap.size (.slice Ak nk ck) (.slice Ax nx cx)) :=
          ⟨HBX.out.trans (hb2.mono HBX.out.size), (hI.out.2.trans (HBX.out.mono hI.out.2.size)).trans (hb2.mono (Nat.le_trans hI.out.2.size HBX.out.size)), HTW.out.below hb2 (by simp)⟩
        clear hb2
        by_cases hj0 : j = 0
        · have HM : Hid (mapAt L j = 0) := by unfold mapAt; rw [if_neg HNB.out, if_pos hj0]; exact rfl
          have hz : (j : Int) = 0 := by omega
          have HN := Lib.hid (HZ.out HM.out)
          subst hj0
          clear hz
          go_wp2_with fail
          go_roundw
          case rel => exact ⟨1, by go_num, by omega, Lib.hid ⟨HN.out, HB2.out.2.1⟩⟩
          case measure => simp [intOf]; omega
        · obtain ⟨j0, hj0e⟩ : ∃ j0, j0 + 1 = j := ⟨j - 1, by omega⟩
          have hz : ¬ (j : Int) = 0 := by omega
          have hz2 : ((j : Int) == 0) = false := beq_false_of_ne hz
          have wj : IntKind.i64.wrap ((j : Int) - 1) = (j0 : Int) := by rw [wsm _ (by omega)]; omega
          have al5 : (0 : Int) ≤ (j0 : Int) := by omega
          have al6 : (j0 : Int) < (n : Int) := by omega
          obtain ⟨kv2, xv2, d0, d1, hk2, hx2⟩ := HC.out j0 (by omega)
          obtain ⟨Ak2, nk2, ck2, rfl⟩ := hk2.slice
          have r0 := fun p : BelowBy w2 => World.cell?_of_below p.below (World.cell?_of_below HB2.out.1 d0)
          have s0 := fun p : BelowBy w2 => (HB2.out.2.2.below p.below (by have := HB2.out.1.size; have h2 := HBX.out.size; exact (Array.getElem?_eq_some_iff.1 HB2.out.2.2).1)).cells.1
          have HCM := Lib.hid (fun p : BelowBy w2 => compare_any (.slice Ak2 nk2 ck2) (.slice Ak nk ck) (L.getD j0 ([], [])).1 (L.getD j ([], [])).1 p.W ((hk2.below HB2.out.1).below p.below) ((HK.out.below HB2.out.1).below p.below))
          have HV : Hid (mapAt L j = if (L.getD j0 ([], [])).1 = (L.getD j ([], [])).1 then 6 else if cmp (L.getD j0 ([], [])).1 (L.getD j ([], [])).1 = 1 then 5 else 0) := by
            unfold mapAt; rw [if_neg HNB.out, if_neg hj0, show j - 1 = j0 by omega]; exact rfl
          have HJE := Lib.hid hj0e
          have HCC := Lib.hid (cmp_cases (L.getD j0 ([], [])).1 (L.getD j ([], [])).1)
          clear d0 d1 hk2 hx2 hj0e hj0
          rcases HCC.out with hlt' | heq | hgt
          · have HM : Hid (mapAt L j = 0) := by
              have h1 : (L.getD j0 ([], [])).1 ≠ (L.getD j ([], [])).1 := cmp_ne hlt'
              rw [HV.out, if_neg h1, if_neg (by rw [hlt']; decide)]; exact rfl
            have HN := Lib.hid (HZ.out HM.out)
            change Lib.compareBytes _ _ = -1 at hlt'
            rw [hlt'] at HCM
            clear hlt'
            go_wp2_with fail
            refine wp_region_quiet_below (by kernel_rfl) (by kernel_rfl) ?_
            repeat (quiet_step (first | (go_at_call 71; with_reducible refine Calls.below_same (HCM.out _))))
            refine wpQuiet_nil ?_
            intro _ hw'
            obtain ⟨pb, rfl⟩ := hw'
            clear s0 r0 wj
            go_wp2_with fail
            go_roundw
            case rel => exact ⟨j + 1, by go_num, by omega, Lib.hid ⟨HN.out, HB2.out.2.1.trans (pb.below.mono HB2.out.2.1.size)⟩⟩
            case measure => simp [intOf]; omega
          · have HM : Hid (mapAt L j = 6) := by rw [HV.out, if_pos heq]; exact rfl
            have h0 : Lib.compareBytes (L.getD j0 ([], [])).1 (L.getD j ([], [])).1 = 0 := (cmp_eq0 _ _).2 heq
            rw [h0] at HCM
            clear heq h0
            go_wp2_with fail
            refine wp_region_quiet_below (by kernel_rfl) (by kernel_rfl) ?_
            repeat (quiet_step (first | (go_at_call 71; with_reducible refine Calls.below_same (HCM.out _))))
            refine wpQuiet_nil ?_
            intro _ hw'
            obtain ⟨pb, rfl⟩ := hw'
            clear s0 r0 wj
            go_wp2_with fail
            go_ret2
            exact ⟨j, 6, rfl, Lib.hid ⟨HS.out 6 HM.out (by decide), HB2.out.2.1.trans (pb.below.mono HB2.out.2.1.size)⟩⟩
          · have h1 : Lib.compareBytes (L.getD j0 ([], [])).1 (L.getD j ([], [])).1 = 1 := by
              have := cmp_neg (L.getD j ([], [])).1 (L.getD j0 ([], [])).1
              rw [hgt] at this
              exact this
            have HM : Hid (mapAt L j = 5) := by
              have h2 : (L.getD j0 ([], [])).1 ≠ (L.getD j ([], [])).1 := fun e => by rw [e] at h1; rw [show Lib.compareBytes (L.getD j ([], [])).1 (L.getD j ([], [])).1 = 0 from cmp_self _] at h1; exact absurd h1 (by decide)
              rw [HV.out, if_neg h2, if_pos h1]; exact rfl
            rw [h1] at HCM
            clear hgt h1
            go_wp2_with fail
            refine wp_region_quiet_below (by kernel_rfl) (by kernel_rfl) ?_
            repeat (quiet_step (first | (go_at_call 71; with_reducible refine Calls.below_same (HCM.out _))))
            refine wpQuiet_nil ?_
            intro _ hw'
            obtain ⟨pb, rfl⟩ := hw'
            clear s0 r0 wj
            go_wp2_with fail
            go_ret2
            exact ⟨j, 5, rfl, Lib.hid ⟨HS.out 5 HM.out (by decide), HB2.out.2.1.trans (pb.below.mono HB2.out.2.1.size)⟩⟩
    · obtain rfl : j = n := by omega
      go_wp2_with fail
      go_ret2
      exact ⟨j, 0, rfl, Lib.hid ⟨.inr ⟨rfl, rfl, hI.out.1⟩, hI.out.2⟩⟩

end Go.Proofs.YtphjaebkcimklaaGreatDoor

/- chart.From. -/
set_option linter.unusedVariables false
set_option linter.unusedSimpArgs false
namespace Go.Proofs.YtphjaebkcimklaaGreatDoor
open Go.RowKit

theorem chA_part {sd : Array Value} {u p u' : Value} (h : sd.size = 16) : setL (chA sd u p) 0 (trA sd u').toList = chA sd u' p := by
  apply Array.ext_getElem?
  intro j
  have hl : (trA sd u').toList.length = 17 := by rw [Array.length_toList, trA_size h]
  rw [setL_get _ _ _ _ (by rw [hl, chA_size h]; omega), hl]
  by_cases hj : j < 17
  · rw [if_pos (by omega), Nat.sub_zero, Array.getElem?_toList, ← chA_sub h j hj (p := p), Nat.zero_add]
  · rw [if_neg (by omega)]
    by_cases h17 : j = 17
    · subst h17; rw [(chA_get h).2, (chA_get h).2]
    · rw [Array.getElem?_eq_none (by rw [chA_size h]; omega), Array.getElem?_eq_none (by rw [chA_size h]; omega)]
theorem chA_last {sd : Array Value} {u p p' : Value} (h : sd.size = 16) : (chA sd u p).setIfInBounds 17 p' = chA sd u p' := by
  apply Array.ext_getElem?
  intro j
  rw [Array.getElem?_setIfInBounds]
  by_cases h17 : 17 = j
  · subst h17; rw [if_pos rfl, if_pos (by rw [chA_size h]; omega), (chA_get h).2]
  · rw [if_neg h17]
    by_cases hj : j < 17
    · have h1 := chA_sub h j hj (u := u) (p := p)
      have h2 := chA_sub h j hj (u := u) (p := p')
      rw [Nat.zero_add] at h1 h2
      rw [h1, h2]
    · rw [Array.getElem?_eq_none (by rw [chA_size h]; omega), Array.getElem?_eq_none (by rw [chA_size h]; omega)]

/-- From's loop: the trie so far. -/
structure FromL (sd : Array Value) (hs : Bytes → Nat) (w wr : World) (g : Nat) (u : Value) (t : TT) (n : Nat) : Prop where
  var : wr.heap[g]? = some (.cells (chA sd u (.pointer none)) 38 (0, 0))
  out : wr.heap[w.heap.size + 1]? = some (.cells z38 38 (0, 0))
  tr : TrIn (fun b => b ≠ g) wr t u
  fits : TT.Fits hs 0 t 0
  small : TT.Small (n + 1) t
  below : Below w.heap.size w wr
  far : w.heap.size + 1 < g

set_option maxRecDepth 100000 in
set_option maxHeartbeats 12800000 in
theorem chFrom_any {S : Nat → Prop} (sl : Bytes) (hsl : sl.length = 16) (L : Pairs) (A : Option Addr) (n c : Nat) (w : World) (hL : LIn S w A n L) (hnc : n ≤ c) (hn : n ≤ 1000) (hm : ∀ j, j < n → mapAt L j = 0) (hT : Tabs w) (hk : ∀ j, j < n → (L.getD j ([], [])).1.length ≤ 65536 ∧ (L.getD j ([], [])).2.length ≤ 65536) :
    Calls Tryz.prog 31 #[.agg (Sip.rowOf sl), .slice A n c] w fun e w' => ∃ u p T, e = .returned (.tuple #[.agg (chA (Sip.rowOf sl) u p), .int .i64 0]) ∧ Hid (T.list = L ∧ T.even ∧ TIn (fun _ => True) w' p T ∧ Below w.heap.size w w' ∧ u.oneCell' = true) := by
  have HL := Lib.hid hL
  have HTB := Lib.hid hT
  have HS := Lib.hid (seed_row sl hsl)
  have HKL := Lib.hid hk
  have HMP := Lib.hid hm
  have HTP := Lib.hid (fun (j : Nat) (wx : World) (t : TT) (u : Value) (Ak Ax : Option Addr) (nk ck nx cx : Nat) (key x : Bytes) (g : Nat) (hj : j ≤ 1000) (hT' : Tabs wx) (h1 : BIn (fun b => b ≠ g) wx (.slice Ak nk ck) key) (h2 : BIn (fun b => b ≠ g) wx (.slice Ax nx cx) x) (h3 : TrIn (fun b => b ≠ g) wx t u) (h4 : TT.Fits (Sip.hashN sl) 0 t 0) (h5 : TT.Small (j + 1) t) =>
    triePut_any (S := fun b => b ≠ g) none sl hsl (j + 1) (j + 1) t u Ak Ax nk ck nx cx key x wx 0 0 hT'.ch h1 h2 h3 ⟨by omega, fun T' _ h => Nat.le_trans T'.height_le h, h4, h5, by omega, by omega⟩)
  have HFP : Hid (∀ (t : TT) (j : Nat) (key x : Bytes), TT.Fits (Sip.hashN sl) 0 t 0 → TT.Small (j + 1) t → TT.Fits (Sip.hashN sl) 0 (TT.put key x (Sip.hashN sl key) t 0) 0 ∧ TT.Small (j + 1 + 1) (TT.put key x (Sip.hashN sl key) t 0)) := fun t j key x h1 h2 =>
    ⟨TT.fits_put (Sip.hashN_lt sl) t 0 h1 (fun i hi => by omega) (by omega), TT.small_put (by omega) t 0 h2⟩
  generalize hqh : Sip.hashN sl = hs at *
  generalize hqs : Sip.rowOf sl = sd at *
  have hX : ((w.alloc (.cells sd 31)).alloc (.cells z38 38)).heap[w.heap.size]? = some (.cells sd 31 (0, 0)) := heap_old _ (heap_new w _)
  have hZ : ((w.alloc (.cells sd 31)).alloc (.cells z38 38)).heap[w.heap.size + 1]? = some (.cells z38 38 (0, 0)) := by
    have := heap_new (w.alloc (.cells sd 31)) (.cells z38 38)
    rw [World.size_alloc] at this
    exact this
  have HB : Hid (Below w.heap.size w ((w.alloc (.cells sd 31)).alloc (.cells z38 38))) := ((Below.refl _ _).alloc (Nat.le_refl _) _).alloc (by simp) _
  have HX := Lib.hid hX
  have HZ := Lib.hid hZ
  clear hL hT hk hm hX hZ
  go_enter Tryz.func31, Tryz.ntmps31
  go_upto_region 1 with (fail)
  generalize (w.alloc (.cells sd 31)).alloc (.cells z38 38) = X at *
  go_wp2_with fail
  refine (map_any L A n c X (HL.out.below HB.out) (by omega)).mono ?_
  rintro e w1 ⟨i1, er, rfl, h1⟩
  have he0 : er = 0 := by
    rcases h1.out.1 with ⟨h2, h3, h4, h5⟩ | ⟨h2, h3, _⟩
    · exact absurd (h4.trans (HMP.out i1 h2)) h5
    · exact h3
  subst he0
  have HB1 : Hid (Below X.heap.size X w1) := h1.out.2
  have HX1 : Hid (w1.heap[w.heap.size]? = some (.cells sd 31 (0, 0))) := (HB1.out.block _ (Array.getElem?_eq_some_iff.1 HX.out).1).trans HX.out
  clear h1
  go_wp2_with (refine wpList_load_row rfl 31 _ rfl w.heap.size (by rfl) 31 sd (0, 0) _ HX1.out Tryz.underlying31 rfl (size_of info31 HS.out.1) ?_)
  refine (chartNew_any sd HS.out w1).mono ?_
  rintro e w2 ⟨rfl, hb2⟩
  have HB2 : Hid (Below X.heap.size X w2) := HB1.out.trans (hb2.mono HB1.out.size)
  clear hb2
  have HZN : Hid ((w2.alloc (.cells z38 38)).heap[w2.heap.size]? = some (.cells z38 38 (0, 0))) := heap_new w2 _
  go_wp2_with (refine wpList_store_row rfl 38 _ _ rfl w2.heap.size (chA sd .nilIface (.pointer none)) rfl rfl 38 _ HZN.out (size_of info38 (chA_size HS.out.1)) (by rw [chA_size HS.out.1]; rfl) (chA_one HS.out rfl rfl) ?_)
  have hM0 : FromL sd hs w ((w2.alloc (.cells z38 38)).setRow w2.heap.size (chA sd .nilIface (.pointer none))) w2.heap.size .nilIface .none 0 := by
    have hlt := (Array.getElem?_eq_some_iff.1 HZ.out).1
    have h2s := HB2.out.size
    have hbw := HB.out.trans (HB2.out.mono HB.out.size)
    exact ⟨setRow_heap _ _ _ _ 38 _ HZN.out, (setRow_other _ _ _ _ (by omega)).trans (heap_old _ ((HB2.out.block _ hlt).trans HZ.out)), rfl, trivial, trivial, below_setRow (hbw.alloc hbw.size _) hbw.size _, by omega⟩
  have HM0 := Lib.hid hM0
  clear hM0
  generalize hg : w2.heap.size = g at *
  generalize (w2.alloc (.cells z38 38)).setRow g (chA sd .nilIface (.pointer none)) = Y at *
  go_wp2_with fail
  go_loopw [24] (fun v wr => ∃ (j : Nat) (u : Value) (t : TT), v = .int .i64 (j : Int) ∧ j ≤ n ∧ Hid (FromL sd hs w wr g u t j)) (fun v _ => n - (intOf v).toNat)
  case atStart => exact ⟨0, _, _, rfl, by omega, HM0⟩
  case round =>
    obtain ⟨j, u, t, rfl, hj, hI⟩ := hrel
    by_cases hlt : j < n
    · obtain ⟨b, o, rfl, hbl, hSb, hc⟩ := HL.out.cell (by omega)
      obtain ⟨kv, xv, c0, c1, hk, hx⟩ := hc j hlt
      obtain ⟨Ak, nk, ck, rfl⟩ := hk.slice
      obtain ⟨Ax, nx, cx, rfl⟩ := hx.slice
      have hfar := hI.out.far
      have hk2 := hk.imp (S' := fun b => b ≠ g) fun b hlt _ => by omega
      have hx2 := hx.imp (S' := fun b => b ≠ g) fun b hlt _ => by omega
      replace c0 := (hI.out.below.cell (p := ⟨b, o + j * 2, none⟩) hbl).trans c0
      replace c1 := (hI.out.below.cell (p := ⟨b, o + j * 2 + 1, none⟩) hbl).trans c1
      have hbx : Below wr.heap.size wr (wr.alloc (.cells #[.slice Ak nk ck, .slice Ax nx cx] 60)) := (Below.refl _ _).alloc (Nat.le_refl _) _
      have hbw := hI.out.below.alloc hI.out.below.size (.cells #[.slice Ak nk ck, .slice Ax nx cx] 60)
      have hgr := (Array.getElem?_eq_some_iff.1 hI.out.var).1
      have hv2 : (wr.alloc (.cells #[.slice Ak nk ck, .slice Ax nx cx] 60)).heap[g]? = some (.cells (chA sd u (.pointer none)) 38 (0, 0)) := heap_old _ hI.out.var
      have ra35 : (wr.alloc (.cells #[.slice Ak nk ck, .slice Ax nx cx] 60)).rangeAt g 0 (trA sd u).toList := range_row 0 hv2 fun j hj => chA_sub HS.out.1 j (by rw [trA_size HS.out.1] at hj; exact hj)
      have in35 := Lib.hid (show (Tryz.prog.info? 35).map (·.size) = some (trA sd u).toList.length by rw [info35, Array.length_toList, trA_size HS.out.1])
      have HPU := Lib.hid (HTP.out j _ t u Ak Ax nk ck nx cx (L.getD j ([], [])).1 (L.getD j ([], [])).2 g (by omega) (HTB.out.below hbw) (hk2.below hbw) (hx2.below hbw) (hI.out.tr.below hbx) hI.out.fits hI.out.small)
      have HFT := Lib.hid (HFP.out t j (L.getD j ([], [])).1 (L.getD j ([], [])).2 hI.out.fits hI.out.small)
      have HBW := Lib.hid hbw
      have al : (0 : Int) ≤ (j : Int) := by omega
      have al3 : (j : Int) < (n : Int) := by omega
      clear hc hk hx hk2 hx2 hbx hbw
      go_wp2_with (refine wpList_load_mid rfl 35 _ rfl g 0 (by rfl) (trA sd u).toList _ ra35 Tryz.underlying35 rfl in35.out ?_)
      refine HPU.out.mono ?_
      rintro e w3 ⟨u3, r3, vi3, co3, rfl, h31, h32⟩
      have hb3 := h32.kept.to
      have HV3 : Hid (w3.heap[g]? = some (.cells (chA sd u (.pointer none)) 38 (0, 0))) := (hb3.block g (by simp; omega)).trans hv2
      have HO3 : Hid (w3.heap[w.heap.size + 1]? = some (.cells z38 38 (0, 0))) := (hb3.block _ (by simp; omega)).trans (heap_old _ hI.out.out)
      have HU3 := Lib.hid h31.one
      have hbw3 := HBW.out.trans (hb3.mono HBW.out.size)
      have hst := run_storeVar_sub (P := Tryz.prog) w3 g 0 38 35 _ (trA sd u3) HV3.out (size_of info35 (trA_size HS.out.1)) (by rw [trA_size HS.out.1, chA_size HS.out.1]; omega) (trA_one HS.out HU3.out)
      rw [chA_part HS.out.1] at hst
      have hML : FromL sd hs w (w3.setRow g (chA sd u3 (.pointer none))) g u3 (TT.put (L.getD j ([], [])).1 (L.getD j ([], [])).2 (hs (L.getD j ([], [])).1) t 0) (j + 1) := by
        refine ⟨setRow_heap w3 g _ _ 38 _ HV3.out, (setRow_other _ _ _ _ (by omega)).trans HO3.out, (h31.imp fun b _ hb => ?_).carry (by simp) fun b hb _ => setRow_other _ _ b _ hb, HFT.out.1, HFT.out.2, below_setRow hbw3 (by omega) _, hfar⟩
        rcases hb with hb | hb
        · exact hb
        · simp only [World.size_alloc] at hb; omega
      have HML := Lib.hid hML
      have HST := Lib.hid hst
      clear h31 h32 hb3 hbw3 hst hML c0 c1 ra35 hv2
      go_wp2_with (refine wpList_skip rfl (exec_store 35 _ _ rfl rfl HST.out) ?_)
      go_roundw
      case rel => exact ⟨j + 1, u3, _, by go_num, by omega, HML⟩
      case measure => simp [intOf]; omega
    · obtain rfl : j = n := by omega
      have HF := Lib.hid (from_any j L A c wr (HL.out.below hI.out.below) hnc (by omega))
      have hfar := hI.out.far
      go_wp2_with fail
      refine HF.out.mono ?_
      rintro e w3 ⟨p3, T3, rfl, hl3, he3, ht3, hb3⟩
      obtain ⟨v3, rfl⟩ := ht3.ptr
      have hgr := (Array.getElem?_eq_some_iff.1 hI.out.var).1
      have HV3 : Hid (w3.heap[g]? = some (.cells (chA sd u (.pointer none)) 38 (0, 0))) := (hb3.block g hgr).trans hI.out.var
      have HO3 : Hid (w3.heap[w.heap.size + 1]? = some (.cells z38 38 (0, 0))) := (hb3.block _ (by omega)).trans hI.out.out
      have HU := Lib.hid hI.out.tr.one
      have hc17 := (cell_of_row w3 g 17 _ _ _ HV3.out).trans (chA_get HS.out.1).2
      have hf17 := frozen_of_row w3 g 17 _ _ HV3.out
      have hset : w3.setCell ⟨g, 17, none⟩ (.pointer v3) = w3.setRow g (chA sd u (.pointer v3)) := by
        rw [setCell_eq_setRow w3 g 17 _ _ _ _ HV3.out, chA_last HS.out.1]
      have HV4 : Hid ((w3.setRow g (chA sd u (.pointer v3))).heap[g]? = some (.cells (chA sd u (.pointer v3)) 38 (0, 0))) := setRow_heap w3 g _ _ 38 _ HV3.out
      have HO4 : Hid ((w3.setRow g (chA sd u (.pointer v3))).heap[w.heap.size + 1]? = some (.cells z38 38 (0, 0))) := (setRow_other _ _ _ _ (by omega)).trans HO3.out
      have hbw := hI.out.below.trans (hb3.mono hI.out.below.size)
      have HFIN : Hid (TIn (fun _ => True) ((w3.setRow g (chA sd u (.pointer v3))).setRow (w.heap.size + 1) (chA sd u (.pointer v3))) (.pointer v3) T3 ∧ Below w.heap.size w ((w3.setRow g (chA sd u (.pointer v3))).setRow (w.heap.size + 1) (chA sd u (.pointer v3)))) := by
        refine ⟨(ht3.carry (by simp) fun b hb _ => ?_).imp fun b _ _ => trivial, below_setRow (below_setRow hbw (by omega) _) (by omega) _⟩
        have : wr.heap.size ≤ b := hb
        exact (setRow_other _ _ _ _ (by omega)).trans (setRow_other _ _ _ _ (by omega))
      have HE := Lib.hid (And.intro hl3 he3)
      clear hl3 he3 ht3 hb3 hbw
      go_upto_region 11 with fail
      clear hset hc17 hf17
      generalize w3.setRow g (chA sd u (.pointer v3)) = Z at *
      have ra38 : Z.rangeAt g 0 (chA sd u (.pointer v3)).toList := range_row 0 HV4.out fun j _ => by rw [Nat.zero_add]
      have in38 := Lib.hid (show (Tryz.prog.info? 38).map (·.size) = some (chA sd u (.pointer v3)).toList.length by rw [info38, Array.length_toList, chA_size HS.out.1])
      have HW := Lib.hid (setRow_heap Z (w.heap.size + 1) _ (chA sd u (.pointer v3)) 38 _ HO4.out)
      go_wp2_with (first
        | (refine wpList_load_mid rfl 38 _ rfl g 0 (by rfl) (chA sd u (.pointer v3)).toList _ ra38 Tryz.underlying38 rfl in38.out ?_)
        | (refine wpList_store_row rfl 38 _ _ rfl (w.heap.size + 1) (chA sd u (.pointer v3)) rfl rfl 38 _ HO4.out (size_of info38 (chA_size HS.out.1)) (by rw [chA_size HS.out.1]; rfl) (chA_one HS.out HU.out rfl) ?_))
      exact bodyPost_ret (results_ct rfl _ _ ⟨w.heap.size + 1, 0, none⟩ _ (by rfl) (run_loadVar_row _ _ 38 38 _ (0, 0) _ HW.out Tryz.underlying38 rfl (size_of info38 (chA_size HS.out.1)))) rfl ⟨u, .pointer v3, T3, rfl, Lib.hid ⟨HE.out.1, HE.out.2, HFIN.out.1, HFIN.out.2, HU.out⟩⟩

end Go.Proofs.YtphjaebkcimklaaGreatDoor

/- Texts written out as bytes. -/
set_option linter.unusedVariables false
set_option linter.unusedSimpArgs false
namespace Go.Proofs.YtphjaebkcimklaaGreatDoor
open Go.RowKit

abbrev litC (zs : Bytes) : Array Value := (zs.map fun z => Value.int .u8 (z.toNat : Int)).toArray
/-- The world behind bytes written out. -/
def litW (w : World) (zs : Bytes) : World := (w.alloc (.cells (litC zs) 5)).freeze ⟨w.heap.size, zs.length, none⟩ 1
theorem conv_lit (w : World) (zs : Bytes) (hz : zs ≠ []) : (convert 23 23 (.slice (some ⟨w.heap.size, 0, none⟩) zs.length zs.length)).run Tryz.prog (w.alloc (.cells (litC zs) 5)) = .ok (.slice (some ⟨w.heap.size, 0, none⟩) zs.length zs.length) (litW w zs) := by
  have hsh : (w.alloc (.cells (litC zs) 5)).shape? w.heap.size = some (5, zs.length) := by
    simp [World.shape?, World.alloc, -World.alloc_eq]
  simp [convert, run_underlying Tryz.underlying23, run_underlying Tryz.underlying5, markStringish, hsh, litW]
theorem lit_size (w : World) (zs : Bytes) : (litW w zs).heap.size = w.heap.size + 1 := by
  simp [litW, World.freeze, World.alloc, -World.alloc_eq]
theorem lit_old (w : World) (zs : Bytes) (j : Nat) (hj : j < w.heap.size) : (litW w zs).heap[j]? = w.heap[j]? := by
  have h1 : w.heap.size ≠ j := by omega
  simp [litW, World.freeze, World.alloc, -World.alloc_eq, Array.getElem?_modify, Array.getElem?_push, h1, Ne.symm h1]
theorem lit_new (w : World) (zs : Bytes) : ∃ fr, (litW w zs).heap[w.heap.size]? = some (.cells (litC zs) 5 fr) := by
  refine ⟨(zs.length, zs.length + 1), ?_⟩
  simp [litW, World.freeze, World.alloc, -World.alloc_eq]
  rw [Array.getElem_modify_self]
  simp
theorem lit_below (w : World) (zs : Bytes) : Below w.heap.size w (litW w zs) :=
  ⟨rfl, rfl, rfl, by rw [lit_size]; omega, fun b hb => lit_old w zs b hb⟩
theorem lit_in (w : World) (zs : Bytes) (hz : zs.length ≤ 100000) : BIn (New w.heap.size) (litW w zs) (.slice (some ⟨w.heap.size, 0, none⟩) zs.length zs.length) zs := by
  obtain ⟨fr, hn⟩ := lit_new w zs
  exact ⟨_, _, _, rfl, ⟨Nat.le_refl _, hz⟩, ⟨rfl, by omega, fun _ => ⟨w.heap.size, 0, rfl, by rw [lit_size]; omega, fun j hj => by
    rw [Nat.zero_add]
    refine (cell_of_row (litW w zs) w.heap.size j _ _ _ hn).trans ?_
    simp [litC, List.getD_eq_getElem?_getD, List.getElem?_eq_getElem hj]⟩⟩, fun b o _ e => by cases e; exact Nat.le_refl _⟩
theorem conv_ab (w : World) : (convert 23 23 (.slice (some ⟨w.heap.size, 0, none⟩) 2 2)).run Tryz.prog (w.alloc (.cells #[.int .u8 97, .int .u8 98] 5)) = .ok (.slice (some ⟨w.heap.size, 0, none⟩) 2 2) (litW w [97, 98]) := conv_lit w [97, 98] (by simp)
theorem conv_ac (w : World) : (convert 23 23 (.slice (some ⟨w.heap.size, 0, none⟩) 2 2)).run Tryz.prog (w.alloc (.cells #[.int .u8 97, .int .u8 99] 5)) = .ok (.slice (some ⟨w.heap.size, 0, none⟩) 2 2) (litW w [97, 99]) := conv_lit w [97, 99] (by simp)
theorem conv_b (w : World) : (convert 23 23 (.slice (some ⟨w.heap.size, 0, none⟩) 1 1)).run Tryz.prog (w.alloc (.cells #[.int .u8 98] 5)) = .ok (.slice (some ⟨w.heap.size, 0, none⟩) 1 1) (litW w [98]) := conv_lit w [98] (by simp)

end Go.Proofs.YtphjaebkcimklaaGreatDoor

/- law23's fine and is. -/
set_option linter.unusedVariables false
set_option linter.unusedSimpArgs false
namespace Go.Proofs.YtphjaebkcimklaaGreatDoor
open Go.RowKit
attribute [local go_sem] Oper.semAt_some

theorem BIn.empty {S : Nat → Prop} {w : World} {A : Option Addr} {n c : Nat} (h : BIn S w (.slice A n c) []) : n = 0 := by
  obtain ⟨A', n', c', e, _, hR, _⟩ := h
  cases e
  exact hR.len.symm

set_option maxHeartbeats 6400000 in
theorem is23_any {S S' : Nat → Prop} (M : Pairs) (A : Option Addr) (c : Nat) (A1 A2 : Option Addr) (n1 c1 n2 c2 : Nat) (ok : Bool) (i : Int) (w : World) (hM : MIn S w A M.length M) (hn : M.length ≤ 1000000)
    (hok : ok = decide (0 ≤ i ∧ i < (M.length : Int)))
    (hp : PIn S' w (.agg #[.slice A1 n1 c1, .slice A2 n2 c2]) (if 0 ≤ i ∧ i < (M.length : Int) then M.getD i.toNat ([], []) else ([], [])).1 (if 0 ≤ i ∧ i < (M.length : Int) then M.getD i.toNat ([], []) else ([], [])).2) :
    Calls Tryz.prog 19 #[.agg #[.slice A1 n1 c1, .slice A2 n2 c2], .bool ok, .slice A M.length c, .int .i64 i] w fun e w' => e = .returned (.bool true) ∧ Below w.heap.size w w' := by
  obtain ⟨h1, h2⟩ := hp.kx
  have hB := (Below.refl _ w).alloc (Nat.le_refl _) (.cells #[.slice A1 n1 c1, .slice A2 n2 c2] 60)
  have hbox : Two (w.alloc (.cells #[.slice A1 n1 c1, .slice A2 n2 c2] 60)) w.heap.size (.slice A1 n1 c1) (.slice A2 n2 c2) := heap_new w _
  obtain ⟨b0, b1⟩ := hbox.cells
  have HB := Lib.hid hB
  by_cases hin : 0 ≤ i ∧ i < (M.length : Int)
  · rw [if_pos hin] at h1 h2
    rw [decide_eq_true hin] at hok
    subst hok
    obtain ⟨j, rfl⟩ : ∃ j : Nat, i = (j : Int) := ⟨i.toNat, by omega⟩
    have hj : j < M.length := by omega
    obtain ⟨b, o, rfl, hbl, hSb, hc⟩ := (hM.below hB).cell (by omega)
    obtain ⟨c0, c1'⟩ := hc j hj
    have hk2 := fun i => conv_bytes ((h1.below hB).below (below_drewN' i))
    have hx2 := fun i => conv_bytes ((h2.below hB).below (below_drewN' i))
    simp only [bs] at c0 c1'
    rw [Int.toNat_natCast] at hk2 hx2
    generalize strO (M.getD j ([], [])).1 = sk at *
    generalize strO (M.getD j ([], [])).2 = sx at *
    obtain ⟨al, al3⟩ := hin
    have al2 : ¬ (M.length : Int) ≤ (j : Int) := by omega
    have al4 : ¬ M.length ≤ j := by omega
    clear hc h1 h2 hM hbox hB hp
    go_enter Tryz.func19, Tryz.ntmps19
    go_wp2_with fail
    generalize w.alloc (.cells #[.slice A1 n1 c1, .slice A2 n2 c2] 60) = X at *
    go_quiet (fail)
    go_wp2_with fail
    go_ret
    exact ⟨rfl, below_drewN HB.out _⟩
  · rw [if_neg hin] at h1 h2
    rw [decide_eq_false hin] at hok
    subst hok
    obtain rfl := h1.empty
    obtain rfl := h2.empty
    clear h1 h2 hM hbox hB hp
    by_cases h0 : i < 0
    · clear hin
      go_enter Tryz.func19, Tryz.ntmps19
      go_wp2_with fail
      go_ret
      exact ⟨rfl, HB.out⟩
    · have al2 : (M.length : Int) ≤ i := by omega
      clear hin
      go_enter Tryz.func19, Tryz.ntmps19
      go_wp2_with fail
      go_ret
      exact ⟨rfl, HB.out⟩

/-- What fine tells. -/
def FineZ (L : List (Int × Bytes × Bytes)) (nf nt : Nat) (w w' : World) (e : Ending) : Prop := ∃ r, e = .returned (.bool r) ∧ (r = true → FineL L 60 ∧ nf ≤ 100 ∧ nt ≤ 100) ∧ Below w.heap.size w w'

set_option maxRecDepth 100000 in
set_option maxHeartbeats 1600000 in
theorem fine23_any (A : Option Addr) (n c : Nat) (L : List (Int × Bytes × Bytes)) (Af At : Option Addr) (nf cf nt ct : Nat) (cl : Bool) (sk mo : Int) (w : World) (h : Ops w A n L) :
    Calls Tryz.prog 8 #[.slice A n c, .agg #[.slice Af nf cf, .slice At nt ct, .bool cl, .int .i64 sk, .int .i64 mo]] w fun e w' => FineZ L nf nt w w' e := by
  have hb : Below w.heap.size w (w.alloc (.cells #[.slice Af nf cf, .slice At nt ct, .bool cl, .int .i64 sk, .int .i64 mo] 27)) := (Below.refl _ _).alloc (Nat.le_refl _) _
  have hr : (w.alloc (.cells #[.slice Af nf cf, .slice At nt ct, .bool cl, .int .i64 sk, .int .i64 mo] 27)).heap[w.heap.size]? = some (.cells #[.slice Af nf cf, .slice At nt ct, .bool cl, .int .i64 sk, .int .i64 mo] 27 (0, 0)) := heap_new w _
  have HF := Lib.hid (fine_any A n c L 60 _ (h.below hb) (by omega))
  have HB := Lib.hid hb
  have HR := Lib.hid hr
  clear h hb hr
  go_enter Tryz.func8, Tryz.ntmps8
  go_upto_region 1 with (fail)
  generalize w.alloc (.cells #[.slice Af nf cf, .slice At nt ct, .bool cl, .int .i64 sk, .int .i64 mo] 27) = X at *
  go_wp2_with fail
  refine HF.out.mono ?_
  rintro e w1 ⟨r, rfl, hr, hb1⟩
  have HB1 : Hid (Below w.heap.size w w1) := HB.out.trans (hb1.mono HB.out.size)
  have hr1 : w1.heap[w.heap.size]? = some (.cells #[.slice Af nf cf, .slice At nt ct, .bool cl, .int .i64 sk, .int .i64 mo] 27 (0, 0)) := (hb1.block _ (Array.getElem?_eq_some_iff.1 HR.out).1).trans HR.out
  have c0 : w1.cell? ⟨w.heap.size, 0, none⟩ = some (.slice Af nf cf) := cell_of_row w1 w.heap.size 0 _ _ _ hr1
  have c1 : w1.cell? ⟨w.heap.size, 1, none⟩ = some (.slice At nt ct) := cell_of_row w1 w.heap.size 1 _ _ _ hr1
  clear hb1 hr1
  cases r with
  | false =>
    clear hr
    go_wp2_with fail
    go_ret
    exact ⟨false, rfl, fun e => by simp at e, HB1.out⟩
  | true =>
    have HH := Lib.hid (hr rfl)
    clear hr
    by_cases h1 : nf ≤ 100
    · have h1i : (nf : Int) ≤ 100 := by omega
      by_cases h2 : nt ≤ 100
      · have HL : Hid (FineL L 60 ∧ nf ≤ 100 ∧ nt ≤ 100) := ⟨HH.out, h1, h2⟩
        go_wp2_with fail
        go_ret
        exact ⟨_, rfl, fun _ => HL.out, HB1.out⟩
      · have h2i : ¬ (nt : Int) ≤ 100 := by omega
        go_wp2_with fail
        go_ret
        exact ⟨_, rfl, fun e => by have := of_decide_eq_true e; omega, HB1.out⟩
    · have h1i : ¬ (nf : Int) ≤ 100 := by omega
      go_wp2_with fail
      go_ret
      exact ⟨false, rfl, fun e => by simp at e, HB1.out⟩

end Go.Proofs.YtphjaebkcimklaaGreatDoor
