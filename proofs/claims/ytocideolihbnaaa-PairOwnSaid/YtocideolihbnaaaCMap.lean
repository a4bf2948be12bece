/- Pairs: Is of any two; Check; Map. -/
import Derived.Test.YtocideolihbnaaaCRef
import Derived.Test.YtocideolihbnaaaTQuiet
set_option linter.unusedVariables false
set_option linter.unusedSimpArgs false
namespace Go.Proofs.Ytocideolihbnaaa
open Go.RowKit Go.Deep

set_option maxHeartbeats 3200000 in
theorem is_any {S S' : Nat → Prop} (L M : Pairs) (A A' : Option Addr) (n n' c c' : Nat) (w : World) (hL : LIn S w A n L) (hM : MIn S' w A' n' M) (hn : n ≤ 1000000) (hn' : n' ≤ 1000000) :
    Calls Try.prog 15 #[.slice A n c, .slice A' n' c'] w fun e w' => e = .returned (.bool (decide (L = M))) ∧ Below w.heap.size w w' := by
  have HL := Lib.hid hL
  have HM := Lib.hid hM
  clear hL hM
  by_cases hlen : n = n'
  · subst hlen
    go_enter Try.func15, Try.ntmps15
    go_wp2_with fail
    go_loopw [13] (fun v wr => ∃ j : Nat, v = .int .i64 (j : Int) ∧ j ≤ n ∧ Hid ((∀ i, i < j → L.getD i ([], []) = M.getD i ([], [])) ∧ Below w.heap.size w wr)) (fun v _ => n - (intOf v).toNat)
    case atStart => exact ⟨0, rfl, by omega, Lib.hid ⟨fun i hi => by omega, Below.refl _ _⟩⟩
    case round =>
      obtain ⟨j, rfl, hj, hI⟩ := hrel
      by_cases hlt : j < n
      · obtain ⟨b, o, rfl, hbl, hSb, hc⟩ := (HL.out.below hI.out.2).cell (by omega)
        obtain ⟨b', o', rfl, hbl', hSb', hc'⟩ := (HM.out.below hI.out.2).cell (by omega)
        obtain ⟨kv, xv, c0, c1, hk, hx⟩ := hc j hlt
        obtain ⟨d0, d1⟩ := hc' j hlt
        obtain ⟨Ak, nk, ck, rfl⟩ := hk.slice
        obtain ⟨Ax, nx, cx, rfl⟩ := hx.slice
        have hk2 := fun i => conv_bytes (hk.below (below_drewN' i))
        have hx2 := fun i => conv_bytes (hx.below (below_drewN' i))
        have HB := Lib.hid (fun i => hI.out.2.trans ((below_drewN' (w := wr) i).mono hI.out.2.size))
        simp only [bs] at d0 d1
        obtain ⟨sk, hsk⟩ : ∃ sk, strO (L.getD j ([], [])).1 = sk := ⟨_, rfl⟩
        obtain ⟨sx, hsx⟩ : ∃ sx, strO (L.getD j ([], [])).2 = sx := ⟨_, rfl⟩
        obtain ⟨tk, htk⟩ : ∃ sk, strO (M.getD j ([], [])).1 = sk := ⟨_, rfl⟩
        obtain ⟨tx, htx⟩ : ∃ sx, strO (M.getD j ([], [])).2 = sx := ⟨_, rfl⟩
        rw [htk] at d0
        rw [htx] at d1
        simp only [hsk] at hk2
        simp only [hsx] at hx2
        have HEK : Hid (sk = tk ↔ (L.getD j ([], [])).1 = (M.getD j ([], [])).1) := ⟨fun e => by rw [← hsk, ← htk] at e; have := congrArg strL e; rwa [strL_strO, strL_strO] at this, fun e => by rw [← hsk, ← htk, e]⟩
        have HEX : Hid (sx = tx ↔ (L.getD j ([], [])).2 = (M.getD j ([], [])).2) := ⟨fun e => by rw [← hsx, ← htx] at e; have := congrArg strL e; rwa [strL_strO, strL_strO] at this, fun e => by rw [← hsx, ← htx, e]⟩
        have al : (0 : Int) ≤ (j : Int) := by omega
        have al3 : (j : Int) < (n : Int) := by omega
        clear hc hc' hk hx hsk hsx htk htx
        by_cases hek : sk = tk
        · by_cases hex : sx = tx
          · have HN : Hid (∀ i, i < j + 1 → L.getD i ([], []) = M.getD i ([], [])) := fun i hi => by
              rcases Nat.lt_succ_iff_lt_or_eq.1 hi with h | rfl
              · exact hI.out.1 i h
              · exact Prod.ext (HEK.out.1 hek) (HEX.out.1 hex)
            subst hek hex
            go_wp2_with fail
            go_quiet (fail)
            go_wp2_with fail
            go_roundw
            case rel => exact ⟨j + 1, by go_num, by omega, Lib.hid ⟨HN.out, HB.out nq⟩⟩
            case measure => simp [intOf]; omega
          · have HR : Hid (decide (L = M) = false) := decide_eq_false fun e => hex (HEX.out.2 (by rw [e]))
            have hne := text_ne hex
            subst hek
            go_wp2_with fail
            go_quiet (fail)
            go_wp2_with fail
            go_ret
            exact ⟨by rw [HR.out]; rfl, HB.out nq⟩
        · have HR : Hid (decide (L = M) = false) := decide_eq_false fun e => hek (HEK.out.2 (by rw [e]))
          have hne := text_ne hek
          go_wp2_with fail
          go_quiet (fail)
          go_wp2_with fail
          go_ret
          exact ⟨by rw [HR.out]; rfl, HB.out nq⟩
      · obtain rfl : j = n := by omega
        have HR : Hid (decide (L = M) = true) := decide_eq_true (pairs_ext (by rw [HL.out.len, HM.out.len]) fun i hi => hI.out.1 i (by rw [HL.out.len] at hi; exact hi))
        go_wp2_with fail
        go_ret
        exact ⟨by rw [HR.out]; rfl, hI.out.2⟩
  · have hl2 : ¬ (n : Int) = (n' : Int) := by omega
    have HR : Hid (decide (L = M) = false) := decide_eq_false fun e => hlen (by rw [← HL.out.len, e, HM.out.len])
    rw [HR.out]
    clear hlen
    go_enter Try.func15, Try.ntmps15
    go_wp2_with fail
    go_ret
    exact ⟨rfl, Below.refl _ _⟩

theorem BIn.length_eq {S : Nat → Prop} {w : World} {A : Option Addr} {n c : Nat} {l : Bytes} (h : BIn S w (.slice A n c) l) : l.length = n := by
  obtain ⟨_, _, _, e, _, hR, _⟩ := h
  cases e
  exact hR.len
def bigP (p : Bytes × Bytes) : Prop := 65536 < p.1.length ∨ 65536 < p.2.length
instance (p : Bytes × Bytes) : Decidable (bigP p) := by unfold bigP; infer_instance

set_option maxHeartbeats 3200000 in
theorem check_any (Ak Ax : Option Addr) (nk nx ck cx : Nat) (w : World) :
    Calls Try.prog 23 #[.agg #[.slice Ak nk ck, .slice Ax nx cx]] w fun e w' => e = .returned (.int .i64 (if 65536 < nk ∨ 65536 < nx then 4 else 0)) ∧ Below w.heap.size w w' := by
  by_cases hk : 65536 < nk
  · have h1 : (65536 : Int) < (nk : Int) := by omega
    have HR : Hid ((if 65536 < nk ∨ 65536 < nx then (4 : Int) else 0) = 4) := if_pos (.inl hk)
    rw [HR.out]
    clear hk
    go_enter Try.func23, Try.ntmps23
    go_wp2_with fail
    go_ret
    exact ⟨rfl, (Below.refl _ _).alloc (Nat.le_refl _) _⟩
  · have h1 : ¬ (65536 : Int) < (nk : Int) := by omega
    by_cases hx : 65536 < nx
    · have h2 : (65536 : Int) < (nx : Int) := by omega
      have HR : Hid ((if 65536 < nk ∨ 65536 < nx then (4 : Int) else 0) = 4) := if_pos (.inr hx)
      rw [HR.out]
      clear hk hx
      go_enter Try.func23, Try.ntmps23
      go_wp2_with fail
      go_ret
      exact ⟨rfl, (Below.refl _ _).alloc (Nat.le_refl _) _⟩
    · have h2 : ¬ (65536 : Int) < (nx : Int) := by omega
      have HR : Hid ((if 65536 < nk ∨ 65536 < nx then (4 : Int) else 0) = 0) := if_neg (fun h => h.elim hk hx)
      rw [HR.out]
      clear hk hx
      go_enter Try.func23, Try.ntmps23
      go_wp2_with fail
      go_ret
      exact ⟨rfl, (Below.refl _ _).alloc (Nat.le_refl _) _⟩

def mapAt (L : Pairs) (i : Nat) : Int :=
  if bigP (L.getD i ([], [])) then 4 else if i = 0 then 0 else
  if (L.getD (i - 1) ([], [])).1 = (L.getD i ([], [])).1 then 6 else if cmp (L.getD (i - 1) ([], [])).1 (L.getD i ([], [])).1 = 1 then 5 else 0
/-- What Map tells: where the first fault lies, and its kind. -/
def Mapped (L : Pairs) (n i : Nat) (er : Int) : Prop := (i < n ∧ (∀ j, j < i → mapAt L j = 0) ∧ er = mapAt L i ∧ er ≠ 0) ∨ (i = n ∧ er = 0 ∧ ∀ j, j < n → mapAt L j = 0)
def MapR (w w' : World) (e : Ending) (L : Pairs) (n : Nat) : Prop := ∃ (i : Nat) (er : Int), e = .returned (.tuple #[.int .i64 (i : Int), .int .i64 er]) ∧ Hid (Mapped L n i er ∧ Below w.heap.size w w')

set_option maxRecDepth 100000 in
set_option maxHeartbeats 3200000 in
theorem map_any {S : Nat → Prop} (L : Pairs) (A : Option Addr) (n c : Nat) (w : World) (hL : LIn S w A n L) (hn : n ≤ 100000) :
    Calls Try.prog 21 #[.slice A n c] w fun e w' => MapR w w' e L n := by
  have HL := Lib.hid hL
  clear hL
  go_enter Try.func21, Try.ntmps21
  go_wp2_with fail
  go_loopw [8] (fun v wr => ∃ j : Nat, v = .int .i64 (j : Int) ∧ j ≤ n ∧ Hid ((∀ i, i < j → mapAt L i = 0) ∧ Below w.heap.size w wr)) (fun v _ => n - (intOf v).toNat)
  case atStart => exact ⟨0, rfl, by omega, Lib.hid ⟨fun i hi => by omega, Below.refl _ _⟩⟩
  case round =>
    obtain ⟨j, rfl, hj, hI⟩ := hrel
    by_cases hlt : j < n
    · obtain ⟨b, o, rfl, hbl, hSb, hc⟩ := (HL.out.below hI.out.2).cell (by omega)
      have HC := Lib.hid hc
      obtain ⟨kv, xv, c0, c1, hk, hx⟩ := hc j hlt
      obtain ⟨Ak, nk, ck, rfl⟩ := hk.slice
      obtain ⟨Ax, nx, cx, rfl⟩ := hx.slice
      have HNX : Hid ((L.getD j ([], [])).1.length = nk ∧ (L.getD j ([], [])).2.length = nx) := ⟨BIn.length_eq hk, BIn.length_eq hx⟩
      have al : (0 : Int) ≤ (j : Int) := by omega
      have al3 : (j : Int) < (n : Int) := by omega
      have al4 : ¬ (1048576 : Int) ≤ (j : Int) := by omega
      have htw : Two (wr.alloc (.cells #[.slice Ak nk ck, .slice Ax nx cx] 34)) wr.heap.size (.slice Ak nk ck) (.slice Ax nx cx) := heap_new wr _
      have hbx := (Below.refl _ wr).alloc (Nat.le_refl _) (.cells #[.slice Ak nk ck, .slice Ax nx cx] 34)
      have HBX : Hid (Below wr.heap.size wr (wr.alloc (.cells #[.slice Ak nk ck, .slice Ax nx cx] 34))) := hbx
      have HTW := Lib.hid htw
      have HK := Lib.hid hk
      have HCH := Lib.hid (check_any Ak Ax nk nx ck cx (wr.alloc (.cells #[.slice Ak nk ck, .slice Ax nx cx] 34)))
      have HS : Hid (∀ er, mapAt L j = er → er ≠ 0 → Mapped L n j er) := fun er h1 h2 => .inl ⟨hlt, hI.out.1, h1.symm, h2⟩
      have HZ : Hid (mapAt L j = 0 → ∀ i, i < j + 1 → mapAt L i = 0) := fun h i hi => by
        rcases Nat.lt_succ_iff_lt_or_eq.1 hi with h' | rfl
        · exact hI.out.1 i h'
        · exact h
      clear hc hk hx hbx htw
      by_cases hbig : 65536 < nk ∨ 65536 < nx
      · rw [if_pos hbig] at HCH
        have HM : Hid (mapAt L j = 4) := by
          have : bigP (L.getD j ([], [])) := by unfold bigP; rw [HNX.out.1, HNX.out.2]; exact hbig
          unfold mapAt; rw [if_pos this]; exact rfl
        clear hbig
        go_wp2_with fail
        refine HCH.out.mono ?_
        rintro e w2 ⟨rfl, hb2⟩
        have HB2 : Hid (Below w.heap.size w w2) := (hI.out.2.trans (HBX.out.mono hI.out.2.size)).trans (hb2.mono (Nat.le_trans hI.out.2.size HBX.out.size))
        clear hb2
        go_wp2_with fail
        go_ret2
        exact ⟨j, 4, rfl, Lib.hid ⟨HS.out 4 HM.out (by decide), HB2.out⟩⟩
      · rw [if_neg hbig] at HCH
        have HNB : Hid (¬ bigP (L.getD j ([], []))) := by unfold bigP; rw [HNX.out.1, HNX.out.2]; exact hbig
        clear hbig
        go_wp2_with fail
        refine HCH.out.mono ?_
        rintro e w2 ⟨rfl, hb2⟩
        have HB2 : Hid (Below wr.heap.size wr w2 ∧ Below w.heap.size w w2 ∧ Two w2 wr.heap.size (.slice Ak nk ck) (.slice Ax nx cx)) :=
          ⟨HBX.out.trans (hb2.mono HBX.out.size), (hI.out.2.trans (HBX.out.mono hI.out.2.size)).trans (hb2.mono (Nat.le_trans hI.out.2.size HBX.out.size)), HTW.out.below hb2 (by simp)⟩
        clear hb2
        by_cases hj0 : j = 0
        · have HM : Hid (mapAt L j = 0) := by unfold mapAt; rw [if_neg HNB.out, if_pos hj0]; exact rfl
          have hz : (j : Int) = 0 := by omega
          have HN := Lib.hid (HZ.out HM.out)
          subst hj0
          clear hz
          go_wp2_with fail
          go_roundw
          case rel => exact ⟨1, by go_num, by omega, Lib.hid ⟨HN.out, HB2.out.2.1⟩⟩
          case measure => simp [intOf]; omega
        · obtain ⟨j0, hj0e⟩ : ∃ j0, j0 + 1 = j := ⟨j - 1, by omega⟩
          have hz : ¬ (j : Int) = 0 := by omega
          have hz2 : ((j : Int) == 0) = false := beq_false_of_ne hz
          have wj : IntKind.i64.wrap ((j : Int) - 1) = (j0 : Int) := by rw [wsm _ (by omega)]; omega
          have al5 : (0 : Int) ≤ (j0 : Int) := by omega
          have al6 : (j0 : Int) < (n : Int) := by omega
          obtain ⟨kv2, xv2, d0, d1, hk2, hx2⟩ := HC.out j0 (by omega)
          obtain ⟨Ak2, nk2, ck2, rfl⟩ := hk2.slice
          have r0 := fun p : BelowBy w2 => World.cell?_of_below p.below (World.cell?_of_below HB2.out.1 d0)
          have s0 := fun p : BelowBy w2 => (HB2.out.2.2.below p.below (by have := HB2.out.1.size; have h2 := HBX.out.size; exact (Array.getElem?_eq_some_iff.1 HB2.out.2.2).1)).cells.1
          have HCM := Lib.hid (fun p : BelowBy w2 => compare_any (.slice Ak2 nk2 ck2) (.slice Ak nk ck) (L.getD j0 ([], [])).1 (L.getD j ([], [])).1 p.W ((hk2.below HB2.out.1).below p.below) ((HK.out.below HB2.out.1).below p.below))
          have HV : Hid (mapAt L j = if (L.getD j0 ([], [])).1 = (L.getD j ([], [])).1 then 6 else if cmp (L.getD j0 ([], [])).1 (L.getD j ([], [])).1 = 1 then 5 else 0) := by
            unfold mapAt; rw [if_neg HNB.out, if_neg hj0, show j - 1 = j0 by omega]; exact rfl
          have HJE := Lib.hid hj0e
          have HCC := Lib.hid (cmp_cases (L.getD j0 ([], [])).1 (L.getD j ([], [])).1)
          clear d0 d1 hk2 hx2 hj0e hj0
          rcases HCC.out with hlt' | heq | hgt
          · have HM : Hid (mapAt L j = 0) := by
              have h1 : (L.getD j0 ([], [])).1 ≠ (L.getD j ([], [])).1 := cmp_ne hlt'
              rw [HV.out, if_neg h1, if_neg (by rw [hlt']; decide)]; exact rfl
            have HN := Lib.hid (HZ.out HM.out)
            change Lib.compareBytes _ _ = -1 at hlt'
            rw [hlt'] at HCM
            clear hlt'
            go_wp2_with fail
            refine wp_region_quiet_below (by kernel_rfl) (by kernel_rfl) ?_
            repeat (quiet_step (first | (go_at_call 26; with_reducible refine Calls.below_same (HCM.out _))))
            refine wpQuiet_nil ?_
            intro _ hw'
            obtain ⟨pb, rfl⟩ := hw'
            clear s0 r0 wj
            go_wp2_with fail
            go_roundw
            case rel => exact ⟨j + 1, by go_num, by omega, Lib.hid ⟨HN.out, HB2.out.2.1.trans (pb.below.mono HB2.out.2.1.size)⟩⟩
            case measure => simp [intOf]; omega
          · have HM : Hid (mapAt L j = 6) := by rw [HV.out, if_pos heq]; exact rfl
            have h0 : Lib.compareBytes (L.getD j0 ([], [])).1 (L.getD j ([], [])).1 = 0 := (cmp_eq0 _ _).2 heq
            rw [h0] at HCM
            clear heq h0
            go_wp2_with fail
            refine wp_region_quiet_below (by kernel_rfl) (by kernel_rfl) ?_
            repeat (quiet_step (first | (go_at_call 26; with_reducible refine Calls.below_same (HCM.out _))))
            refine wpQuiet_nil ?_
            intro _ hw'
            obtain ⟨pb, rfl⟩ := hw'
            clear s0 r0 wj
            go_wp2_with fail
            go_ret2
            exact ⟨j, 6, rfl, Lib.hid ⟨HS.out 6 HM.out (by decide), HB2.out.2.1.trans (pb.below.mono HB2.out.2.1.size)⟩⟩
          · have h1 : Lib.compareBytes (L.getD j0 ([], [])).1 (L.getD j ([], [])).1 = 1 := by
              have := cmp_neg (L.getD j ([], [])).1 (L.getD j0 ([], [])).1
              rw [hgt] at this
              exact this
            have HM : Hid (mapAt L j = 5) := by
              have h2 : (L.getD j0 ([], [])).1 ≠ (L.getD j ([], [])).1 := fun e => by rw [e] at h1; rw [show Lib.compareBytes (L.getD j ([], [])).1 (L.getD j ([], [])).1 = 0 from cmp_self _] at h1; exact absurd h1 (by decide)
              rw [HV.out, if_neg h2, if_pos h1]; exact rfl
            rw [h1] at HCM
            clear hgt h1
            go_wp2_with fail
            refine wp_region_quiet_below (by kernel_rfl) (by kernel_rfl) ?_
            repeat (quiet_step (first | (go_at_call 26; with_reducible refine Calls.below_same (HCM.out _))))
            refine wpQuiet_nil ?_
            intro _ hw'
            obtain ⟨pb, rfl⟩ := hw'
            clear s0 r0 wj
            go_wp2_with fail
            go_ret2
            exact ⟨j, 5, rfl, Lib.hid ⟨HS.out 5 HM.out (by decide), HB2.out.2.1.trans (pb.below.mono HB2.out.2.1.size)⟩⟩
    · obtain rfl : j = n := by omega
      go_wp2_with fail
      go_ret2
      exact ⟨j, 0, rfl, Lib.hid ⟨.inr ⟨rfl, rfl, hI.out.1⟩, hI.out.2⟩⟩

end Go.Proofs.Ytocideolihbnaaa
