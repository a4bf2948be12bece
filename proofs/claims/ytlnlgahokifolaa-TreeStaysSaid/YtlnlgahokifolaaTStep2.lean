/- Put and Step, what is put lying in blocks of its own kind. -/
import Derived.Test.YtlnlgahokifolaaTPlays
set_option linter.unusedVariables false
set_option linter.unusedSimpArgs false
namespace Go.Proofs.Ytlnlgahokifolaa
open Go.RowKit

set_option maxHeartbeats 6400000 in
theorem Put_any2 {S S' : Nat → Prop} (m : Option Nat) (hS : ∀ b, S b → m ≠ some b) (key x : Bytes) (T : PT) (v pv : Value) (vi co : Nat) (w : World) (hT : TIn S w v T) (hp : PIn S' w pv key x) (hM : MAt m w vi co) (hev : T.even) (hn : T.size + 1 ≤ 500000) (hv : vi + T.height < 1000000) (hc : co + T.height < 1000000) :
    Calls Try.prog 41 #[v, pv, mV m] w fun e w' => MadeM S m w w' e (T.putL key x) vi co (min 1 T.size) T.height := by
  obtain ⟨mu, hmu⟩ : ∃ u, mV m = .pointer u := by cases m <;> exact ⟨_, rfl⟩
  have HMV := Lib.hid hmu
  rw [hmu]
  clear hmu
  obtain ⟨pk, px, rfl, hpk, hpx⟩ := hp
  obtain ⟨tu, rfl⟩ := hT.ptr
  obtain ⟨A, n, c, rfl⟩ := hpk.slice
  obtain ⟨A', n', c', rfl⟩ := hpx.slice
  have hbox : Two (w.alloc (.cells #[.slice A n c, .slice A' n' c'] 39)) w.heap.size (.slice A n c) (.slice A' n' c') := heap_new w _
  have HB := Lib.hid ((Below.refl _ w).alloc (Nat.le_refl _) (.cells #[.slice A n c, .slice A' n' c'] 39))
  have HT := Lib.hid (fun W (h : Below w.heap.size w W) => hT.below h)
  have HP : Hid (∀ W, Below w.heap.size w W → PIn S' W (.agg #[.slice A n c, .slice A' n' c']) key x) := fun W h => ⟨_, _, rfl, hpk.below h, hpx.below h⟩
  have HM := Lib.hid hM
  have HNN := Lib.hid (And.intro hev (And.intro hn (And.intro hv hc)))
  obtain ⟨b0, b1⟩ := hbox.cells
  clear hbox hpk hpx hT hM hev hn hv hc
  go_enter Try.func41, Try.ntmps41
  go_wp2_with fail
  refine (own_any (.agg #[.slice A n c, .slice A' n' c']) key x _ (HP.out _ HB.out)).mono ?_
  rintro e wa ⟨u, rfl, hu, hb1⟩
  have H1 : Hid (Below w.heap.size w wa) := HB.out.trans (hb1.mono HB.out.size)
  have HU : Hid (PIn (Up S w.heap.size) wa u key x) := hu.imp (fun b _ hb => .inr (Nat.le_trans HB.out.size hb))
  have HPUT : Hid (Calls Try.prog 69 #[.pointer tu, u, .pointer mu] wa fun e w' => MadeM (Up S w.heap.size) m wa w' e (T.putL key x) vi co (min 1 T.size) T.height) := by
    have := put_any m (up_far HM.out (Nat.le_refl _) hS) key x T (.pointer tu) u vi co wa ((HT.out wa H1.out).up w.heap.size) HU.out (HM.out.below H1.out) HNN.out.1 HNN.out.2.1 HNN.out.2.2.1 HNN.out.2.2.2
    rw [HMV.out] at this
    exact this
  clear hu hb1
  go_wp2_with fail
  refine HPUT.out.mono ?_
  rintro e wb ⟨u', T', vi', co', rfl, t1, t2, t3, t4⟩
  have HF : Hid (T'.list = T.putL key x ∧ T'.even ∧ TIn (Up S w.heap.size) wb (.pointer u') T' ∧ Met m w wb vi co vi' co' (min 1 T.size) T.height) := ⟨t1, t2, t3.imp (fun b _ hb => upup H1.out.size b hb), ((Met.of HM.out H1.out).trans t4).wide (by omega) (by omega)⟩
  clear t1 t2 t3 t4
  go_wp2_with fail
  go_ret
  exact ⟨u', T', vi', co', rfl, HF.out⟩

set_option maxRecDepth 100000 in
set_option maxHeartbeats 12800000 in
theorem step_any2 {S S' : Nat → Prop} (m : Option Nat) (hS : ∀ b, S b → m ≠ some b) (hS' : ∀ b, S' b → m ≠ some b) (T : PT) (M : Pairs) (v ov : Value) (A : Option Addr) (c vi co : Nat) (op : Int) (k x : Bytes) (w : World)
    (hT : TIn S w v T) (hM : MIn S w A M.length M) (hc : M.length ≤ c) (hO : OIn S' w ov op k x) (hK : k.length ≤ 100000) (hev : T.even) (hasc : Asc T.list) (hascM : Asc M) (hkeys : ∀ p ∈ M, p.1.length ≤ 100000)
    (hA : MAt m w vi co) (hn : T.size + 1 ≤ 500000) (hm : M.length ≤ 1000000) (hv : vi + T.height < 1000000) (hco : co + T.height < 1000000) :
    Calls Try.prog 15 #[v, .slice A M.length c, ov, mV m] w fun e w' => Stepped S m w w' e T M vi co op := by
  obtain ⟨mu, hmu⟩ : ∃ u, mV m = .pointer u := by cases m <;> exact ⟨_, rfl⟩
  have HMV := Lib.hid hmu
  rw [hmu]
  clear hmu
  obtain ⟨tu, rfl⟩ := hT.ptr
  obtain ⟨kv, xv, rfl, hk, hx⟩ := hO
  obtain ⟨Ak, nk, ck, rfl⟩ := hk.slice
  obtain ⟨Ax, nx, cx, rfl⟩ := hx.slice
  have hB := (Below.refl _ w).alloc (Nat.le_refl _) (.cells #[.int .i64 op, .slice Ak nk ck, .slice Ax nx cx] 29)
  have hbox : (w.alloc (.cells #[.int .i64 op, .slice Ak nk ck, .slice Ax nx cx] 29)).heap[w.heap.size]? = some (.cells #[.int .i64 op, .slice Ak nk ck, .slice Ax nx cx] 29 (0, 0)) := heap_new w _
  have hXs : w.heap.size < (w.alloc (.cells #[.int .i64 op, .slice Ak nk ck, .slice Ax nx cx] 29)).heap.size := by simp
  have hmw : m ≠ some w.heap.size := fun e => by have := hA.lt _ e; omega
  have KX : Hid (Kept m w (w.alloc (.cells #[.int .i64 op, .slice Ak nk ck, .slice Ax nx cx] 29))) := Kept.of hB
  have HMX : Hid (MAt m (w.alloc (.cells #[.int .i64 op, .slice Ak nk ck, .slice Ax nx cx] 29)) vi co) := hA.below hB
  have HM0 := Lib.hid hA
  have HFAR := Lib.hid (up_far hA (Nat.le_refl _) hS)
  have HT := Lib.hid (fun W (h : Kept m w W) => hT.kept h hS)
  have HMM := Lib.hid (fun W (h : Kept m w W) => hM.kept h hS)
  have HK := Lib.hid (fun W (h : Kept m w W) => hk.kept h hS')
  have HX := Lib.hid (fun W (h : Kept m w W) => hx.kept h hS')
  have HCV := Lib.hid (fun W (h : Kept m w W) => conv_bytes (hk.kept h hS'))
  have HCX := Lib.hid (fun W (h : Kept m w W) => conv_bytes (hx.kept h hS'))
  have HP : Hid (∀ W, Kept m w W → PIn S' W (.agg #[.slice Ak nk ck, .slice Ax nx cx]) k x) := fun W h => ⟨_, _, rfl, hk.kept h hS', hx.kept h hS'⟩
  have HNN := Lib.hid (And.intro hn (And.intro hm (And.intro hv hco)))
  have HEV := Lib.hid (And.intro hev (And.intro hasc (And.intro hascM hkeys)))
  have HC := Lib.hid (And.intro hc hK)
  go_enter Try.func15, Try.ntmps15
  go_upto_region 1 with fail
  generalize w.alloc (.cells #[.int .i64 op, .slice Ak nk ck, .slice Ax nx cx] 29) = X at *
  have HBOX : Hid (∀ W, Kept m X W → W.cell? ⟨w.heap.size, 0, none⟩ = some (.int .i64 op) ∧ W.cell? ⟨w.heap.size, 1, none⟩ = some (.slice Ak nk ck) ∧ W.cell? ⟨w.heap.size, 2, none⟩ = some (.slice Ax nx cx)) := fun W h => by
    have h2 := (h.block w.heap.size hXs hmw).trans hbox
    exact ⟨cell_of_row W w.heap.size 0 _ _ _ h2, cell_of_row W w.heap.size 1 _ _ _ h2, cell_of_row W w.heap.size 2 _ _ _ h2⟩
  clear hT hM hc hk hx hB hbox hXs hmw hA hn hm hv hco hev hasc hascM hkeys hK
  obtain ⟨b0, b1, b2⟩ := HBOX.out X (Kept.refl _ _)
  have hcv := HCV.out X KX.out
  go_wp2_with fail
  refine (mget_any M A M.length c (strO k) X (HMM.out X KX.out) HNN.out.2.1).mono ?_
  rw [strL_strO]
  rintro e w2 ⟨rfl, hb2⟩
  obtain ⟨want, is, hg, his, hwant⟩ := gotM_parts (getM M k)
  rw [hg]
  have KX2 : Hid (Kept m X w2) := Kept.of hb2
  have K2 : Hid (Kept m w w2) := KX.out.trans KX2.out
  have HM2 : Hid (MAt m w2 vi co) := HMX.out.below hb2
  have HIS := Lib.hid his
  have HWANT := Lib.hid hwant
  clear hb2 hg hcv b0 b1 b2 his hwant
  obtain ⟨b0, b1, b2⟩ := HBOX.out w2 KX2.out
  have hcv := HCV.out w2 K2.out
  go_upto_block 0 with fail
  go_cut [0, 1] (fun t x' wx => ∃ u T' A' c' M' vi' co', t = .pointer u ∧ x' = .slice A' M'.length c' ∧ Hid (StepIn S m w wx T T' M M' u A' c' vi co vi' co' op))
  case first =>
    by_cases h1 : op = 1
    · subst h1
      have HPUT : Hid (Calls Try.prog 41 #[.pointer tu, .agg #[.slice Ak nk ck, .slice Ax nx cx], .pointer mu] w2 fun e w' => MadeM S m w2 w' e (T.putL k x) vi co (min 1 T.size) T.height) := by
        have := Put_any2 m hS k x T (.pointer tu) (.agg #[.slice Ak nk ck, .slice Ax nx cx]) vi co w2 (HT.out w2 K2.out) (HP.out w2 K2.out) HM2.out HEV.out.1 HNN.out.1 HNN.out.2.2.1 HNN.out.2.2.2
        rw [HMV.out] at this
        exact this
      go_wp2_with fail
      refine HPUT.out.mono ?_
      rintro e w3 ⟨u', T', vi', co', rfl, t1, t2, t3, t4⟩
      have HF : Hid (T'.list = T.putL k x ∧ T'.even ∧ TIn (Up S w2.heap.size) w3 (.pointer u') T' ∧ Met m w2 w3 vi co vi' co' (min 1 T.size) T.height) := ⟨t1, t2, t3, t4⟩
      have K3 : Hid (Kept m w w3) := K2.out.trans t4.kept
      have KX3 : Hid (Kept m X w3) := KX2.out.trans t4.kept
      clear t1 t2 t3 t4 b0 b1 b2 hcv
      obtain ⟨b0, b1, b2⟩ := HBOX.out w3 KX3.out
      have hcx := HCX.out w3 K3.out
      go_wp2_with fail
      refine (mput_any' M A M.length c (strO k) (strO x) w3 (HMM.out w3 K3.out) HNN.out.2.1 HEV.out.2.2.2).mono ?_
      rw [strL_strO, strL_strO]
      rintro e w4 ⟨A', c', rfl, t1, t2, t3⟩
      have HG : Hid ((putM M k x).length ≤ c' ∧ MIn (New w3.heap.size) w4 A' (putM M k x).length (putM M k x) ∧ Below w3.heap.size w3 w4) := ⟨t1, t2, t3⟩
      clear t1 t2 t3 b0 b1 b2 hcx
      go_wp2_with fail
      go_meet
      have hpl := put_plain T k x HEV.out.2.1
      have hpm := putM_ins M k x HEV.out.2.2.1
      refine ⟨u', T', A', c', putM M k x, vi', co', rfl, rfl, Lib.hid ⟨HF.out.2.1, ?_, ?_, ?_, HG.out.1, ?_, ?_, ?_, ?_, ?_, ?_, ?_⟩⟩
      · rw [HF.out.1, hpl]; exact ins_asc k x _ HEV.out.2.1
      · exact (HF.out.2.2.1.below HG.out.2.2).imp fun b _ hb => up_imp K2.out.size b hb
      · exact HG.out.2.1.imp fun b _ hb => .inr (Nat.le_trans K3.out.size hb)
      · have h0 : Met m w w2 vi co vi co 0 0 := ⟨K2.out, HM2.out, by omega, by omega, Nat.le_refl _, by omega⟩
        exact ((h0.trans HF.out.2.2.2).trans (Met.of HF.out.2.2.2.at_ HG.out.2.2)).wide (by omega) (by omega)
      · rw [PT.size_of HF.out.1]; exact T.putL_len k x
      · rw [hpm]; exact ins_len k x M
      · rw [hpm]; exact ins_asc k x M HEV.out.2.2.1
      · intro p hp
        rw [hpm] at hp
        rcases ins_mem k x M p hp with rfl | hp
        · exact HC.out.2
        · exact HEV.out.2.2.2 p hp
      · intro h; rw [HF.out.1, hpl, hpm, h]
      · intro _ _ h; have := HF.out.2.2.2.low; omega
    · by_cases h2 : op = 2
      · subst h2
        have HDEL : Hid (Calls Try.prog 42 #[.pointer tu, .slice Ak nk ck, .pointer mu] w2 fun e w' => DelIn S m w2 w' e (T.has k) (T.delL k) vi co (min 1 T.size) T.height) := by
          have := Delete_any m hS hS' k T (.pointer tu) (.slice Ak nk ck) vi co w2 (HT.out w2 K2.out) (HK.out w2 K2.out) HM2.out HEV.out.1 HNN.out.1 HNN.out.2.2.1 HNN.out.2.2.2
          rw [HMV.out] at this
          exact this
        go_wp2_with fail
        refine HDEL.out.mono ?_
        rintro e w3 ⟨u', T', vi', co', rfl, t1, t2, t3, t4⟩
        have HF : Hid (T'.list = T.delL k ∧ T'.even ∧ TIn (Up S w2.heap.size) w3 (.pointer u') T' ∧ Met m w2 w3 vi co vi' co' (min 1 T.size) T.height) := ⟨t1, t2, t3, t4⟩
        have K3 : Hid (Kept m w w3) := K2.out.trans t4.kept
        have HM3 : Hid (Met m w w3 vi co vi' co' (min 1 T.size) T.height) := by
          have h0 : Met m w w2 vi co vi co 0 0 := ⟨K2.out, HM2.out, by omega, by omega, Nat.le_refl _, by omega⟩
          exact Lib.hid ((h0.trans t4).wide (by omega) (by omega))
        clear t1 t2 t3 t4 b0 b1 b2 hcv
        obtain ⟨ok, hok⟩ : ∃ ok, T.has k = ok := ⟨_, rfl⟩
        have HOK := Lib.hid hok
        rw [hok]
        clear hok
        by_cases hne : ok = is
        · subst hne
          go_wp2_with fail
          refine (mwithout_any' M A M.length c (strO k) w3 (HMM.out w3 K3.out) HNN.out.2.1).mono ?_
          rw [strL_strO]
          rintro e w4 ⟨A', c', rfl, t1, t2, t3⟩
          have HG : Hid ((withoutM M k).length ≤ c' ∧ MIn (New w3.heap.size) w4 A' (withoutM M k).length (withoutM M k) ∧ Below w3.heap.size w3 w4) := ⟨t1, t2, t3⟩
          clear t1 t2 t3
          go_wp2_with fail
          go_meet
          have hpl := (del_plain T k HEV.out.2.1).1
          refine ⟨u', T', A', c', withoutM M k, vi', co', rfl, rfl, Lib.hid ⟨HF.out.2.1, ?_, ?_, ?_, HG.out.1, ?_, ?_, ?_, ?_, ?_, ?_, ?_⟩⟩
          · rw [HF.out.1, hpl]; exact without_asc _ _ HEV.out.2.1
          · exact (HF.out.2.2.1.below HG.out.2.2).imp fun b _ hb => up_imp K2.out.size b hb
          · exact HG.out.2.1.imp fun b _ hb => .inr (Nat.le_trans K3.out.size hb)
          · exact (HM3.out.trans (Met.of HM3.out.at_ HG.out.2.2)).wide (by omega) (by omega)
          · rw [PT.size_of HF.out.1]; exact Nat.le_succ_of_le (T.delL_len k)
          · exact Nat.le_succ_of_le (List.length_filter_le _ _)
          · exact without_asc _ _ HEV.out.2.2.1
          · intro p hp; exact HEV.out.2.2.2 p (List.mem_filter.1 hp).1
          · intro h; rw [HF.out.1, hpl, h]
          · intro _ _ h; have := HM3.out.low; omega
        · have hne2 : (ok == is) = false := by simpa using hne
          go_wp2_with fail
          go_ret3
          refine ⟨tu, T, A, c, M, false, vi', co', rfl, ⟨HEV.out.1, HEV.out.2.1, (HT.out w3 K3.out).up _, (HMM.out w3 K3.out).imp (fun b _ hb => .inl hb), HC.out.1, HM3.out.wide (by omega) (by omega), by omega, by omega, HEV.out.2.2.1, HEV.out.2.2.2, fun h => h, ?_⟩, ?_⟩
          · intro _ _ h; have := HM3.out.low; omega
          · intro h
            exact absurd (by rw [← HOK.out, HIS.out, (del_plain T k HEV.out.2.1).2, h]) hne
      · by_cases h3 : op = 3
        · subst h3
          have HGET : Hid (Calls Try.prog 46 #[.pointer tu, .slice Ak nk ck, .pointer mu] w2 fun e w' => GotIn w2.heap.size w' e (T.get k) ∧ Kept m w2 w' ∧ MAt m w' (vi + T.path k) (co + T.path k)) := by
            have := get_any T k m (.pointer tu) (.slice Ak nk ck) vi co w2 (HT.out w2 K2.out) (HK.out w2 K2.out) HM2.out hS hS' (by have := path_le T k; have := HNN.out.2.2.1; omega) (by have := path_le T k; have := HNN.out.2.2.2; omega)
            rw [HMV.out] at this
            exact this
          go_wp2_with fail
          refine HGET.out.mono ?_
          rintro e w3 ⟨t1, t2, t3⟩
          obtain ⟨Av, nv, cv, okv, vs, rfl, hbv, hokv, hvs⟩ : ∃ Av nv cv okv vs, e = .returned (.tuple #[.slice Av nv cv, .bool okv]) ∧ BIn (New w2.heap.size) w3 (.slice Av nv cv) vs ∧ okv = (T.get k).isSome ∧ vs = (T.get k).getD [] := by
            cases hg : T.get k with
            | none =>
              rw [hg] at t1
              exact ⟨none, 0, 0, false, [], t1, BIn.nil _ _, rfl, rfl⟩
            | some y =>
              rw [hg] at t1
              obtain ⟨u, rfl, hu⟩ := t1
              obtain ⟨Av, nv, cv, rfl⟩ := hu.slice
              exact ⟨Av, nv, cv, true, y, rfl, hu, rfl, rfl⟩
          have K3 : Hid (Kept m w w3) := K2.out.trans t2
          have HM3 : Hid (Met m w w3 vi co (vi + T.path k) (co + T.path k) 0 T.height) := ⟨K3.out, t3, by omega, by have := path_le T k; omega, by omega, by omega⟩
          have hcvv := fun i => conv_bytes (hbv.below (below_drewN' i))
          have HOKV := Lib.hid hokv
          have HVS := Lib.hid hvs
          clear t1 t2 t3 b0 b1 b2 hcv hokv hvs hbv
          have HST : Hid (∀ q, StepIn S m w (w3.drewN q) T T M M tu A c vi co (vi + T.path k) (co + T.path k) 3) := fun q =>
            ⟨HEV.out.1, HEV.out.2.1, (HT.out (w3.drewN q) (K3.out.drewN q)).up _, (HMM.out (w3.drewN q) (K3.out.drewN q)).imp (fun b _ hb => Or.inl hb), HC.out.1,
             ⟨HM3.out.kept.drewN q, HM3.out.at_, HM3.out.low, HM3.out.high, HM3.out.up, HM3.out.fit⟩, by omega, by omega, HEV.out.2.2.1, HEV.out.2.2.2, fun h => h, fun _ _ h => by have := path_pos T k h; omega⟩
          by_cases hne : okv = is
          · subst hne
            have he0 : (okv == okv) = true := by simp
            by_cases hvw : strO vs = want
            · rw [hvw] at hcvv
              go_wp2_with fail
              go_quiet (fail)
              go_wp2_with fail
              go_ret3
              exact ⟨tu, T, A, c, M, true, _, _, rfl, HST.out _, fun _ => rfl⟩
            · have HVW := Lib.hid hvw
              have hvw2 := text_ne hvw
              generalize hsv : strO vs = sv at *
              have HSV := Lib.hid hsv
              clear hsv
              clear hvw
              go_wp2_with fail
              go_quiet (fail)
              go_wp2_with fail
              go_ret3
              refine ⟨tu, T, A, c, M, false, _, _, rfl, HST.out _, fun h => ?_⟩
              exact absurd (by rw [← HSV.out, HVS.out, HWANT.out, get_plain T k HEV.out.2.1, h]) HVW.out
          · have HNE := Lib.hid hne
            have hne2 : (okv == is) = false := by simpa using hne
            clear hne
            go_wp2_with fail
            go_quiet (fail)
            go_wp2_with fail
            go_ret3
            refine ⟨tu, T, A, c, M, false, _, _, rfl, HST.out _, fun h => ?_⟩
            exact absurd (by rw [HOKV.out, HIS.out, get_plain T k HEV.out.2.1, h]) HNE.out
        · go_wp2_with fail
          go_meet
          refine ⟨tu, T, A, c, M, vi, co, rfl, rfl, Lib.hid ⟨HEV.out.1, HEV.out.2.1, (HT.out w2 K2.out).up _, (HMM.out w2 K2.out).imp (fun b _ hb => .inl hb), HC.out.1, ⟨K2.out, HM2.out, by omega, by omega, Nat.le_refl _, by omega⟩, by omega, by omega, HEV.out.2.2.1, HEV.out.2.2.2, fun h => h, fun _ _ _ => by omega⟩⟩
  case rest =>
    obtain ⟨u', T', A', c', M', vi', co', rfl, rfl, hst⟩ := hcut
    have HT1 := Lib.hid (tsize_any T' (.pointer u') _ hst.out.tin)
    have HT2 := Lib.hid (sound_any T' (.pointer u') _ hst.out.tin hst.out.even hst.out.asc (by have := hst.out.ts; have := HNN.out.1; omega))
    by_cases hsz : T'.size = M'.length
    · have hsz2 : (T'.size : Int) = (M'.length : Int) := by rw [hsz]
      clear hsz
      go_wp2_with fail
      refine HT1.out.mono ?_
      rintro e w3 ⟨rfl, rfl⟩
      go_wp2_with fail
      refine HT2.out.mono ?_
      rintro e w3 ⟨rfl, hb3⟩
      have HB3 := Lib.hid hb3
      clear hb3
      go_wp2_with fail
      go_ret3
      exact ⟨u', T', A', c', M', true, vi', co', rfl, hst.out.on HB3.out, fun _ => rfl⟩
    · have HSZ := Lib.hid hsz
      have hsz2 : ¬ (T'.size : Int) = (M'.length : Int) := by omega
      clear hsz
      go_wp2_with fail
      refine HT1.out.mono ?_
      rintro e w3 ⟨rfl, rfl⟩
      go_wp2_with fail
      go_ret3
      exact ⟨u', T', A', c', M', false, vi', co', rfl, hst.out, fun h => absurd (by rw [hst.out.same h, PT.size_list]) HSZ.out⟩


end Go.Proofs.Ytlnlgahokifolaa
