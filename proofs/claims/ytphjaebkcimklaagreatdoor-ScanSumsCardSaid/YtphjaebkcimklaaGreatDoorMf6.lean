/- Texts put together: FChart5 FChOk. -/
import Derived.Test.YtphjaebkcimklaaGreatDoorMf5
/- Charts: Get, Delete. -/
set_option linter.unusedVariables false
set_option linter.unusedSimpArgs false
namespace Go.Proofs.YtphjaebkcimklaaGreatDoor
open Go.RowKit

set_option maxRecDepth 100000 in
set_option maxHeartbeats 3200000 in
theorem chGet_any {S : Nat → Prop} (m : Option Nat) (sl : Bytes) (hsl : sl.length = 16) (N H : Nat) (t : TT) (T : PT) (u p : Value) (Ak : Option Addr) (nk ck : Nat) (key : Bytes) (w : World) (vi co : Nat) (hP : ChH S m w vi co) (hk : BIn S w (.slice Ak nk ck) key) (hC : ChAt S w u p t T) (hR : TrH (Sip.hashN sl) N H t vi co) :
    Calls Tryz.prog 61 #[.agg (chA (Sip.rowOf sl) u p), .slice Ak nk ck, mV m] w fun e w' => GetOut S m w w' e (TT.look key (Sip.hashN sl key) t 0) vi co (14 + H) := by
  have HS := Lib.hid (seed_row sl hsl)
  obtain ⟨tu, rfl⟩ := hC.ix.ptr
  have hb : Below w.heap.size w (w.alloc (.cells (chA (Sip.rowOf sl) u (.pointer tu)) 38)) := (Below.refl _ _).alloc (Nat.le_refl _) _
  have h3 : (w.alloc (.cells (chA (Sip.rowOf sl) u (.pointer tu)) 38)).heap[w.heap.size]? = some (.cells (chA (Sip.rowOf sl) u (.pointer tu)) 38 (0, 0)) := heap_new w _
  have HG := Lib.hid (trieGet_any m sl hsl N H t u Ak nk ck key _ vi co (hP.below hb) (hk.below hb) (hC.tr.below hb) hR)
  have HM := Lib.hid (Met.of hP.put.met hb)
  have hra : (w.alloc (.cells (chA (Sip.rowOf sl) u (.pointer tu)) 38)).rangeAt w.heap.size 0 (trA (Sip.rowOf sl) u).toList := range_row 0 h3 fun j hj => chA_sub HS.out.1 j (by rw [trA_size HS.out.1] at hj; exact hj)
  have in35 : (Tryz.prog.info? 35).map (·.size) = some (trA (Sip.rowOf sl) u).toList.length := by rw [info35, Array.length_toList, trA_size HS.out.1]
  obtain ⟨mu, hmu⟩ : ∃ u, mV m = .pointer u := by cases m <;> exact ⟨_, rfl⟩
  rw [hmu] at HG ⊢
  go_enter Tryz.func61, Tryz.ntmps61
  go_upto_region 1 with (fail)
  generalize w.alloc (.cells (chA (Sip.rowOf sl) u (.pointer tu)) 38) = X at *
  have HGS := Lib.hid hb.size
  have HIN := Lib.hid in35
  generalize hqh : Sip.hashN sl key = hh at *
  generalize hqs : Sip.rowOf sl = sd at *
  have HQ := Lib.hid hqh
  clear hqh hqs hP hk hC hR h3 hmu hb in35
  go_wp2_with (refine wpList_load_mid rfl 35 _ rfl w.heap.size 0 (by rfl) (trA sd u).toList _ hra Tryz.underlying35 rfl HIN.out ?_)
  refine HG.out.mono ?_
  rintro e w1 ⟨vi1, co1, hG1, hM1⟩
  obtain ⟨v, r, rfl, hG2⟩ := hG1.both
  have HG2 := Lib.hid hG2
  have HM1 := Lib.hid hM1
  clear hG1 hG2 hM1
  go_wp2_with fail
  go_ret2
  exact ⟨vi1, co1, by rw [HQ.out]; exact HG2.out _ HGS.out, (HM.out.trans HM1.out).wide (by omega) (by omega)⟩

/-- The trie and the pairs that Delete leaves. -/
def delT (r : TT × Bool) (t : TT) : TT := if r.2 then r.1 else t
def delP (r : Bool) (T : PT) (key : Bytes) : Pairs := if r then T.delL key else T.list
/-- What a chart's Delete tells. -/
def ChDel (S : Nat → Prop) (m : Option Nat) (w w' : World) (e : Ending) (sd : Array Value) (t : TT) (L : Pairs) (ok : Bool) (vi co hi : Nat) : Prop :=
  ∃ u' p' T' vi' co', e = .returned (.tuple #[.agg (chA sd u' p'), .bool ok]) ∧ ChAt (Up S w.heap.size) w' u' p' t T' ∧ T'.list = L ∧ T'.even ∧ Met m w w' vi co vi' co' 0 hi

set_option maxRecDepth 100000 in
set_option maxHeartbeats 6400000 in
theorem chDel_any {S : Nat → Prop} (m : Option Nat) (sl : Bytes) (hsl : sl.length = 16) (N H : Nat) (t : TT) (T : PT) (u p : Value) (Ak : Option Addr) (nk ck : Nat) (key : Bytes) (w : World) (vi co : Nat) (hP : ChH S m w vi co) (hk : BIn S w (.slice Ak nk ck) key) (hC : ChAt S w u p t T) (hR : TrH (Sip.hashN sl) N H t vi co)
    (hev : T.even) (hn : T.size + 1 ≤ 500000) (hv : vi + (14 + H) + T.height < 1000000) (hco : co + (14 + H) + T.height < 1000000) :
    Calls Tryz.prog 59 #[.agg (chA (Sip.rowOf sl) u p), .slice Ak nk ck, mV m] w fun e w' => ChDel S m w w' e (Sip.rowOf sl) (delT (TT.del key (Sip.hashN sl key) t 0) t) (delP (TT.del key (Sip.hashN sl key) t 0).2 T key) (TT.del key (Sip.hashN sl key) t 0).2 vi co (14 + H + T.height) := by
  have HS := Lib.hid (seed_row sl hsl)
  replace hP := hP.dom (S' := fun b => S b ∧ b < w.heap.size) fun b h => h.1
  replace hk := hk.imp (S' := fun b => S b ∧ b < w.heap.size) fun b hlt h => ⟨h, hlt⟩
  have hT := hC.tr.imp (S' := fun b => S b ∧ b < w.heap.size) fun b hlt h => ⟨h, hlt⟩
  have hI := hC.ix.imp (S' := fun b => S b ∧ b < w.heap.size) fun b hlt h => ⟨h, hlt⟩
  obtain ⟨tu, rfl⟩ := hI.ptr
  have hb : Below w.heap.size w ((w.alloc (.cells (chA (Sip.rowOf sl) u (.pointer tu)) 38)).alloc (.cells z38 38)) := ((Below.refl _ _).alloc (Nat.le_refl _) _).alloc (by simp) _
  have h3 : ((w.alloc (.cells (chA (Sip.rowOf sl) u (.pointer tu)) 38)).alloc (.cells z38 38)).heap[w.heap.size]? = some (.cells (chA (Sip.rowOf sl) u (.pointer tu)) 38 (0, 0)) := heap_old _ (heap_new w _)
  have h6 : ((w.alloc (.cells (chA (Sip.rowOf sl) u (.pointer tu)) 38)).alloc (.cells z38 38)).heap[w.heap.size + 1]? = some (.cells z38 38 (0, 0)) := by
    have := heap_new (w.alloc (.cells (chA (Sip.rowOf sl) u (.pointer tu)) 38)) (.cells z38 38)
    rw [World.size_alloc] at this
    exact this
  go_enter Tryz.func59, Tryz.ntmps59
  go_upto_region 1 with (fail)
  generalize (w.alloc (.cells (chA (Sip.rowOf sl) u (.pointer tu)) 38)).alloc (.cells z38 38) = X at *
  have HB := Lib.hid hb
  have H3 := Lib.hid h3
  have H6 := Lib.hid h6
  obtain ⟨mu, hmu⟩ : ∃ u, mV m = .pointer u := by cases m <;> exact ⟨_, rfl⟩
  have hml := fun b (e : m = some b) => hP.put.met.lt b e
  have HXC : Hid (∀ W, Kept m X W → (W.rangeAt w.heap.size 0 (chA (Sip.rowOf sl) u (.pointer tu)).toList ∧ W.rangeAt w.heap.size 0 (trA (Sip.rowOf sl) u).toList) ∧ W.cell? ⟨w.heap.size, 17, none⟩ = some (.pointer tu)) := fun W hW => by
    have hh := (hW.block _ (Array.getElem?_eq_some_iff.1 h3).1 (fun e => by have := hml _ e; omega)).trans h3
    exact ⟨⟨range_row 0 hh fun j _ => by rw [Nat.zero_add], range_row 0 hh fun j hj => chA_sub HS.out.1 j (by rw [trA_size HS.out.1] at hj; exact hj)⟩, (cell_of_row W w.heap.size 17 _ _ _ hh).trans (chA_get HS.out.1).2⟩
  have HP := Lib.hid hP
  have HT := Lib.hid (And.intro hT hI)
  have hGP : ∀ W, Below X.heap.size X W → Calls Tryz.prog 81 #[.agg (trA (Sip.rowOf sl) u), .slice Ak nk ck, mV m] W fun e w' => TrDel (fun b => S b ∧ b < w.heap.size) m W w' e (Sip.rowOf sl) (TT.del key (Sip.hashN sl key) t 0) vi co (14 + H) := fun W hW =>
    trieDel_any m sl hsl N H t u Ak nk ck key W vi co ((hP.below hb).below hW) ((hk.below hb).below hW) ((hT.below hb).below hW) hR
  have hPU : ∀ W vi' co', (vi' + T.height < 1000000 ∧ co' + T.height < 1000000) → Kept m X W → MAt m W vi' co' → Calls Tryz.prog 82 #[.pointer tu, .slice Ak nk ck, mV m] W fun e w' => DelIn (fun b => S b ∧ b < w.heap.size) m W w' e (T.has key) (T.delL key) vi' co' (min 1 T.size) T.height := fun W vi' co' hvc hW hM =>
    Delete_any m hP.put.hS hP.put.hS key T (.pointer tu) (.slice Ak nk ck) vi' co' W ((hI.below hb).kept hW hP.put.hS) ((hk.below hb).kept hW hP.put.hS) hM hev hn hvc.1 hvc.2
  rw [hmu] at hGP hPU ⊢
  have HGP := Lib.hid hGP
  have HPU := Lib.hid hPU
  have HMS := Lib.hid hml
  have in35 : (Tryz.prog.info? 35).map (·.size) = some (trA (Sip.rowOf sl) u).toList.length := by rw [info35, Array.length_toList, trA_size HS.out.1]
  have in38 : (Tryz.prog.info? 38).map (·.size) = some (chA (Sip.rowOf sl) u (.pointer tu)).toList.length := by rw [info38, Array.length_toList, chA_size HS.out.1]
  have HIN := Lib.hid (And.intro in35 in38)
  have HB38 := Lib.hid (fun u' p' (h : Value.cells p' = #[p']) => built38 (Sip.rowOf sl) u' p' HS.out.1 h)
  have HVC : Hid (∀ vi' co', vi' ≤ vi + (14 + H) → co' + vi ≤ co + vi' → vi' + T.height < 1000000 ∧ co' + T.height < 1000000) := fun _ _ _ _ => ⟨by omega, by omega⟩
  have HEV := Lib.hid hev
  have HU0 := Lib.hid hT.one
  generalize hqr : TT.del key (Sip.hashN sl key) t 0 = rr at *
  generalize hqs : Sip.rowOf sl = sd at *
  have HQ := Lib.hid (And.intro hqr hqs)
  clear hqr hqs hml hb h3 h6 hP hk hT hI hC hR hmu hGP hPU in35 in38
  obtain ⟨⟨ra38, ra35⟩, c17⟩ := HXC.out X (Kept.refl _ _)
  go_wp2_with (refine wpList_load_mid rfl 35 _ rfl w.heap.size 0 (by rfl) (trA sd u).toList _ ra35 Tryz.underlying35 rfl HIN.out.1 ?_)
  refine (HGP.out X (Below.refl _ _)).mono ?_
  rintro e w3 ⟨u3, vi3, co3, rfl, h31, h32⟩
  obtain ⟨t3, r3⟩ := rr
  have HU3 := Lib.hid h31.one
  have HZN : Hid ((w3.alloc (.cells z35 35)).heap[w3.heap.size]? = some (.cells z35 35 (0, 0))) := heap_new w3 _
  have hst := run_storeVar_row (P := Tryz.prog) (w3.alloc (.cells z35 35)) w3.heap.size 35 35 _ (trA sd u3) HZN.out (size_of info35 (trA_size HS.out.1)) (by rw [trA_size HS.out.1]; rfl) (trA_one HS.out HU3.out)
  have hW3 := setRow_heap (w3.alloc (.cells z35 35)) w3.heap.size _ (trA sd u3) 35 _ HZN.out
  have hKN : Kept m X ((w3.alloc (.cells z35 35)).setRow w3.heap.size (trA sd u3)) :=
    h32.kept.trans ((Kept.of ((Below.refl _ w3).alloc (Nat.le_refl _) _)).setRow (Nat.le_refl _) _)
  have hmN : m ≠ some w3.heap.size := fun e => by have := h32.at_.lt _ e; omega
  have hMN : Met m w ((w3.alloc (.cells z35 35)).setRow w3.heap.size (trA sd u3)) vi co vi3 co3 0 (14 + H) :=
    ((((Met.of HP.out.put.met HB.out).trans h32).trans (Met.of h32.at_ ((Below.refl _ w3).alloc (Nat.le_refl _) _))).setRow (by have := HB.out.size; have := h32.kept.size; omega) hmN _).wide (by omega) (by omega)
  have hT3 : TrIn (fun b => Up (fun b => S b ∧ b < w.heap.size) X.heap.size b ∧ b < w3.heap.size) ((w3.alloc (.cells z35 35)).setRow w3.heap.size (trA sd u3)) t3 u3 :=
    (h31.imp (S' := fun b => Up (fun b => S b ∧ b < w.heap.size) X.heap.size b ∧ b < w3.heap.size) fun b hlt h => ⟨h, hlt⟩).carry (by simp) fun b hb hlt => (setRow_other _ _ b _ (by omega)).trans (Below.heap_alloc w3 _ b hlt)
  have HT3Y := Lib.hid hT3
  have HKN := Lib.hid hKN
  have HMN := Lib.hid (And.intro hMN hmN)
  have HW3 := Lib.hid hW3
  have HG3 : Hid (X.heap.size ≤ w3.heap.size) := h32.kept.size
  clear hT3 h31 h32 hW3 hKN hMN hmN c17 ra38 ra35
  generalize (w3.alloc (.cells z35 35)).setRow w3.heap.size (trA sd u3) = Y at *
  have HST := Lib.hid hst
  clear hst
  have hn6 : m ≠ some (w.heap.size + 1) := fun e => by have := HMS.out _ e; omega
  have HN6 := Lib.hid hn6
  clear hn6
  obtain ⟨⟨ra38, ra35⟩, c17⟩ := HXC.out Y HKN.out
  cases r3 with
  | false =>
    have HZ6 : Hid (Y.heap[w.heap.size + 1]? = some (.cells z38 38 (0, 0))) := (HKN.out.block _ (Array.getElem?_eq_some_iff.1 H6.out).1 HN6.out).trans H6.out
    have HW := Lib.hid (setRow_heap Y (w.heap.size + 1) _ (chA sd u (.pointer tu)) 38 _ HZ6.out)
    go_wp2_with (first
      | (refine wpList_skip rfl (exec_store 35 _ _ rfl rfl HST.out) ?_)
      | (refine wpList_load_mid rfl 38 _ rfl w.heap.size 0 (by rfl) (chA sd u (.pointer tu)).toList _ ra38 Tryz.underlying38 rfl HIN.out.2 ?_)
      | (refine wpList_store_row rfl 38 _ _ rfl (w.heap.size + 1) (chA sd u (.pointer tu)) rfl rfl 38 _ HZ6.out (size_of info38 (chA_size HS.out.1)) (by rw [chA_size HS.out.1]; rfl) (chA_one HS.out HU0.out rfl) ?_))
    have hC7 : ChAt (Up S w.heap.size) (Y.setRow (w.heap.size + 1) (chA sd u (.pointer tu))) u (.pointer tu) t T := by
      have hxs := HB.out.size
      have hK := (Kept.of HB.out).trans HKN.out
      refine ⟨((HT.out.1.kept hK HP.out.put.hS).carry (by simp) fun b hb _ => setRow_other Y _ b _ (by have := hb.2; omega)).imp fun b _ hb => .inl hb.1, ((HT.out.2.kept hK HP.out.put.hS).carry (by simp) fun b hb _ => setRow_other Y _ b _ (by have := hb.2; omega)).imp fun b _ hb => .inl hb.1⟩
    have HM7 : Met m w (Y.setRow (w.heap.size + 1) (chA sd u (.pointer tu))) vi co vi3 co3 0 (14 + H + T.height) := (HMN.out.1.setRow (by omega) HN6.out _).wide (by omega) (by omega)
    exact bodyPost_ret (results_ct rfl _ _ ⟨w.heap.size + 1, 0, none⟩ _ (by rfl) (run_loadVar_row _ _ 38 38 _ (0, 0) _ HW.out Tryz.underlying38 rfl (size_of info38 (chA_size HS.out.1)))) rfl ⟨u, .pointer tu, T, vi3, co3, by rw [HQ.out.2, HQ.out.1]; rfl, by rw [HQ.out.1]; exact hC7, by rw [HQ.out.1]; rfl, HEV.out, HM7⟩
  | true =>
    have ra5 : Y.rangeAt w3.heap.size 0 (trA sd u3).toList := range_row 0 HW3.out fun j _ => by rw [Nat.zero_add]
    go_wp2_with (first
      | (refine wpList_skip rfl (exec_store 35 _ _ rfl rfl HST.out) ?_)
      | (refine wpList_load_mid rfl 38 _ rfl w.heap.size 0 (by rfl) (chA sd u (.pointer tu)).toList _ ra38 Tryz.underlying38 rfl HIN.out.2 ?_))
    refine (HPU.out Y vi3 co3 (HVC.out _ _ HMN.out.1.high HMN.out.1.fit) HKN.out HMN.out.1.at_).mono ?_
    rintro e w5 ⟨v5, T5, vi5, co5, rfl, hl5, he5, ht5, h5⟩
    have K5 := Lib.hid h5.kept
    have HE5 := Lib.hid (And.intro hl5 he5)
    have HT5 := Lib.hid ht5
    have HM5 : Hid (Met m w w5 vi co vi5 co5 0 (14 + H + T.height)) := (HMN.out.1.trans h5).wide (by omega) (by omega)
    have hgY : w3.heap.size < Y.heap.size := (Array.getElem?_eq_some_iff.1 HW3.out).1
    have HH5 : Hid (w5.heap[w3.heap.size]? = some (.cells (trA sd u3) 35 (0, 0))) := (K5.out.block _ hgY HMN.out.2).trans HW3.out
    have HZ6 : Hid (w5.heap[w.heap.size + 1]? = some (.cells z38 38 (0, 0))) := ((HKN.out.trans K5.out).block _ (Array.getElem?_eq_some_iff.1 H6.out).1 HN6.out).trans H6.out
    have HW := Lib.hid (setRow_heap w5 (w.heap.size + 1) _ (chA sd u3 (.pointer v5)) 38 _ HZ6.out)
    have HI5 : Hid ((Tryz.prog.info? 35).map (·.size) = some (trA sd u3).toList.length) := by rw [info35, Array.length_toList, trA_size HS.out.1]; rfl
    clear hl5 he5 ht5 h5 ra5 ra38 ra35 c17
    have ra5 : w5.rangeAt w3.heap.size 0 (trA sd u3).toList := range_row 0 HH5.out fun j _ => by rw [Nat.zero_add]
    go_wp2_with (first
      | (refine wpList_load_mid rfl 35 _ rfl w3.heap.size 0 (by rfl) (trA sd u3).toList _ ra5 Tryz.underlying35 rfl HI5.out ?_)
      | (refine wpList_run rfl (exec_build 38 _ [(0, .agg (trA sd u3)), (1, .pointer v5)] rfl rfl (HB38.out u3 (.pointer v5) rfl)) ?_)
      | (refine wpList_store_row rfl 38 _ _ rfl (w.heap.size + 1) (chA sd u3 (.pointer v5)) rfl rfl 38 _ HZ6.out (size_of info38 (chA_size HS.out.1)) (by rw [chA_size HS.out.1]; rfl) (chA_one HS.out HU3.out rfl) ?_))
    have hgs := HG3.out
    have hxs := HB.out.size
    have hks := K5.out.size
    have hg2 : w.heap.size + 1 < X.heap.size := (Array.getElem?_eq_some_iff.1 H6.out).1
    have HM7 : Met m w (w5.setRow (w.heap.size + 1) (chA sd u3 (.pointer v5))) vi co vi5 co5 0 (14 + H + T.height) := HM5.out.setRow (by omega) HN6.out _
    have hT7 : TrIn (Up S w.heap.size) (w5.setRow (w.heap.size + 1) (chA sd u3 (.pointer v5))) t3 u3 := by
      refine ((HT3Y.out.kept K5.out ?_).carry (by simp) (fun b hb _ => setRow_other w5 _ b _ ?_)).imp ?_
      · intro b hb e
        rcases hb.1 with hb | hb
        · exact HP.out.put.hS b hb e
        · have := HMS.out b e; omega
      · rcases hb.1 with hb | hb
        · have := hb.2; omega
        · omega
      · intro b _ hb
        rcases hb.1 with hb | hb
        · exact .inl hb.1
        · exact .inr (by omega)
    have hI7 : TIn (Up S w.heap.size) (w5.setRow (w.heap.size + 1) (chA sd u3 (.pointer v5))) (.pointer v5) T5 :=
      (HT5.out.carry (by simp) (fun b hb _ => setRow_other w5 _ b _ (by
        rcases hb with hb | hb
        · have := hb.2; omega
        · omega))).imp fun b _ hb => by
          rcases hb with hb | hb
          · exact .inl hb.1
          · exact .inr (by omega)
    exact bodyPost_ret (results_ct rfl _ _ ⟨w.heap.size + 1, 0, none⟩ _ (by rfl) (run_loadVar_row _ _ 38 38 _ (0, 0) _ HW.out Tryz.underlying38 rfl (size_of info38 (chA_size HS.out.1)))) rfl ⟨u3, .pointer v5, T5, vi5, co5, by rw [HQ.out.2, HQ.out.1]; rfl, by rw [HQ.out.1]; exact ⟨hT7, hI7⟩, by rw [HQ.out.1]; exact HE5.out.1, HE5.out.2, HM7⟩

end Go.Proofs.YtphjaebkcimklaaGreatDoor

/- A chart in order: the trie tells what the tree lists. -/
set_option linter.unusedVariables false
set_option linter.unusedSimpArgs false
namespace Go.Proofs.YtphjaebkcimklaaGreatDoor
open Go.RowKit

structure ChOk (hs : Bytes → Nat) (N : Nat) (t : TT) (T : PT) : Prop where
  fits : TT.Fits hs 0 t 0
  small : TT.Small N t
  looks : ∀ key, TT.look key (hs key) t 0 = getM T.list key
  even : T.even
  asc : Asc T.list
  len : T.list.length ≤ N
  keys : ∀ p ∈ T.list, p.1.length ≤ 100000

theorem ChOk.nil (hs : Bytes → Nat) (N : Nat) : ChOk hs N .none .nil := ⟨trivial, trivial, fun _ => rfl, trivial, List.Pairwise.nil, Nat.zero_le _, fun p h => by cases h⟩

theorem Small.mono {N N' : Nat} (h : N ≤ N') : ∀ {t : TT}, TT.Small N t → TT.Small N' t
  | .none, _ => trivial
  | .leaf _ _ _, _ => trivial
  | .bucket _ L, hs => Nat.le_trans hs h
  | .branch kid, hs => fun c => Small.mono h (hs c)

theorem ChOk.mono {hs : Bytes → Nat} {N N' : Nat} {t : TT} {T : PT} (h : ChOk hs N t T) (hn : N ≤ N') : ChOk hs N' t T :=
  ⟨h.fits, Small.mono hn h.small, h.looks, h.even, h.asc, Nat.le_trans h.len hn, h.keys⟩

theorem ChOk.put {hs : Bytes → Nat} {N : Nat} {t : TT} {T T' : PT} (hb : ∀ k, hs k < 2 ^ 64) (hN : 1 ≤ N) (h : ChOk hs N t T) (key x : Bytes) (hk : key.length ≤ 100000) (hT : T'.list = T.putL key x) (he : T'.even) : ChOk hs (N + 1) (TT.put key x (hs key) t 0) T' ∧ T'.list = insL key x T.list := by
  rw [put_plain T key x h.asc] at hT
  refine ⟨⟨TT.fits_put hb t 0 h.fits (fun i hi => by omega) (by omega), TT.small_put hN t 0 h.small, fun k => ?_, he, by rw [hT]; exact ins_asc key x _ h.asc, by rw [hT]; have := ins_len key x T.list; have := h.len; omega, fun p hp => ?_⟩, hT⟩
  · rw [TT.look_put hb t 0 h.fits (fun i hi => by omega) (by omega), hT, getM_ins, h.looks]
  · rw [hT] at hp
    rcases ins_mem key x _ p hp with rfl | hp
    · exact hk
    · exact h.keys p hp

theorem ChOk.del {hs : Bytes → Nat} {N : Nat} {t : TT} {T T' : PT} (h : ChOk hs N t T) (key : Bytes) (hT : T'.list = delP (TT.del key (hs key) t 0).2 T key) (he : T'.even) : ChOk hs N (delT (TT.del key (hs key) t 0) t) T' ∧ T'.list = withoutM T.list key ∧ (TT.del key (hs key) t 0).2 = (getM T.list key).isSome := by
  have h1 := TT.look_del (key := key) t 0 h.fits
  rw [h.looks] at h1
  have hd := del_plain T key h.asc
  have hT2 : T'.list = withoutM T.list key := by
    rw [hT]
    cases hr : (TT.del key (hs key) t 0).2 with
    | true => exact hd.1
    | false =>
      rw [hr] at h1
      exact (PT.delL_not T key (hd.2.trans h1.symm)).symm.trans hd.1
  have hfil : ∀ p ∈ withoutM T.list key, p ∈ T.list := fun p hp => (List.mem_filter.1 hp).1
  refine ⟨⟨?_, ?_, fun k => ?_, he, by rw [hT2]; exact without_asc _ key h.asc, by rw [hT2]; exact Nat.le_trans (List.length_filter_le _ _) h.len, fun p hp => h.keys p (hfil p (hT2 ▸ hp))⟩, hT2, h1⟩
  · unfold delT; split
    · exact TT.fits_del t 0 h.fits
    · exact h.fits
  · unfold delT; split
    · exact TT.small_del t 0 h.small
    · exact h.small
  · rw [hT2, getM_without]
    unfold delT; split
    · rw [TT.look_del2 t 0 h.fits, h.looks]
    · rename_i hr
      rw [h.looks]
      split
      · rename_i e
        subst e
        rw [Bool.not_eq_true] at hr
        rw [hr] at h1
        cases hg : getM T.list key with
        | none => rfl
        | some y => rw [hg] at h1; cases h1
      · rfl

end Go.Proofs.YtphjaebkcimklaaGreatDoor
