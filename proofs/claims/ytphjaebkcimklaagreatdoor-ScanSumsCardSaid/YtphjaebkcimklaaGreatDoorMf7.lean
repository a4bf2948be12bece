/- Texts put together: FStep FMade. -/
import Derived.Test.YtphjaebkcimklaaGreatDoorMf6
import Derived.Test.YtphjaebkcimklaaGreatDoorTStep
import Derived.Test.YtphjaebkcimklaaGreatDoorTOpen
/- law22's Step: a chart and the reference's map take one operation. -/
set_option linter.unusedVariables false
set_option linter.unusedSimpArgs false
namespace Go.Proofs.YtphjaebkcimklaaGreatDoor
open Go.RowKit Go.Proofs.YtphjaebkcimklaaGreatDoorW.PrintLast

theorem results_ctt {fn : Func} {p q r : Tmp} {ty : TypeId} (h : fn.results = #[.cell p ty, .tmp q, .tmp r]) (tmps : Array Value) (w : World) (A : Addr) (v : Value)
    (hp : tmps.getD p undef = .pointer (some A)) (hr : (loadVar ty A).run Tryz.prog w = .ok v w) :
    (results fn tmps).run Tryz.prog w = .ok (.tuple #[v, tmps.getD q undef, tmps.getD r undef]) w := by
  have hp' : tmps[p]?.getD undef = .pointer (some A) := by simpa using hp
  simp [results, h, hp', asAddr, hr]

/-- A chart and its map. -/
structure ChIn (S : Nat → Prop) (w : World) (hs : Bytes → Nat) (N : Nat) (u p : Value) (A : Option Addr) (c : Nat) (t : TT) (T : PT) : Prop where
  at_ : ChAt S w u p t T
  min : MIn S w A T.list.length T.list
  cap : T.list.length ≤ c
  ok : ChOk hs N t T
theorem ChAt.kept {S : Nat → Prop} {m : Option Nat} {w w1 : World} {u p : Value} {t : TT} {T : PT} (h : ChAt S w u p t T) (hk : Kept m w w1) (hm : ∀ b, S b → m ≠ some b) : ChAt S w1 u p t T := ⟨h.tr.kept hk hm, h.ix.kept hk hm⟩
theorem ChAt.below {S : Nat → Prop} {w w1 : World} {u p : Value} {t : TT} {T : PT} (h : ChAt S w u p t T) (hk : Below w.heap.size w w1) : ChAt S w1 u p t T := ⟨h.tr.below hk, h.ix.below hk⟩
theorem ChAt.imp {S S' : Nat → Prop} {w : World} {u p : Value} {t : TT} {T : PT} (h : ChAt S w u p t T) (hS : ∀ b, b < w.heap.size → S b → S' b) : ChAt S' w u p t T := ⟨h.tr.imp hS, h.ix.imp hS⟩
theorem ChAt.carry {S : Nat → Prop} {w w1 : World} {u p : Value} {t : TT} {T : PT} (h : ChAt S w u p t T) (hs : w.heap.size ≤ w1.heap.size) (hb : ∀ b, S b → b < w.heap.size → w1.heap[b]? = w.heap[b]?) : ChAt S w1 u p t T := ⟨h.tr.carry hs hb, h.ix.carry hs hb⟩
theorem ChIn.below {S : Nat → Prop} {w w1 : World} {hs : Bytes → Nat} {N : Nat} {u p : Value} {A : Option Addr} {c : Nat} {t : TT} {T : PT} (h : ChIn S w hs N u p A c t T) (hk : Below w.heap.size w w1) : ChIn S w1 hs N u p A c t T := ⟨h.at_.below hk, h.min.below hk, h.cap, h.ok⟩
theorem ChIn.carry {S : Nat → Prop} {w w1 : World} {hs : Bytes → Nat} {N : Nat} {u p : Value} {A : Option Addr} {c : Nat} {t : TT} {T : PT} (h : ChIn S w hs N u p A c t T) (hs2 : w.heap.size ≤ w1.heap.size) (hb : ∀ b, S b → b < w.heap.size → w1.heap[b]? = w.heap[b]?) : ChIn S w1 hs N u p A c t T := ⟨h.at_.carry hs2 hb, h.min.carry hs2 hb, h.cap, h.ok⟩
theorem ChIn.imp {S S' : Nat → Prop} {w : World} {hs : Bytes → Nat} {N : Nat} {u p : Value} {A : Option Addr} {c : Nat} {t : TT} {T : PT} (h : ChIn S w hs N u p A c t T) (hS : ∀ b, b < w.heap.size → S b → S' b) : ChIn S' w hs N u p A c t T := ⟨h.at_.imp hS, h.min.imp hS, h.cap, h.ok⟩
theorem ChIn.mono {S : Nat → Prop} {w : World} {hs : Bytes → Nat} {N N' : Nat} {u p : Value} {A : Option Addr} {c : Nat} {t : TT} {T : PT} (h : ChIn S w hs N u p A c t T) (hn : N ≤ N') : ChIn S w hs N' u p A c t T := ⟨h.at_, h.min, h.cap, h.ok.mono hn⟩

/-- What Step tells. -/
def ChStep (S : Nat → Prop) (m : Option Nat) (w w' : World) (e : Ending) (sd : Array Value) (hs : Bytes → Nat) (N vi co hi : Nat) : Prop :=
  ∃ u' p' A' c' t' T' vi' co', e = .returned (.tuple #[.agg (chA sd u' p'), .slice A' T'.list.length c', .bool true]) ∧ ChIn (Up S w.heap.size) w' hs (N + 1) u' p' A' c' t' T' ∧ Met m w w' vi co vi' co' 0 hi

theorem info81 : (Tryz.prog.info? 81).map (·.size) = some 3 := by kernel_rfl

set_option maxRecDepth 100000 in
set_option maxHeartbeats 12800000 in
theorem chStep_any {S : Nat → Prop} (m : Option Nat) (sl : Bytes) (hsl : sl.length = 16) (N H : Nat) (t : TT) (T : PT) (u p ov : Value) (A : Option Addr) (c : Nat) (op : Int) (k x : Bytes) (w : World) (vi co : Nat)
    (hP : ChH S m w vi co) (hI : ChIn S w (Sip.hashN sl) N u p A c t T) (hO : OIn S w ov op k x) (hk1 : k.length ≤ 65536) (hx1 : x.length ≤ 65536)
    (hN1 : 1 ≤ N) (hN : N + 1 ≤ 500000) (hH : ∀ T : PT, T.even → T.size ≤ N → T.height ≤ H) (hv : vi + (14 + H) + T.height < 1000000) (hco : co + (14 + H) + T.height < 1000000) :
    Calls Tryz.prog 33 #[.agg (chA (Sip.rowOf sl) u p), .slice A T.list.length c, ov, mV m] w fun e w' => ChStep S m w w' e (Sip.rowOf sl) (Sip.hashN sl) N vi co (14 + H + T.height) := by
  have HS := Lib.hid (seed_row sl hsl)
  obtain ⟨mu, hmu⟩ : ∃ u, mV m = .pointer u := by cases m <;> exact ⟨_, rfl⟩
  have hml := fun b (e : m = some b) => hP.put.met.lt b e
  obtain ⟨kv, xv, rfl, hk, hx⟩ := hO
  obtain ⟨Ak, nk, ck, rfl⟩ := hk.slice
  obtain ⟨Ax, nx, cx, rfl⟩ := hx.slice
  replace hP := hP.dom (S' := fun b => S b ∧ b < w.heap.size) fun b h => h.1
  replace hI := hI.imp (S' := fun b => S b ∧ b < w.heap.size) fun b hlt h => ⟨h, hlt⟩
  replace hk := hk.imp (S' := fun b => S b ∧ b < w.heap.size) fun b hlt h => ⟨h, hlt⟩
  replace hx := hx.imp (S' := fun b => S b ∧ b < w.heap.size) fun b hlt h => ⟨h, hlt⟩
  obtain ⟨tu, rfl⟩ := hI.at_.ix.ptr
  have hb : Below w.heap.size w (((w.alloc (.cells (chA (Sip.rowOf sl) u (.pointer tu)) 38)).alloc (.cells #[.int .i64 op, .slice Ak nk ck, .slice Ax nx cx] 81)).alloc (.cells z38 38)) := (((Below.refl _ _).alloc (Nat.le_refl _) _).alloc (by simp) _).alloc (by simp; omega) _
  have h3 : (((w.alloc (.cells (chA (Sip.rowOf sl) u (.pointer tu)) 38)).alloc (.cells #[.int .i64 op, .slice Ak nk ck, .slice Ax nx cx] 81)).alloc (.cells z38 38)).heap[w.heap.size]? = some (.cells (chA (Sip.rowOf sl) u (.pointer tu)) 38 (0, 0)) := heap_old _ (heap_old _ (heap_new w _))
  have h4 : (((w.alloc (.cells (chA (Sip.rowOf sl) u (.pointer tu)) 38)).alloc (.cells #[.int .i64 op, .slice Ak nk ck, .slice Ax nx cx] 81)).alloc (.cells z38 38)).heap[w.heap.size + 1]? = some (.cells #[.int .i64 op, .slice Ak nk ck, .slice Ax nx cx] 81 (0, 0)) := by
    have := heap_new (w.alloc (.cells (chA (Sip.rowOf sl) u (.pointer tu)) 38)) (.cells #[.int .i64 op, .slice Ak nk ck, .slice Ax nx cx] 81)
    rw [World.size_alloc] at this
    exact heap_old _ this
  have h6 : (((w.alloc (.cells (chA (Sip.rowOf sl) u (.pointer tu)) 38)).alloc (.cells #[.int .i64 op, .slice Ak nk ck, .slice Ax nx cx] 81)).alloc (.cells z38 38)).heap[w.heap.size + 1 + 1]? = some (.cells z38 38 (0, 0)) := by
    have := heap_new ((w.alloc (.cells (chA (Sip.rowOf sl) u (.pointer tu)) 38)).alloc (.cells #[.int .i64 op, .slice Ak nk ck, .slice Ax nx cx] 81)) (.cells z38 38)
    rw [World.size_alloc, World.size_alloc] at this
    exact this
  go_enter Tryz.func33, Tryz.ntmps33
  go_upto_region 1 with (fail)
  generalize ((w.alloc (.cells (chA (Sip.rowOf sl) u (.pointer tu)) 38)).alloc (.cells #[.int .i64 op, .slice Ak nk ck, .slice Ax nx cx] 81)).alloc (.cells z38 38) = X at *
  have HB := Lib.hid hb
  have H6 := Lib.hid h6
  have HXC : Hid (∀ W, Kept m X W → W.rangeAt w.heap.size 0 (chA (Sip.rowOf sl) u (.pointer tu)).toList) := fun W hW => by
    have hh := (hW.block _ (Array.getElem?_eq_some_iff.1 h3).1 (fun e => by have := hml _ e; omega)).trans h3
    exact range_row 0 hh fun j _ => by rw [Nat.zero_add]
  have HOC : Hid (∀ W, Kept m X W → W.cell? ⟨w.heap.size + 1, 0, none⟩ = some (.int .i64 op) ∧ W.cell? ⟨w.heap.size + 1, 1, none⟩ = some (.slice Ak nk ck) ∧ W.cell? ⟨w.heap.size + 1, 2, none⟩ = some (.slice Ax nx cx)) := fun W hW => by
    have hh := (hW.block _ (Array.getElem?_eq_some_iff.1 h4).1 (fun e => by have := hml _ e; omega)).trans h4
    exact ⟨cell_of_row W (w.heap.size + 1) 0 _ _ _ hh, cell_of_row W (w.heap.size + 1) 1 _ _ _ hh, cell_of_row W (w.heap.size + 1) 2 _ _ _ hh⟩
  have HCV := Lib.hid (fun W (h : Kept m X W) => conv_bytes ((hk.below hb).kept h hP.put.hS))
  have HCX := Lib.hid (fun W (h : Kept m X W) => conv_bytes ((hx.below hb).kept h hP.put.hS))
  have HII := Lib.hid (fun W (h : Kept m X W) => (show ChIn (fun b => S b ∧ b < w.heap.size) W (Sip.hashN sl) N u (.pointer tu) A c t T from ⟨(hI.at_.below hb).kept h hP.put.hS, (hI.min.below hb).kept h hP.put.hS, hI.cap, hI.ok⟩))
  have hnT : T.size + 1 ≤ 500000 := by have := hI.ok.len; rw [PT.size_list] at this; omega
  have hR : TrH (Sip.hashN sl) N H t vi co := ⟨hN, hH, hI.ok.fits, hI.ok.small, by omega, by omega⟩
  have hPU : ∀ W, Below X.heap.size X W → Calls Tryz.prog 57 #[.agg (chA (Sip.rowOf sl) u (.pointer tu)), .agg #[.slice Ak nk ck, .slice Ax nx cx], mV m] W fun e w' => ChPut (fun b => S b ∧ b < w.heap.size) m W w' e (Sip.rowOf sl) (TT.put k x (Sip.hashN sl k) t 0) (T.putL k x) vi co (14 + H + T.height) := fun W hW =>
    chPut_any m sl hsl N H t T u (.pointer tu) Ak Ax nk ck nx cx k x W vi co ((hP.below hb).below hW) ((hk.below hb).below hW) ((hx.below hb).below hW) ((hI.at_.below hb).below hW) hR hk1 hx1 hI.ok.even hnT hv hco
  have hDE : ∀ W, Below X.heap.size X W → Calls Tryz.prog 59 #[.agg (chA (Sip.rowOf sl) u (.pointer tu)), .slice Ak nk ck, mV m] W fun e w' => ChDel (fun b => S b ∧ b < w.heap.size) m W w' e (Sip.rowOf sl) (delT (TT.del k (Sip.hashN sl k) t 0) t) (delP (TT.del k (Sip.hashN sl k) t 0).2 T k) (TT.del k (Sip.hashN sl k) t 0).2 vi co (14 + H + T.height) := fun W hW =>
    chDel_any m sl hsl N H t T u (.pointer tu) Ak nk ck k W vi co ((hP.below hb).below hW) ((hk.below hb).below hW) ((hI.at_.below hb).below hW) hR hI.ok.even hnT hv hco
  have hGE : ∀ W, Below X.heap.size X W → Calls Tryz.prog 61 #[.agg (chA (Sip.rowOf sl) u (.pointer tu)), .slice Ak nk ck, mV m] W fun e w' => GetOut (fun b => S b ∧ b < w.heap.size) m W w' e (getM T.list k) vi co (14 + H) := fun W hW => by
    have := chGet_any m sl hsl N H t T u (.pointer tu) Ak nk ck k W vi co ((hP.below hb).below hW) ((hk.below hb).below hW) ((hI.at_.below hb).below hW) hR
    rw [hI.ok.looks] at this
    exact this
  rw [hmu] at hPU hDE hGE ⊢
  have HPU := Lib.hid hPU
  have HDE := Lib.hid hDE
  have HGE := Lib.hid hGE
  have HP := Lib.hid hP
  have HMS := Lib.hid hml
  have in38 : (Tryz.prog.info? 38).map (·.size) = some (chA (Sip.rowOf sl) u (.pointer tu)).toList.length := by rw [info38, Array.length_toList, chA_size HS.out.1]
  have HIN := Lib.hid in38
  have HU0 := Lib.hid hI.at_.tr.one
  have HPT : Hid (∀ T', T'.list = T.putL k x → T'.even → ChOk (Sip.hashN sl) (N + 1) (TT.put k x (Sip.hashN sl k) t 0) T' ∧ T'.list = insL k x T.list) := fun T' h1 h2 => hI.ok.put (Sip.hashN_lt sl) hN1 k x (by omega) h1 h2
  have HDT : Hid (∀ T', T'.list = delP (TT.del k (Sip.hashN sl k) t 0).2 T k → T'.even → ChOk (Sip.hashN sl) (N + 1) (delT (TT.del k (Sip.hashN sl k) t 0) t) T' ∧ T'.list = withoutM T.list k ∧ (TT.del k (Sip.hashN sl k) t 0).2 = (getM T.list k).isSome) := fun T' h1 h2 => by
    obtain ⟨a, b, c⟩ := hI.ok.del k h1 h2
    exact ⟨a.mono (by omega), b, c⟩
  have HPM := Lib.hid (putM_ins T.list k x hI.ok.asc)
  have HLE := Lib.hid (show T.list.length ≤ 1000000 by have := hI.ok.len; omega)
  have HKY := Lib.hid hI.ok.keys
  generalize hqh : Sip.hashN sl = hs at *
  generalize hqs : Sip.rowOf sl = sd at *
  have HQ := Lib.hid (And.intro hqh hqs)
  clear hml hb h3 h4 h6 hP hI hk hx hR hPU hDE hGE in38 hmu hv hco hqh hqs hnT hH hN hk1 hx1
  obtain ⟨b0, b1, b2⟩ := HOC.out X (Kept.refl _ _)
  have hcv := HCV.out X (Kept.refl _ _)
  go_wp2_with fail
  refine (mget_any T.list A T.list.length c (strO k) X (HII.out X (Kept.refl _ _)).min HLE.out).mono ?_
  rw [strL_strO]
  rintro e w2 ⟨rfl, hb2⟩
  obtain ⟨want, is, hg, his, hwant⟩ := gotM_parts (getM T.list k)
  rw [hg]
  have HB2 := Lib.hid hb2
  have KX2 : Hid (Kept m X w2) := Kept.of hb2
  have HIS := Lib.hid his
  have HWANT := Lib.hid hwant
  clear hb2 hg hcv b0 b1 b2 his hwant
  obtain ⟨b0, b1, b2⟩ := HOC.out w2 KX2.out
  have hcv := HCV.out w2 KX2.out
  have ra38 := HXC.out w2 KX2.out
  by_cases h1 : op = 1
  · subst h1
    go_wp2_with (refine wpList_load_mid rfl 38 _ rfl w.heap.size 0 (by rfl) (chA sd u (.pointer tu)).toList _ ra38 Tryz.underlying38 rfl HIN.out ?_)
    refine (HPU.out w2 HB2.out).mono ?_
    rintro e w3 ⟨u3, p3, T3, vi3, co3, rfl, h31, h32, h33, h34⟩
    obtain ⟨v3, rfl⟩ := h31.ix.ptr
    have HU3 := Lib.hid h31.tr.one
    have HZN : Hid ((w3.alloc (.cells z38 38)).heap[w3.heap.size]? = some (.cells z38 38 (0, 0))) := heap_new w3 _
    have hst := run_storeVar_row (P := Tryz.prog) (w3.alloc (.cells z38 38)) w3.heap.size 38 38 _ (chA sd u3 (.pointer v3)) HZN.out (size_of info38 (chA_size HS.out.1)) (by rw [chA_size HS.out.1]; rfl) (chA_one HS.out HU3.out rfl)
    have hW3 := setRow_heap (w3.alloc (.cells z38 38)) w3.heap.size _ (chA sd u3 (.pointer v3)) 38 _ HZN.out
    have hKN : Kept m X ((w3.alloc (.cells z38 38)).setRow w3.heap.size (chA sd u3 (.pointer v3))) :=
      (KX2.out.trans h34.kept).trans ((Kept.of ((Below.refl _ w3).alloc (Nat.le_refl _) _)).setRow (Nat.le_refl _) _)
    have hmN : m ≠ some w3.heap.size := fun e => by have := h34.at_.lt _ e; omega
    have hMN : Met m w ((w3.alloc (.cells z38 38)).setRow w3.heap.size (chA sd u3 (.pointer v3))) vi co vi3 co3 0 (14 + H + T.height) :=
      ((((Met.of HP.out.put.met HB.out).trans ((Met.of (HP.out.put.met.below HB.out) HB2.out).trans h34)).trans (Met.of h34.at_ ((Below.refl _ w3).alloc (Nat.le_refl _) _))).setRow (by have := HB.out.size; have := HB2.out.size; have := h34.kept.size; omega) hmN _).wide (by omega) (by omega)
    have hT3 : ChAt (fun b => Up (fun b => S b ∧ b < w.heap.size) w2.heap.size b ∧ b < w3.heap.size) ((w3.alloc (.cells z38 38)).setRow w3.heap.size (chA sd u3 (.pointer v3))) u3 (.pointer v3) (TT.put k x (hs k) t 0) T3 :=
      (h31.imp (S' := fun b => Up (fun b => S b ∧ b < w.heap.size) w2.heap.size b ∧ b < w3.heap.size) fun b hlt h => ⟨h, hlt⟩).carry (by simp) fun b hb hlt => (setRow_other _ _ b _ (by omega)).trans (Below.heap_alloc w3 _ b hlt)
    have HT3 := Lib.hid hT3
    have HE3 := Lib.hid (HPT.out T3 h32 h33)
    have HKN := Lib.hid hKN
    have HMN := Lib.hid (And.intro hMN hmN)
    have HW3 := Lib.hid hW3
    have HG3 : Hid (w2.heap.size ≤ w3.heap.size ∧ X.heap.size ≤ w2.heap.size) := ⟨h34.kept.size, HB2.out.size⟩
    have hcx := HCX.out
    clear hT3 h31 h32 h33 h34 hW3 hKN hMN hmN b0 b1 b2 ra38 hcv hcx
    generalize (w3.alloc (.cells z38 38)).setRow w3.heap.size (chA sd u3 (.pointer v3)) = Y at *
    have HST := Lib.hid hst
    clear hst
    go_wp2_with (refine wpList_skip rfl (exec_store 38 _ _ rfl rfl HST.out) ?_)
    have in38 : (Tryz.prog.info? 38).map (·.size) = some (chA sd u3 (.pointer v3)).toList.length := by rw [info38, Array.length_toList, chA_size HS.out.1]
    have ul38 := Tryz.underlying38
    have hra : ∀ W, Kept m Y W → W.rangeAt w3.heap.size 0 (chA sd u3 (.pointer v3)).toList := fun W hW => range_row 0 ((hW.block _ (Array.getElem?_eq_some_iff.1 HW3.out).1 HMN.out.2).trans HW3.out) fun j _ => by rw [Nat.zero_add]
    have HRA := Lib.hid hra
    clear hra
    refine start_ (n := 13) (S := fun w' => Kept m Y w') (ds := [10, 11, 12]) #[false, false, false, false, false, false, false, false, false, false, false, false, false] (by kernel_rfl) rfl rfl (Kept.of (below_drew2 (Below.refl _ _))) (fun hHeld => ?_)
    refine take_ (i := 0) (N := some 44) (v := .agg (chA sd u3 (.pointer v3))) (a' := ?aa1) #[true, false, false, false, false, false, false, false, false, false, false, false, false] rfl rfl (by kernel_rfl) (fun _ _ _ h => h) (yieldsIf_load_mid rfl 38 (.tmp 14) rfl w3.heap.size 0 rfl (chA sd u3 (.pointer v3)).toList _ HRA.out ul38 rfl in38) hHeld ?ha1 ?_
    case ha1 =>
      simp only [Act.put, List.setIfInBounds_toArray, List.set_cons_zero, List.set_cons_succ]
      rfl
    clear ul38 in38
    refine pure_ (i := 1) (N := some 45) (v := ?vv2) (a' := ?aa2) #[true, true, false, false, false, false, false, false, false, false, false, false, false] rfl rfl (by kernel_rfl) (fun _ _ _ h => h) (Or.inl ⟨by rfl, ?hy2⟩) ?ha2 ?hn2
    case hy2 =>
      intro w'
      go_simp
      with_reducible rfl
    case ha2 =>
      simp only [Act.put, List.setIfInBounds_toArray, List.set_cons_zero, List.set_cons_succ]
      rfl
    refine pure_ (i := 2) (N := some 46) (v := ?vv3) (a' := ?aa3) #[true, true, true, false, false, false, false, false, false, false, false, false, false] rfl rfl (by kernel_rfl) (fun _ _ _ h => h) (Or.inl ⟨by rfl, ?hy3⟩) ?ha3 ?hn3
    case hy3 =>
      intro w'
      go_simp
      with_reducible rfl
    case ha3 =>
      simp only [Act.put, List.setIfInBounds_toArray, List.set_cons_zero, List.set_cons_succ]
      rfl
    refine pure_ (i := 3) (N := some 47) (v := ?vv4) (a' := ?aa4) #[true, true, true, true, false, false, false, false, false, false, false, false, false] rfl rfl (by kernel_rfl) (fun _ _ _ h => h) (Or.inl ⟨by rfl, ?hy4⟩) ?ha4 ?hn4
    case hy4 =>
      intro w'
      go_simp
      with_reducible rfl
    case ha4 =>
      simp only [Act.put, List.setIfInBounds_toArray, List.set_cons_zero, List.set_cons_succ]
      rfl
    refine take_ (i := 4) (N := some 48) (v := .slice Ax nx cx) (a' := ?aa5) #[true, true, true, true, true, false, false, false, false, false, false, false, false] rfl rfl (by kernel_rfl) (fun _ _ _ h => h) (Or.inl ⟨by rfl, ?hy5⟩) hHeld ?ha5 ?hn5
    case hy5 =>
      rintro w' hw'
      obtain ⟨d0, d1, d2⟩ := HOC.out w' (HKN.out.trans hw')
      go_simp
    case ha5 =>
      simp only [Act.put, List.setIfInBounds_toArray, List.set_cons_zero, List.set_cons_succ]
      rfl
    refine take_ (i := 5) (N := some 49) (v := .string (strO x)) (a' := ?aa6) #[true, true, true, true, true, true, false, false, false, false, false, false, false] rfl rfl (by kernel_rfl) (fun _ _ _ h => h) (Or.inl ⟨by rfl, ?hy6⟩) hHeld ?ha6 ?hn6
    case hy6 =>
      rintro w' hw'
      have d0 := HCX.out w' (HKN.out.trans hw')
      go_simp
    case ha6 =>
      simp only [Act.put, List.setIfInBounds_toArray, List.set_cons_zero, List.set_cons_succ]
      rfl
    refine pure_ (i := 8) (N := some 52) (v := ?vv7) (a' := ?aa7) #[true, true, true, true, true, true, false, false, true, false, false, false, false] rfl rfl (by kernel_rfl) (fun _ _ _ h => h) (Or.inl ⟨by rfl, ?hy7⟩) ?ha7 ?hn7
    case hy7 =>
      intro w'
      go_simp
      with_reducible rfl
    case ha7 =>
      simp only [Act.put, List.setIfInBounds_toArray, List.set_cons_zero, List.set_cons_succ]
      rfl
    refine pure_ (i := 9) (N := some 53) (v := ?vv8) (a' := ?aa8) #[true, true, true, true, true, true, false, false, true, true, false, false, false] rfl rfl (by kernel_rfl) (fun _ _ _ h => h) (Or.inl ⟨by rfl, ?hy8⟩) ?ha8 ?hn8
    case hy8 =>
      intro w'
      go_simp
      with_reducible rfl
    case ha8 =>
      simp only [Act.put, List.setIfInBounds_toArray, List.set_cons_zero, List.set_cons_succ]
      rfl
    refine one_ (i := 6) (N := some 50) #[true, true, true, true, true, true, true, false, true, true, false, false, false] rfl rfl (by kernel_rfl) (by decide) (fun K hK => ?_)
    refine value_ (w1 := Y.drew) (v := .agg #[.string (strO k), .string (strO x)]) (by rfl) rfl ?_ ?_
    · go_simp
    refine hK.out _ _ hHeld (fun hHeld => ?_)
    simp only [Act.put, List.setIfInBounds_toArray, List.set_cons_zero, List.set_cons_succ]
    refine one_ (i := 7) (N := some 51) #[true, true, true, true, true, true, true, true, true, true, false, false, false] rfl rfl (by kernel_rfl) (by decide) (fun K hK => ?_)
    refine goes_ Tryz.func58 (by kernel_rfl) rfl #[.slice A T.list.length c, .agg #[.string (strO k), .string (strO x)]] (by rfl) rfl rfl (by simp only [List.map_toArray, List.map_cons, List.map_nil]; rfl) ?_
    refine (mput_any' T.list A T.list.length c (strO k) (strO x) Y.drew (HII.out Y.drew (HKN.out.trans hHeld)).min HLE.out HKY.out).mono ?_
    rw [strL_strO, strL_strO, HPM.out, ← HE3.out.2]
    rintro e w5 ⟨A5, c5, rfl, t1, t2, t3⟩
    have HB5 : Hid (Below Y.heap.size Y w5) := below_drew1 t3
    have HM5 : Hid (MIn (New Y.heap.size) w5 A5 T3.list.length T3.list ∧ T3.list.length ≤ c5) := ⟨t2, t1⟩
    clear t1 t2 t3
    refine ⟨_, rfl, hK.out _ _ (Kept.of HB5.out) (fun hHeld => ?_)⟩
    simp only [Act.put, List.setIfInBounds_toArray, List.set_cons_zero, List.set_cons_succ]
    refine last_ (i := 10) (N := none) #[true, true, true, true, true, true, true, true, true, true, true, false, false] rfl rfl (by kernel_rfl) (by decide) (fun K hK => ?_)
    have hn6 : m ≠ some (w.heap.size + 1 + 1) := fun e => by have := HMS.out _ e; omega
    have HZ6 : Hid (w5.heap[w.heap.size + 1 + 1]? = some (.cells z38 38 (0, 0))) := ((HKN.out.trans (Kept.of HB5.out)).block _ (Array.getElem?_eq_some_iff.1 H6.out).1 hn6).trans H6.out
    have HW := Lib.hid (setRow_heap w5 (w.heap.size + 1 + 1) _ (chA sd u3 (.pointer v3)) 38 _ HZ6.out)
    refine skip_ (w1 := w5.setRow (w.heap.size + 1 + 1) (chA sd u3 (.pointer v3))) (by rfl) rfl (exec_store 38 (.tmp 8) (.tmp 44) rfl rfl (run_storeVar_row w5 (w.heap.size + 1 + 1) 38 38 _ _ HZ6.out (size_of info38 (chA_size HS.out.1)) (by rw [chA_size HS.out.1]; rfl) (chA_one HS.out HU3.out rfl))) ?_
    refine hK.out _ _ ?_
    refine last_ (i := 11) (N := some 9) #[true, true, true, true, true, true, true, true, true, true, true, true, false] rfl rfl (by kernel_rfl) (by decide) (fun K hK => ?_)
    refine value_ (w1 := w5.setRow (w.heap.size + 1 + 1) (chA sd u3 (.pointer v3))) (v := .slice A5 T3.list.length c5) (by rfl) rfl (by rfl) ?_
    refine hK.out _ _ ?_
    simp only [Act.put, List.setIfInBounds_toArray, List.set_cons_zero, List.set_cons_succ]
    refine last_ (i := 12) (N := some 10) #[true, true, true, true, true, true, true, true, true, true, true, true, true] rfl rfl (by kernel_rfl) (by decide) (fun K hK => ?_)
    refine value_ (w1 := w5.setRow (w.heap.size + 1 + 1) (chA sd u3 (.pointer v3))) (v := .bool true) (by rfl) rfl (by rfl) ?_
    refine hK.out _ _ ?_
    simp only [Act.put, List.setIfInBounds_toArray, List.set_cons_zero, List.set_cons_succ]
    refine done_ (by kernel_rfl) ?_
    have hgs := HG3.out
    have hxs := HB.out.size
    have hx6 := (Array.getElem?_eq_some_iff.1 H6.out).1
    have hgY := (Array.getElem?_eq_some_iff.1 HW3.out).1
    have h5s := HB5.out.size
    have HM7 : Met m w (w5.setRow (w.heap.size + 1 + 1) (chA sd u3 (.pointer v3))) vi co vi3 co3 0 (14 + H + T.height) := ((HMN.out.1.trans (Met.of HMN.out.1.at_ HB5.out)).setRow (by omega) hn6 _).wide (by omega) (by omega)
    have hC7 : ChAt (Up S w.heap.size) (w5.setRow (w.heap.size + 1 + 1) (chA sd u3 (.pointer v3))) u3 (.pointer v3) (TT.put k x (hs k) t 0) T3 := by
      refine ((HT3.out.below HB5.out).carry (by simp) (fun b hb _ => setRow_other w5 _ b _ ?_)).imp ?_
      · rcases hb.1 with hb | hb
        · have := hb.2; omega
        · omega
      · intro b _ hb
        rcases hb.1 with hb | hb
        · exact .inl hb.1
        · exact .inr (by omega)
    have hM7 : MIn (Up S w.heap.size) (w5.setRow (w.heap.size + 1 + 1) (chA sd u3 (.pointer v3))) A5 T3.list.length T3.list :=
      (HM5.out.1.carry (by simp) (fun b hb _ => setRow_other w5 _ b _ (by have : Y.heap.size ≤ b := hb; omega))).imp fun b _ hb => .inr (by have : Y.heap.size ≤ b := hb; omega)
    go_wp2_with fail
    exact bodyPost_ret (results_ctt rfl _ _ ⟨w.heap.size + 1 + 1, 0, none⟩ _ (by rfl) (run_loadVar_row _ _ 38 38 _ (0, 0) _ HW.out Tryz.underlying38 rfl (size_of info38 (chA_size HS.out.1)))) rfl ⟨u3, .pointer v3, A5, c5, _, T3, vi3, co3, by rw [HQ.out.2]; rfl, by rw [HQ.out.1]; exact ⟨hC7, hM7, HM5.out.2, HE3.out.1⟩, HM7⟩
  · by_cases h2 : op = 2
    · subst h2
      go_wp2_with (refine wpList_load_mid rfl 38 _ rfl w.heap.size 0 (by rfl) (chA sd u (.pointer tu)).toList _ ra38 Tryz.underlying38 rfl HIN.out ?_)
      refine (HDE.out w2 HB2.out).mono ?_
      rintro e w3 ⟨u3, p3, T3, vi3, co3, rfl, h31, h32, h33, h34⟩
      have HE3 := Lib.hid (HDT.out T3 h32 h33)
      rw [HE3.out.2.2, ← HIS.out]
      obtain ⟨v3, rfl⟩ := h31.ix.ptr
      have HU3 := Lib.hid h31.tr.one
      have HZN : Hid ((w3.alloc (.cells z38 38)).heap[w3.heap.size]? = some (.cells z38 38 (0, 0))) := heap_new w3 _
      have hst := run_storeVar_row (P := Tryz.prog) (w3.alloc (.cells z38 38)) w3.heap.size 38 38 _ (chA sd u3 (.pointer v3)) HZN.out (size_of info38 (chA_size HS.out.1)) (by rw [chA_size HS.out.1]; rfl) (chA_one HS.out HU3.out rfl)
      have hW3 := setRow_heap (w3.alloc (.cells z38 38)) w3.heap.size _ (chA sd u3 (.pointer v3)) 38 _ HZN.out
      have hKN : Kept m X ((w3.alloc (.cells z38 38)).setRow w3.heap.size (chA sd u3 (.pointer v3))) :=
        (KX2.out.trans h34.kept).trans ((Kept.of ((Below.refl _ w3).alloc (Nat.le_refl _) _)).setRow (Nat.le_refl _) _)
      have hmN : m ≠ some w3.heap.size := fun e => by have := h34.at_.lt _ e; omega
      have hMN : Met m w ((w3.alloc (.cells z38 38)).setRow w3.heap.size (chA sd u3 (.pointer v3))) vi co vi3 co3 0 (14 + H + T.height) :=
        ((((Met.of HP.out.put.met HB.out).trans ((Met.of (HP.out.put.met.below HB.out) HB2.out).trans h34)).trans (Met.of h34.at_ ((Below.refl _ w3).alloc (Nat.le_refl _) _))).setRow (by have := HB.out.size; have := HB2.out.size; have := h34.kept.size; omega) hmN _).wide (by omega) (by omega)
      have hT3 : ChAt (fun b => Up (fun b => S b ∧ b < w.heap.size) w2.heap.size b ∧ b < w3.heap.size) ((w3.alloc (.cells z38 38)).setRow w3.heap.size (chA sd u3 (.pointer v3))) u3 (.pointer v3) (delT (TT.del k (hs k) t 0) t) T3 :=
        (h31.imp (S' := fun b => Up (fun b => S b ∧ b < w.heap.size) w2.heap.size b ∧ b < w3.heap.size) fun b hlt h => ⟨h, hlt⟩).carry (by simp) fun b hb hlt => (setRow_other _ _ b _ (by omega)).trans (Below.heap_alloc w3 _ b hlt)
      have HT3 := Lib.hid hT3
      have HKN := Lib.hid hKN
      have HMN := Lib.hid (And.intro hMN hmN)
      have HW3 := Lib.hid hW3
      have HG3 : Hid (w2.heap.size ≤ w3.heap.size ∧ X.heap.size ≤ w2.heap.size) := ⟨h34.kept.size, HB2.out.size⟩
      clear hT3 h31 h32 h33 h34 hW3 hKN hMN hmN b0 b1 b2 ra38 hcv
      generalize (w3.alloc (.cells z38 38)).setRow w3.heap.size (chA sd u3 (.pointer v3)) = Y at *
      have HST := Lib.hid hst
      clear hst
      go_wp2_with (refine wpList_skip rfl (exec_store 38 _ _ rfl rfl HST.out) ?_)
      have in38 : (Tryz.prog.info? 38).map (·.size) = some (chA sd u3 (.pointer v3)).toList.length := by rw [info38, Array.length_toList, chA_size HS.out.1]
      have ul38 := Tryz.underlying38
      have hra : ∀ W, Kept m Y W → W.rangeAt w3.heap.size 0 (chA sd u3 (.pointer v3)).toList := fun W hW => range_row 0 ((hW.block _ (Array.getElem?_eq_some_iff.1 HW3.out).1 HMN.out.2).trans HW3.out) fun j _ => by rw [Nat.zero_add]
      have HRA := Lib.hid hra
      clear hra
      refine start_ (n := 10) (S := fun w' => Kept m Y w') (ds := [7, 8, 9]) #[false, false, false, false, false, false, false, false, false, false] (by kernel_rfl) rfl rfl (Kept.of (below_drew2 (Below.refl _ _))) (fun hHeld => ?_)
      refine take_ (i := 0) (N := some 64) (v := .agg (chA sd u3 (.pointer v3))) (a' := ?aa101) #[true, false, false, false, false, false, false, false, false, false] rfl rfl (by kernel_rfl) (fun _ _ _ h => h) (yieldsIf_load_mid rfl 38 (.tmp 16) rfl w3.heap.size 0 rfl (chA sd u3 (.pointer v3)).toList _ HRA.out ul38 rfl in38) hHeld ?ha101 ?_
      case ha101 =>
        simp only [Act.put, List.setIfInBounds_toArray, List.set_cons_zero, List.set_cons_succ]
        rfl
      clear ul38 in38
      refine pure_ (i := 1) (N := some 65) (v := ?vv102) (a' := ?aa102) #[true, true, false, false, false, false, false, false, false, false] rfl rfl (by kernel_rfl) (fun _ _ _ h => h) (Or.inl ⟨by rfl, ?hy102⟩) ?ha102 ?hn102
      case hy102 =>
        intro w'
        go_simp
        with_reducible rfl
      case ha102 =>
        simp only [Act.put, List.setIfInBounds_toArray, List.set_cons_zero, List.set_cons_succ]
        rfl
      refine pure_ (i := 2) (N := some 66) (v := ?vv103) (a' := ?aa103) #[true, true, true, false, false, false, false, false, false, false] rfl rfl (by kernel_rfl) (fun _ _ _ h => h) (Or.inl ⟨by rfl, ?hy103⟩) ?ha103 ?hn103
      case hy103 =>
        intro w'
        go_simp
        with_reducible rfl
      case ha103 =>
        simp only [Act.put, List.setIfInBounds_toArray, List.set_cons_zero, List.set_cons_succ]
        rfl
      refine pure_ (i := 4) (N := some 68) (v := ?vv104) (a' := ?aa104) #[true, true, true, false, true, false, false, false, false, false] rfl rfl (by kernel_rfl) (fun _ _ _ h => h) (Or.inl ⟨by rfl, ?hy104⟩) ?ha104 ?hn104
      case hy104 =>
        intro w'
        go_simp
        with_reducible rfl
      case ha104 =>
        simp only [Act.put, List.setIfInBounds_toArray, List.set_cons_zero, List.set_cons_succ]
        rfl
      refine pure_ (i := 5) (N := some 69) (v := ?vv105) (a' := ?aa105) #[true, true, true, false, true, true, false, false, false, false] rfl rfl (by kernel_rfl) (fun _ _ _ h => h) (Or.inl ⟨by rfl, ?hy105⟩) ?ha105 ?hn105
      case hy105 =>
        intro w'
        go_simp
        with_reducible rfl
      case ha105 =>
        simp only [Act.put, List.setIfInBounds_toArray, List.set_cons_zero, List.set_cons_succ]
        rfl
      refine pure_ (i := 6) (N := some 70) (v := ?vv106) (a' := ?aa106) #[true, true, true, false, true, true, true, false, false, false] rfl rfl (by kernel_rfl) (fun _ _ _ h => h) (Or.inl ⟨by rfl, ?hy106⟩) ?ha106 ?hn106
      case hy106 =>
        intro w'
        go_simp
        with_reducible rfl
      case ha106 =>
        simp only [Act.put, List.setIfInBounds_toArray, List.set_cons_zero, List.set_cons_succ]
        rfl
      refine one_ (i := 3) (N := some 67) #[true, true, true, true, true, true, true, false, false, false] rfl rfl (by kernel_rfl) (by decide) (fun K hK => ?_)
      refine goes_ Tryz.func60 (by kernel_rfl) rfl #[.slice A T.list.length c, .string (strO k)] (by rfl) rfl rfl (by simp only [List.map_toArray, List.map_cons, List.map_nil]; rfl) ?_
      refine (mwithout_any' T.list A T.list.length c (strO k) Y.drew (HII.out Y.drew (HKN.out.trans hHeld)).min HLE.out).mono ?_
      rw [strL_strO, ← HE3.out.2.1]
      rintro e w5 ⟨A5, c5, rfl, t1, t2, t3⟩
      have HB5 : Hid (Below Y.heap.size Y w5) := below_drew1 t3
      have HM5 : Hid (MIn (New Y.heap.size) w5 A5 T3.list.length T3.list ∧ T3.list.length ≤ c5) := ⟨t2, t1⟩
      clear t1 t2 t3
      refine ⟨_, rfl, hK.out _ _ (Kept.of HB5.out) (fun hHeld => ?_)⟩
      simp only [Act.put, List.setIfInBounds_toArray, List.set_cons_zero, List.set_cons_succ]
      refine last_ (i := 7) (N := none) #[true, true, true, true, true, true, true, true, false, false] rfl rfl (by kernel_rfl) (by decide) (fun K hK => ?_)
      have hn6 : m ≠ some (w.heap.size + 1 + 1) := fun e => by have := HMS.out _ e; omega
      have HZ6 : Hid (w5.heap[w.heap.size + 1 + 1]? = some (.cells z38 38 (0, 0))) := ((HKN.out.trans (Kept.of HB5.out)).block _ (Array.getElem?_eq_some_iff.1 H6.out).1 hn6).trans H6.out
      have HW := Lib.hid (setRow_heap w5 (w.heap.size + 1 + 1) _ (chA sd u3 (.pointer v3)) 38 _ HZ6.out)
      refine skip_ (w1 := w5.setRow (w.heap.size + 1 + 1) (chA sd u3 (.pointer v3))) (by rfl) rfl (exec_store 38 (.tmp 8) (.tmp 64) rfl rfl (run_storeVar_row w5 (w.heap.size + 1 + 1) 38 38 _ _ HZ6.out (size_of info38 (chA_size HS.out.1)) (by rw [chA_size HS.out.1]; rfl) (chA_one HS.out HU3.out rfl))) ?_
      refine hK.out _ _ ?_
      refine last_ (i := 8) (N := some 9) #[true, true, true, true, true, true, true, true, true, false] rfl rfl (by kernel_rfl) (by decide) (fun K hK => ?_)
      refine value_ (w1 := w5.setRow (w.heap.size + 1 + 1) (chA sd u3 (.pointer v3))) (v := .slice A5 T3.list.length c5) (by rfl) rfl (by rfl) ?_
      refine hK.out _ _ ?_
      simp only [Act.put, List.setIfInBounds_toArray, List.set_cons_zero, List.set_cons_succ]
      refine last_ (i := 9) (N := some 10) #[true, true, true, true, true, true, true, true, true, true] rfl rfl (by kernel_rfl) (by decide) (fun K hK => ?_)
      refine value_ (w1 := w5.setRow (w.heap.size + 1 + 1) (chA sd u3 (.pointer v3))) (v := .bool true) (by rfl) rfl (by rfl) ?_
      refine hK.out _ _ ?_
      simp only [Act.put, List.setIfInBounds_toArray, List.set_cons_zero, List.set_cons_succ]
      refine done_ (by kernel_rfl) ?_
      have hgs := HG3.out
      have hxs := HB.out.size
      have hx6 := (Array.getElem?_eq_some_iff.1 H6.out).1
      have hgY := (Array.getElem?_eq_some_iff.1 HW3.out).1
      have h5s := HB5.out.size
      have HM7 : Met m w (w5.setRow (w.heap.size + 1 + 1) (chA sd u3 (.pointer v3))) vi co vi3 co3 0 (14 + H + T.height) := ((HMN.out.1.trans (Met.of HMN.out.1.at_ HB5.out)).setRow (by omega) hn6 _).wide (by omega) (by omega)
      have hC7 : ChAt (Up S w.heap.size) (w5.setRow (w.heap.size + 1 + 1) (chA sd u3 (.pointer v3))) u3 (.pointer v3) (delT (TT.del k (hs k) t 0) t) T3 := by
        refine ((HT3.out.below HB5.out).carry (by simp) (fun b hb _ => setRow_other w5 _ b _ ?_)).imp ?_
        · rcases hb.1 with hb | hb
          · have := hb.2; omega
          · omega
        · intro b _ hb
          rcases hb.1 with hb | hb
          · exact .inl hb.1
          · exact .inr (by omega)
      have hM7 : MIn (Up S w.heap.size) (w5.setRow (w.heap.size + 1 + 1) (chA sd u3 (.pointer v3))) A5 T3.list.length T3.list :=
        (HM5.out.1.carry (by simp) (fun b hb _ => setRow_other w5 _ b _ (by have : Y.heap.size ≤ b := hb; omega))).imp fun b _ hb => .inr (by have : Y.heap.size ≤ b := hb; omega)
      go_wp2_with fail
      exact bodyPost_ret (results_ctt rfl _ _ ⟨w.heap.size + 1 + 1, 0, none⟩ _ (by rfl) (run_loadVar_row _ _ 38 38 _ (0, 0) _ HW.out Tryz.underlying38 rfl (size_of info38 (chA_size HS.out.1)))) rfl ⟨u3, .pointer v3, A5, c5, _, T3, vi3, co3, by rw [HQ.out.2]; rfl, by rw [HQ.out.1]; exact ⟨hC7, hM7, HM5.out.2, HE3.out.1⟩, HM7⟩
    · by_cases h3 : op = 3
      · subst h3
        go_wp2_with (refine wpList_load_mid rfl 38 _ rfl w.heap.size 0 (by rfl) (chA sd u (.pointer tu)).toList _ ra38 Tryz.underlying38 rfl HIN.out ?_)
        refine (HGE.out w2 HB2.out).mono ?_
        rintro e w3 ⟨vi3, co3, hG3, h34⟩
        obtain ⟨Av, nv, cv, vs, rfl, hbv, hvs⟩ : ∃ Av nv cv vs, e = .returned (.tuple #[.slice Av nv cv, .bool is]) ∧ BIn (New w2.heap.size) w3 (.slice Av nv cv) vs ∧ strO vs = want := by
          cases hg : getM T.list k with
          | none =>
            rw [hg] at hG3
            exact ⟨none, 0, 0, [], by rw [HIS.out, hg]; exact hG3, BIn.nil _ _, by rw [HWANT.out, hg]; rfl⟩
          | some y =>
            rw [hg] at hG3
            obtain ⟨uu, rfl, hu⟩ := hG3
            obtain ⟨Av, nv, cv, rfl⟩ := hu.slice
            exact ⟨Av, nv, cv, y, by rw [HIS.out, hg]; rfl, hu, by rw [HWANT.out, hg]; rfl⟩
        have K3 : Hid (Kept m X w3) := KX2.out.trans h34.kept
        have HM3 : Hid (Met m w w3 vi co vi3 co3 0 (14 + H + T.height)) := ((Met.of HP.out.put.met HB.out).trans ((Met.of (HP.out.put.met.below HB.out) HB2.out).trans h34)).wide (by omega) (by omega)
        have hxs := HB.out.size
        have hx6 := (Array.getElem?_eq_some_iff.1 H6.out).1
        have hx2 := HB2.out.size
        have hx3 := h34.kept.size
        have hn6 : m ≠ some (w.heap.size + 1 + 1) := fun e => by have := HMS.out _ e; omega
        have HZ6 : Hid (w3.heap[w.heap.size + 1 + 1]? = some (.cells z38 38 (0, 0))) := (K3.out.block _ (Array.getElem?_eq_some_iff.1 H6.out).1 hn6).trans H6.out
        have HW := Lib.hid (setRow_heap w3 (w.heap.size + 1 + 1) _ (chA sd u (.pointer tu)) 38 _ HZ6.out)
        have hS3 : w3.drew.rangeAt w.heap.size 0 (chA sd u (.pointer tu)).toList ∧ (convert 23 9 (.slice Av nv cv)).run Tryz.prog w3.drew = .ok (.string want) w3.drew := ⟨HXC.out _ (K3.out.drew), by rw [← hvs]; exact conv_bytes (hbv.below (below_drew2 (Below.refl _ _)))⟩
        have hS4 : (w3.drew.setRow (w.heap.size + 1 + 1) (chA sd u (.pointer tu))).rangeAt w.heap.size 0 (chA sd u (.pointer tu)).toList ∧ (convert 23 9 (.slice Av nv cv)).run Tryz.prog (w3.drew.setRow (w.heap.size + 1 + 1) (chA sd u (.pointer tu))) = .ok (.string want) (w3.drew.setRow (w.heap.size + 1 + 1) (chA sd u (.pointer tu))) := by
          refine ⟨fun j v hj => ?_, by rw [← hvs]; exact conv_bytes ((hbv.below (below_drew2 (Below.refl _ _))).carry (by simp) fun b hb _ => setRow_other _ _ b _ (by have : w2.heap.size ≤ b := hb; omega))⟩
          rw [← hS3.1 j v hj]
          exact cell_block (b := w.heap.size) (setRow_other w3.drew (w.heap.size + 1 + 1) w.heap.size _ (by omega))
        have HS3 := Lib.hid (And.intro hS3 hS4)
        clear hG3 h34 hbv hvs hS3 hS4 b0 b1 b2 ra38 hcv
        go_wp2_with fail
        have in38 := HIN.out
        have ul38 := Tryz.underlying38
        refine start_ (n := 14) (S := fun w' => w'.rangeAt w.heap.size 0 (chA sd u (.pointer tu)).toList ∧ (convert 23 9 (.slice Av nv cv)).run Tryz.prog w' = .ok (.string want) w') (ds := []) #[false, false, false, false, false, false, false, false, false, false, false, false, false, false] (by kernel_rfl) rfl rfl HS3.out.1 (fun hHeld => ?_)
        refine take_ (i := 0) (N := some 81) (v := .agg (chA sd u (.pointer tu))) (a' := ?aa201) #[true, false, false, false, false, false, false, false, false, false, false, false, false, false] rfl rfl (by kernel_rfl) (fun _ _ _ h => h) (yieldsIf_load_mid rfl 38 (.tmp 4) rfl w.heap.size 0 rfl (chA sd u (.pointer tu)).toList _ (fun _ h => h.1) ul38 rfl in38) hHeld ?ha201 ?_
        case ha201 =>
          simp only [Act.put, List.setIfInBounds_toArray, List.set_cons_zero, List.set_cons_succ]
          rfl
        clear ul38 in38
        refine pure_ (i := 1) (N := some 82) (v := ?vv202) (a' := ?aa202) #[true, true, false, false, false, false, false, false, false, false, false, false, false, false] rfl rfl (by kernel_rfl) (fun _ _ _ h => h) (Or.inl ⟨by rfl, ?hy202⟩) ?ha202 ?hn202
        case hy202 =>
          intro w'
          go_simp
          with_reducible rfl
        case ha202 =>
          simp only [Act.put, List.setIfInBounds_toArray, List.set_cons_zero, List.set_cons_succ]
          rfl
        refine pure_ (i := 2) (N := some 83) (v := ?vv203) (a' := ?aa203) #[true, true, true, false, false, false, false, false, false, false, false, false, false, false] rfl rfl (by kernel_rfl) (fun _ _ _ h => h) (Or.inl ⟨by rfl, ?hy203⟩) ?ha203 ?hn203
        case hy203 =>
          intro w'
          go_simp
          with_reducible rfl
        case ha203 =>
          simp only [Act.put, List.setIfInBounds_toArray, List.set_cons_zero, List.set_cons_succ]
          rfl
        refine pure_ (i := 3) (N := some 84) (v := ?vv204) (a' := ?aa204) #[true, true, true, true, false, false, false, false, false, false, false, false, false, false] rfl rfl (by kernel_rfl) (fun _ _ _ h => h) (Or.inl ⟨by rfl, ?hy204⟩) ?ha204 ?hn204
        case hy204 =>
          intro w'
          go_simp
          with_reducible rfl
        case ha204 =>
          simp only [Act.put, List.setIfInBounds_toArray, List.set_cons_zero, List.set_cons_succ]
          rfl
        refine pure_ (i := 4) (N := some 85) (v := ?vv205) (a' := ?aa205) #[true, true, true, true, true, false, false, false, false, false, false, false, false, false] rfl rfl (by kernel_rfl) (fun _ _ _ h => h) (Or.inl ⟨by rfl, ?hy205⟩) ?ha205 ?hn205
        case hy205 =>
          intro w'
          go_simp
          with_reducible rfl
        case ha205 =>
          simp only [Act.put, List.setIfInBounds_toArray, List.set_cons_zero, List.set_cons_succ]
          rfl
        refine pure_ (i := 5) (N := some 86) (v := ?vv206) (a' := ?aa206) #[true, true, true, true, true, true, false, false, false, false, false, false, false, false] rfl rfl (by kernel_rfl) (fun _ _ _ h => h) (Or.inl ⟨by rfl, ?hy206⟩) ?ha206 ?hn206
        case hy206 =>
          intro w'
          go_simp
          with_reducible rfl
        case ha206 =>
          simp only [Act.put, List.setIfInBounds_toArray, List.set_cons_zero, List.set_cons_succ]
          rfl
        refine pure_ (i := 6) (N := some 87) (v := ?vv207) (a' := ?aa207) #[true, true, true, true, true, true, true, false, false, false, false, false, false, false] rfl rfl (by kernel_rfl) (fun _ _ _ h => h) (Or.inl ⟨by rfl, ?hy207⟩) ?ha207 ?hn207
        case hy207 =>
          intro w'
          go_simp
          with_reducible rfl
        case ha207 =>
          simp only [Act.put, List.setIfInBounds_toArray, List.set_cons_zero, List.set_cons_succ]
          rfl
        refine take_ (i := 7) (N := some 88) (v := .string want) (a' := ?aa208) #[true, true, true, true, true, true, true, true, false, false, false, false, false, false] rfl rfl (by kernel_rfl) (fun _ _ _ h => h) (Or.inl ⟨by rfl, ?hy208⟩) hHeld ?ha208 ?hn208
        case hy208 =>
          rintro w' ⟨_, d0⟩
          go_simp
        case ha208 =>
          simp only [Act.put, List.setIfInBounds_toArray, List.set_cons_zero, List.set_cons_succ]
          rfl
        refine pure_ (i := 8) (N := some 89) (v := ?vv209) (a' := ?aa209) #[true, true, true, true, true, true, true, true, true, false, false, false, false, false] rfl rfl (by kernel_rfl) (fun _ _ _ h => h) (Or.inl ⟨by rfl, ?hy209⟩) ?ha209 ?hn209
        case hy209 =>
          intro w'
          go_simp
          with_reducible rfl
        case ha209 =>
          simp only [Act.put, List.setIfInBounds_toArray, List.set_cons_zero, List.set_cons_succ]
          rfl
        refine pure_ (i := 9) (N := some 90) (v := ?vv210) (a' := ?aa210) #[true, true, true, true, true, true, true, true, true, true, false, false, false, false] rfl rfl (by kernel_rfl) (fun _ _ _ h => h) (Or.inl ⟨by rfl, ?hy210⟩) ?ha210 ?hn210
        case hy210 =>
          intro w'
          go_simp
          with_reducible rfl
        case ha210 =>
          simp only [Act.put, List.setIfInBounds_toArray, List.set_cons_zero, List.set_cons_succ]
          rfl
        refine pure_ (i := 10) (N := some 91) (v := ?vv211) (a' := ?aa211) #[true, true, true, true, true, true, true, true, true, true, true, false, false, false] rfl rfl (by kernel_rfl) (fun _ _ _ h => h) (Or.inl ⟨by rfl, ?hy211⟩) ?ha211 ?hn211
        case hy211 =>
          intro w'
          go_simp
          with_reducible rfl
        case ha211 =>
          simp only [Act.put, List.setIfInBounds_toArray, List.set_cons_zero, List.set_cons_succ]
          rfl
        refine one_ (i := 11) (N := none) #[true, true, true, true, true, true, true, true, true, true, true, true, false, false] rfl rfl (by kernel_rfl) (by decide) (fun K hK => ?_)
        refine skip_ (w1 := w3.drew.setRow (w.heap.size + 1 + 1) (chA sd u (.pointer tu))) (by rfl) rfl (exec_store 38 (.tmp 8) (.tmp 81) rfl rfl (run_storeVar_row w3.drew (w.heap.size + 1 + 1) 38 38 _ _ HZ6.out (size_of info38 (chA_size HS.out.1)) (by rw [chA_size HS.out.1]; rfl) (chA_one HS.out HU0.out rfl))) ?_
        refine hK.out _ _ HS3.out.2 (fun hHeld => ?_)
        refine one_ (i := 12) (N := some 9) #[true, true, true, true, true, true, true, true, true, true, true, true, true, false] rfl rfl (by kernel_rfl) (by decide) (fun K hK => ?_)
        refine value_ (w1 := w3.drew.setRow (w.heap.size + 1 + 1) (chA sd u (.pointer tu))) (v := .slice A T.list.length c) (by rfl) rfl (by rfl) ?_
        refine hK.out _ _ HS3.out.2 (fun hHeld => ?_)
        simp only [Act.put, List.setIfInBounds_toArray, List.set_cons_zero, List.set_cons_succ]
        refine one_ (i := 13) (N := some 10) #[true, true, true, true, true, true, true, true, true, true, true, true, true, true] rfl rfl (by kernel_rfl) (by decide) (fun K hK => ?_)
        refine value_ (w1 := w3.drew.setRow (w.heap.size + 1 + 1) (chA sd u (.pointer tu))) (v := .bool true) (by rfl) rfl (by rfl) ?_
        refine hK.out _ _ HS3.out.2 (fun hHeld => ?_)
        simp only [Act.put, List.setIfInBounds_toArray, List.set_cons_zero, List.set_cons_succ]
        refine done_ (by kernel_rfl) ?_
        have HM7 : Met m w (w3.drew.setRow (w.heap.size + 1 + 1) (chA sd u (.pointer tu))) vi co vi3 co3 0 (14 + H + T.height) := HM3.out.drew.setRow (by omega) hn6 _
        have hI7 := ((HII.out w3.drew K3.out.drew).carry (w1 := w3.drew.setRow (w.heap.size + 1 + 1) (chA sd u (.pointer tu))) (by simp) fun b hb _ => setRow_other w3.drew _ b _ (by have := hb.2; omega)).imp (S' := Up S w.heap.size) fun b _ hb => .inl hb.1
        go_wp2_with fail
        exact bodyPost_ret (results_ctt rfl _ _ ⟨w.heap.size + 1 + 1, 0, none⟩ _ (by rfl) (run_loadVar_row _ _ 38 38 _ (0, 0) _ HW.out Tryz.underlying38 rfl (size_of info38 (chA_size HS.out.1)))) rfl ⟨u, .pointer tu, A, c, t, T, vi3, co3, by rw [HQ.out.2]; rfl, by rw [HQ.out.1]; exact hI7.mono (Nat.le_succ _), HM7⟩
      · have HZ6 : Hid (w2.heap[w.heap.size + 1 + 1]? = some (.cells z38 38 (0, 0))) := (HB2.out.block _ (Array.getElem?_eq_some_iff.1 H6.out).1).trans H6.out
        have HW := Lib.hid (setRow_heap w2 (w.heap.size + 1 + 1) _ (chA sd u (.pointer tu)) 38 _ HZ6.out)
        go_wp2_with (first
          | (refine wpList_load_mid rfl 38 _ rfl w.heap.size 0 (by rfl) (chA sd u (.pointer tu)).toList _ ra38 Tryz.underlying38 rfl HIN.out ?_)
          | (refine wpList_store_row rfl 38 _ _ rfl (w.heap.size + 1 + 1) (chA sd u (.pointer tu)) rfl rfl 38 _ HZ6.out (size_of info38 (chA_size HS.out.1)) (by rw [chA_size HS.out.1]; rfl) (chA_one HS.out HU0.out rfl) ?_))
        have hxs := HB.out.size
        have hx6 := (Array.getElem?_eq_some_iff.1 H6.out).1
        have hn6 : m ≠ some (w.heap.size + 1 + 1) := fun e => by have := HMS.out _ e; omega
        have hI7 := ((HII.out w2 KX2.out).carry (w1 := w2.setRow (w.heap.size + 1 + 1) (chA sd u (.pointer tu))) (by simp) fun b hb _ => setRow_other w2 _ b _ (by have := hb.2; omega)).imp (S' := Up S w.heap.size) fun b _ hb => .inl hb.1
        have HM7 : Met m w (w2.setRow (w.heap.size + 1 + 1) (chA sd u (.pointer tu))) vi co vi co 0 (14 + H + T.height) := (((Met.of HP.out.put.met HB.out).trans (Met.of (HP.out.put.met.below HB.out) HB2.out)).setRow (by omega) hn6 _).wide (by omega) (by omega)
        exact bodyPost_ret (results_ctt rfl _ _ ⟨w.heap.size + 1 + 1, 0, none⟩ _ (by rfl) (run_loadVar_row _ _ 38 38 _ (0, 0) _ HW.out Tryz.underlying38 rfl (size_of info38 (chA_size HS.out.1)))) rfl ⟨u, .pointer tu, A, c, t, T, vi, co, by rw [HQ.out.2]; rfl, by rw [HQ.out.1]; exact hI7.mono (Nat.le_succ _), HM7⟩

end Go.Proofs.YtphjaebkcimklaaGreatDoor

/- law23's made: the chart of some calls, and its map. -/
set_option linter.unusedVariables false
set_option linter.unusedSimpArgs false
namespace Go.Proofs.YtphjaebkcimklaaGreatDoor
open Go.RowKit

/-- The seeds that the law takes. -/
abbrev sl5 : Bytes := [5, 0, 0, 0, 0, 0, 0, 0, 0, 0, 0, 0, 0, 0, 0, 0]
abbrev sl0 : Bytes := [0, 0, 0, 0, 0, 0, 0, 0, 0, 0, 0, 0, 0, 0, 0, 0]
theorem built31_5 : Tryz.prog.built 31 [(0, .int .u8 5)] = some (Sip.rowOf sl5) := by kernel_rfl
theorem built31_0 : Tryz.prog.built 31 [] = some (Sip.rowOf sl0) := by kernel_rfl

/-- The tables that hashing and bits read. -/
structure Tabs (w : World) : Prop where
  bits : B.TabOK w
  sip : Sip.TabOK w
theorem Tabs.below {w w1 : World} (h : Tabs w) (hb : Below w.heap.size w w1) : Tabs w1 := ⟨h.bits.below h.bits.1 (Nat.le_refl _) hb, h.sip.below hb⟩
theorem Tabs.ch {S : Nat → Prop} {w : World} (h : Tabs w) : ChH S none w 0 0 := ⟨⟨by simp, by simp, (fun b e => by cases e), h.bits⟩, by simp, h.sip⟩

/-- What made tells. -/
structure MadeIn (w w' : World) (u p : Value) (A : Option Addr) (c : Nat) (t : TT) (T : PT) (n : Nat) : Prop where
  in_ : ChIn (fun _ => True) w' (Sip.hashN sl5) (n + 1) u p A c t T
  below : Below w.heap.size w w'
/-- made's loop. -/
structure MadeL (sd : Array Value) (w wr : World) (g : Nat) (u p : Value) (A : Option Addr) (c : Nat) (t : TT) (T : PT) (n : Nat) : Prop where
  var : wr.heap[g]? = some (.cells (chA sd u p) 38 (0, 0))
  out : wr.heap[w.heap.size]? = some (.cells z38 38 (0, 0))
  in_ : ChIn (fun b => b ≠ w.heap.size ∧ b ≠ g) wr (Sip.hashN sl5) (n + 1) u p A c t T
  below : Below w.heap.size w wr
  far : w.heap.size < g

set_option maxRecDepth 100000 in
set_option maxHeartbeats 12800000 in
theorem made_any (A : Option Addr) (n c : Nat) (L : List (Int × Bytes × Bytes)) (w : World) (h : Ops w A n L) (hf : FineL L 1000) (hT : Tabs w) :
    Calls Tryz.prog 10 #[.slice A n c] w fun e w' => ∃ u p A' c' t T, e = .returned (.tuple #[.agg (chA (Sip.rowOf sl5) u p), .slice A' T.list.length c']) ∧ Hid (MadeIn w w' u p A' c' t T n) := by
  have HO := Lib.hid h
  have HFI := Lib.hid hf
  have HTB := Lib.hid hT
  have HS := Lib.hid (seed_row sl5 rfl)
  have hn80 : n ≤ 1000 := by have := hf.1; rw [h.len] at this; exact this
  have HB5 := Lib.hid built31_5
  have HQS : Hid (Sip.rowOf sl5 = Sip.rowOf sl5) := rfl
  generalize hqs : Sip.rowOf sl5 = sd at HS HB5 ⊢
  have HQ := Lib.hid hqs
  clear h hf hT hqs HQS
  have hZ : (w.alloc (.cells z38 38)).heap[w.heap.size]? = some (.cells z38 38 (0, 0)) := heap_new w _
  have hB : Below w.heap.size w (w.alloc (.cells z38 38)) := (Below.refl _ _).alloc (Nat.le_refl _) _
  have HZ := Lib.hid hZ
  have HB := Lib.hid hB
  clear hZ hB
  go_enter Tryz.func10, Tryz.ntmps10
  go_upto_region 1 with (fail)
  generalize w.alloc (.cells z38 38) = X at *
  go_wp2_with (refine wpList_run rfl (exec_build 31 _ [(0, .int .u8 5)] rfl rfl HB5.out) ?_)
  refine (chartNew_any sd HS.out X).mono ?_
  rintro e w1 ⟨rfl, hb1⟩
  have HB1 : Hid (Below w.heap.size w w1) := HB.out.trans (hb1.mono HB.out.size)
  have HZ1 : Hid (w1.heap[w.heap.size]? = some (.cells z38 38 (0, 0))) := (hb1.block _ (Array.getElem?_eq_some_iff.1 HZ.out).1).trans HZ.out
  clear hb1
  have HZN : Hid ((w1.alloc (.cells z38 38)).heap[w1.heap.size]? = some (.cells z38 38 (0, 0))) := heap_new w1 _
  go_wp2_with (refine wpList_store_row rfl 38 _ _ rfl w1.heap.size (chA sd .nilIface (.pointer none)) rfl rfl 38 _ HZN.out (size_of info38 (chA_size HS.out.1)) (by rw [chA_size HS.out.1]; rfl) (chA_one HS.out rfl rfl) ?_)
  have hW1 := setRow_heap (w1.alloc (.cells z38 38)) w1.heap.size _ (chA sd .nilIface (.pointer none)) 38 _ HZN.out
  have hM0 : MadeL sd w ((w1.alloc (.cells z38 38)).setRow w1.heap.size (chA sd .nilIface (.pointer none))) w1.heap.size .nilIface (.pointer none) none 0 .none .nil 0 := by
    have hlt := (Array.getElem?_eq_some_iff.1 HZ1.out).1
    exact ⟨hW1, (setRow_other _ _ _ _ (by omega)).trans (heap_old _ HZ1.out), ⟨⟨rfl, rfl⟩, ⟨rfl, fun h => absurd h (Nat.lt_irrefl 0)⟩, Nat.zero_le _, ChOk.nil _ _⟩, below_setRow (HB1.out.alloc HB1.out.size _) HB1.out.size _, hlt⟩
  have HM0 := Lib.hid hM0
  clear hW1 hM0
  generalize hg : w1.heap.size = g at *
  generalize (w1.alloc (.cells z38 38)).setRow g (chA sd .nilIface (.pointer none)) = Y at *
  go_wp2_with fail
  go_loopw [5, 12] (fun x v wr => ∃ (j : Nat) (u p : Value) (A' : Option Addr) (c' : Nat) (t : TT) (T : PT), v = .int .i64 (j : Int) ∧ j ≤ n ∧ x = .slice A' T.list.length c' ∧ Hid (MadeL sd w wr g u p A' c' t T j)) (fun _ v _ => n - (intOf v).toNat)
  case atStart => exact ⟨0, _, _, none, 0, .none, .nil, rfl, by omega, rfl, HM0⟩
  case round =>
    obtain ⟨j, u, p, A', c', t, T, rfl, hj, rfl, hI⟩ := hrel
    have ra38 : wr.rangeAt g 0 (chA sd u p).toList := range_row 0 hI.out.var fun j _ => by rw [Nat.zero_add]
    have in38 := Lib.hid (show (Tryz.prog.info? 38).map (·.size) = some (chA sd u p).toList.length by rw [info38, Array.length_toList, chA_size HS.out.1])
    by_cases hlt : j < n
    · obtain ⟨b, o, rfl, hbl, hc⟩ := HO.out.cell (by omega)
      obtain ⟨kv, xv, c0, c1, c2, hk, hx⟩ := hc j hlt
      have hmem : L.getD j (0, [], []) ∈ L := by
        have hjl : j < L.length := by rw [HO.out.len]; exact hlt
        rw [List.getD_eq_getElem?_getD, List.getElem?_eq_getElem hjl, Option.getD_some]; exact List.getElem_mem hjl
      have hfl := HFI.out.2 _ hmem
      obtain ⟨op, hop⟩ : ∃ op, (L.getD j (0, [], [])).1 = op := ⟨_, rfl⟩
      rw [hop] at c0
      obtain ⟨kl, hkl⟩ : ∃ kl, (L.getD j (0, [], [])).2.1 = kl := ⟨_, rfl⟩
      obtain ⟨xl, hxl⟩ : ∃ xl, (L.getD j (0, [], [])).2.2 = xl := ⟨_, rfl⟩
      rw [hkl] at hk hfl
      rw [hxl] at hx hfl
      have hk2 := (hk.fine (by omega)).imp (S' := fun b => b ≠ w.heap.size ∧ b ≠ g) fun b hlt _ => ⟨by omega, by have := hI.out.far; omega⟩
      have hx2 := (hx.fine (by omega)).imp (S' := fun b => b ≠ w.heap.size ∧ b ≠ g) fun b hlt _ => ⟨by omega, by have := hI.out.far; omega⟩
      obtain ⟨Ak, nk, ck, rfl, _⟩ := hk
      obtain ⟨Ax, nx, cx, rfl, _⟩ := hx
      replace c0 := (hI.out.below.cell (p := ⟨b, o + j * 3, none⟩) hbl).trans c0
      replace c1 := (hI.out.below.cell (p := ⟨b, o + j * 3 + 1, none⟩) hbl).trans c1
      replace c2 := (hI.out.below.cell (p := ⟨b, o + j * 3 + 2, none⟩) hbl).trans c2
      have hbx : Below wr.heap.size wr (wr.alloc (.cells #[.int .i64 op, .slice Ak nk ck, .slice Ax nx cx] 81)) := (Below.refl _ _).alloc (Nat.le_refl _) _
      have hbw := hI.out.below.alloc hI.out.below.size (.cells #[.int .i64 op, .slice Ak nk ck, .slice Ax nx cx] 81)
      have hOI : OIn (fun b => b ≠ w.heap.size ∧ b ≠ g) (wr.alloc (.cells #[.int .i64 op, .slice Ak nk ck, .slice Ax nx cx] 81)) (.agg #[.int .i64 op, .slice Ak nk ck, .slice Ax nx cx]) op kl xl := ⟨_, _, rfl, hk2.below hbw, hx2.below hbw⟩
      have al : (0 : Int) ≤ (j : Int) := by omega
      have al3 : (j : Int) < (n : Int) := by omega
      have hsz : T.size ≤ j + 1 := by have := hI.out.in_.ok.len; rw [PT.size_list] at this; exact this
      have hhe := T.height_le
      have HST := Lib.hid (chStep_any (S := fun b => b ≠ w.heap.size ∧ b ≠ g) none sl5 rfl (j + 1) (j + 1) t T u p (.agg #[.int .i64 op, .slice Ak nk ck, .slice Ax nx cx]) A' c' op kl xl _ 0 0 (HTB.out.below hbw).ch (hI.out.in_.below hbx) hOI (by omega) (by omega) (by omega) (by omega) (fun T' _ h => Nat.le_trans T'.height_le h) (by omega) (by omega))
      rw [HQ.out] at HST
      have ra38' : (wr.alloc (.cells #[.int .i64 op, .slice Ak nk ck, .slice Ax nx cx] 81)).rangeAt g 0 (chA sd u p).toList := fun i v hv => (World.cell?_alloc_lt _ _ _ (by have := (Array.getElem?_eq_some_iff.1 hI.out.var).1; simpa using this)).trans (ra38 i v hv)
      have HBW := Lib.hid hbw
      clear hc hmem hfl hop hOI hbx hk2 hx2 hkl hxl hsz hhe hbw ra38
      go_wp2_with (refine wpList_load_mid rfl 38 _ rfl g 0 (by rfl) (chA sd u p).toList _ ra38' Tryz.underlying38 rfl in38.out ?_)
      refine HST.out.mono ?_
      rintro e w2 ⟨u2, p2, A2, cc2, t2, T2, vi2, co2, rfl, hN, hM⟩
      obtain ⟨tu2, rfl⟩ := hN.at_.ix.ptr
      have hgr := (Array.getElem?_eq_some_iff.1 hI.out.var).1
      have hb2 := hM.kept.to
      have hbw2 := HBW.out.trans (hb2.mono HBW.out.size)
      have HZ6 : Hid (w2.heap[g]? = some (.cells (chA sd u p) 38 (0, 0))) := (hb2.block g (by simp; omega)).trans (heap_old _ hI.out.var)
      have hZ7 : w2.heap[w.heap.size]? = some (.cells z38 38 (0, 0)) := (hb2.block _ (by have := hI.out.far; simp; omega)).trans (heap_old _ hI.out.out)
      have HU2 := Lib.hid hN.at_.tr.one
      have hML : MadeL sd w (w2.setRow g (chA sd u2 (.pointer tu2))) g u2 (.pointer tu2) A2 cc2 t2 T2 (j + 1) := by
        refine ⟨setRow_heap w2 g _ (chA sd u2 (.pointer tu2)) 38 _ HZ6.out, (setRow_other _ _ _ _ (by have := hI.out.far; omega)).trans hZ7, (hN.imp fun b _ hb => ?_).carry (by simp) fun b hb _ => setRow_other _ _ b _ hb.2, below_setRow hbw2 (Nat.le_of_lt hI.out.far) _, hI.out.far⟩
        rcases hb with hb | hb
        · exact hb
        · have := hI.out.far
          simp only [World.size_alloc] at hb
          exact ⟨by omega, by omega⟩
      have HML := Lib.hid hML
      have hpl : (chA sd u p).size = (chA sd u2 (.pointer tu2)).size := by rw [chA_size HS.out.1, chA_size HS.out.1]
      have HPL := Lib.hid hpl
      clear hN hM hgr hb2 hbw2 hZ7 hML c0 c1 c2 ra38' hpl
      go_wp2_with (refine wpList_store_row rfl 38 _ _ rfl g (chA sd u2 (.pointer tu2)) rfl rfl 38 _ HZ6.out (size_of info38 (chA_size HS.out.1)) HPL.out (chA_one HS.out HU2.out rfl) ?_)
      go_roundw
      case rel => exact ⟨j + 1, u2, .pointer tu2, A2, cc2, t2, T2, by go_num, by omega, rfl, HML⟩
      case measure => simp [intOf]; omega
    · obtain rfl : j = n := by omega
      have HZ6 := hI.out.out
      have HWR := setRow_heap wr w.heap.size _ (chA sd u p) 38 _ hI.out.out
      have HU0 := Lib.hid hI.out.in_.at_.tr.one
      obtain ⟨tu, rfl⟩ := hI.out.in_.at_.ix.ptr
      have hI7 := (hI.out.in_.carry (w1 := wr.setRow w.heap.size (chA sd u (.pointer tu))) (by simp) fun b hb _ => setRow_other wr _ b _ hb.1).imp (S' := fun _ => True) fun b _ hb => trivial
      have hB7 := below_setRow hI.out.below (Nat.le_refl _) (chA sd u (.pointer tu))
      have HI7 := Lib.hid (And.intro hI7 hB7)
      have HW := Lib.hid (And.intro HZ6 HWR)
      clear HZ6 HWR hI7 hB7
      go_wp2_with (first
        | (refine wpList_load_mid rfl 38 _ rfl g 0 (by rfl) (chA sd u (.pointer tu)).toList _ ra38 Tryz.underlying38 rfl in38.out ?_)
        | (refine wpList_store_row rfl 38 _ _ rfl w.heap.size (chA sd u (.pointer tu)) rfl rfl 38 _ HW.out.1 (size_of info38 (chA_size HS.out.1)) (by rw [chA_size HS.out.1]; rfl) (chA_one HS.out HU0.out rfl) ?_))
      exact bodyPost_ret (results_ct rfl _ _ ⟨w.heap.size, 0, none⟩ _ (by rfl) (run_loadVar_row _ _ 38 38 _ (0, 0) _ HW.out.2 Tryz.underlying38 rfl (size_of info38 (chA_size HS.out.1)))) rfl ⟨u, .pointer tu, A', c', t, T, rfl, Lib.hid ⟨HI7.out.1, HI7.out.2⟩⟩

end Go.Proofs.YtphjaebkcimklaaGreatDoor
