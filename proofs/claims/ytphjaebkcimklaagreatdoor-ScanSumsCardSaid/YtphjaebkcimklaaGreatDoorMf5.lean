/- Texts put together: FChart FChart2 FChart3 FChart4. -/
import Derived.Test.YtphjaebkcimklaaGreatDoorMf4
import Derived.Test.YtphjaebkcimklaaGreatDoorMsip
import Derived.Deep.MidRow
import Derived.Test.YtphjaebkcimklaaGreatDoorWLast
/- Tries and charts: New. -/
set_option linter.unusedVariables false
set_option linter.unusedSimpArgs false
namespace Go.Proofs.YtphjaebkcimklaaGreatDoor
open Go.RowKit

/-- A seed, as a row. -/
def Seed (sd : Array Value) : Prop := sd.size = 16 ∧ sd.all (·.oneCell') = true
theorem trA_one {sd : Array Value} {u : Value} (h : Seed sd) (hu : u.oneCell' = true) : (trA sd u).all (·.oneCell') = true := by
  unfold trA; rw [Array.all_push, h.2, hu]; rfl
theorem chA_one {sd : Array Value} {u p : Value} (h : Seed sd) (hu : u.oneCell' = true) (hp : p.oneCell' = true) : (chA sd u p).all (·.oneCell') = true := by
  unfold chA; rw [Array.all_push]
  have := trA_one h hu
  unfold trA at this
  rw [this, hp]; rfl
theorem results_ct {fn : Func} {p q : Tmp} {ty : TypeId} (h : fn.results = #[.cell p ty, .tmp q]) (tmps : Array Value) (w : World) (A : Addr) (v : Value)
    (hp : tmps.getD p undef = .pointer (some A)) (hr : (loadVar ty A).run Tryz.prog w = .ok v w) :
    (results fn tmps).run Tryz.prog w = .ok (.tuple #[v, tmps.getD q undef]) w := by
  have hp' : tmps[p]?.getD undef = .pointer (some A) := by simpa using hp
  simp [results, h, hp', asAddr, hr]

theorem size_of {ty n : Nat} {sd : Array Value} (hi : (Tryz.prog.info? ty).map (·.size) = some n) (h : sd.size = n) : (Tryz.prog.info? ty).map (·.size) = some sd.size := by rw [hi, h]

set_option maxRecDepth 100000 in
set_option maxHeartbeats 3200000 in
theorem trieNew_any (sd : Array Value) (hs : Seed sd) (w : World) :
    Calls Tryz.prog 55 #[.agg sd] w fun e w' => e = .returned (.agg (trA sd .nilIface)) ∧ Below w.heap.size w w' := by
  have X0 := heap_new w (.cells sd 31)
  have HX : Hid (((w.alloc (.cells sd 31)).alloc (.cells z35 35)).heap[w.heap.size]? = some (.cells sd 31 (0, 0))) := heap_old _ X0
  have HZ : Hid (((w.alloc (.cells sd 31)).alloc (.cells z35 35)).heap[w.heap.size + 1]? = some (.cells z35 35 (0, 0))) := by
    have := heap_new (w.alloc (.cells sd 31)) (.cells z35 35)
    rw [World.size_alloc] at this
    exact this
  have HB : Hid (Below w.heap.size w ((w.alloc (.cells sd 31)).alloc (.cells z35 35))) := ((Below.refl _ _).alloc (Nat.le_refl _) _).alloc (by simp) _
  have HS := Lib.hid hs
  clear X0 hs
  go_enter Tryz.func55, Tryz.ntmps55
  go_upto_region 1 with (fail)
  generalize (w.alloc (.cells sd 31)).alloc (.cells z35 35) = X at *
  have HB35 := Lib.hid (built35_one sd HS.out.1)
  have HW := Lib.hid (setRow_heap X (w.heap.size + 1) _ (trA sd .nilIface) 35 _ HZ.out)
  have HWB := Lib.hid (below_setRow HB.out (Nat.le_succ _) (trA sd .nilIface))
  go_wp2_with (first
    | (refine wpList_load_row rfl 31 _ rfl w.heap.size (by rfl) 31 sd (0, 0) _ HX.out Tryz.underlying31 rfl (size_of info31 HS.out.1) ?_)
    | (refine wpList_run rfl (exec_build 35 _ [(0, .agg sd)] rfl rfl HB35.out) ?_)
    | (refine wpList_store_row rfl 35 _ _ rfl (w.heap.size + 1) (trA sd .nilIface) rfl rfl 35 _ HZ.out (size_of info35 (trA_size HS.out.1)) (by rw [trA_size HS.out.1]; rfl) (trA_one HS.out rfl) ?_))
  exact bodyPost_ret (results_cell_row rfl _ _ (w.heap.size + 1) 35 _ (0, 0) _ (by rfl) HW.out Tryz.underlying35 rfl (size_of info35 (trA_size HS.out.1))) rfl ⟨rfl, HWB.out⟩

set_option maxRecDepth 100000 in
set_option maxHeartbeats 3200000 in
theorem chartNew_any (sd : Array Value) (hs : Seed sd) (w : World) :
    Calls Tryz.prog 32 #[.agg sd] w fun e w' => e = .returned (.agg (chA sd .nilIface (.pointer none))) ∧ Below w.heap.size w w' := by
  have X0 := heap_new w (.cells sd 31)
  have HX : Hid (((w.alloc (.cells sd 31)).alloc (.cells z38 38)).heap[w.heap.size]? = some (.cells sd 31 (0, 0))) := heap_old _ X0
  have hz : ((w.alloc (.cells sd 31)).alloc (.cells z38 38)).heap[w.heap.size + 1]? = some (.cells z38 38 (0, 0)) := by
    have := heap_new (w.alloc (.cells sd 31)) (.cells z38 38)
    rw [World.size_alloc] at this
    exact this
  have HZ := Lib.hid hz
  have HB : Hid (Below w.heap.size w ((w.alloc (.cells sd 31)).alloc (.cells z38 38))) := ((Below.refl _ _).alloc (Nat.le_refl _) _).alloc (by simp) _
  have HS := Lib.hid hs
  clear X0 hs hz
  go_enter Tryz.func32, Tryz.ntmps32
  go_upto_region 1 with (fail)
  generalize (w.alloc (.cells sd 31)).alloc (.cells z38 38) = X at *
  have HB38 := Lib.hid (built38_one sd .nilIface HS.out.1)
  go_wp2_with (refine wpList_load_row rfl 31 _ rfl w.heap.size (by rfl) 31 sd (0, 0) _ HX.out Tryz.underlying31 rfl (size_of info31 HS.out.1) ?_)
  refine (trieNew_any sd HS.out X).mono ?_
  rintro e Y ⟨rfl, hb⟩
  have HZY : Hid (Y.heap[w.heap.size + 1]? = some (.cells z38 38 (0, 0))) := (hb.block _ (Array.getElem?_eq_some_iff.1 HZ.out).1).trans HZ.out
  have HBY : Hid (Below w.heap.size w Y) := HB.out.trans (hb.mono HB.out.size)
  clear hb
  have HW := Lib.hid (setRow_heap Y (w.heap.size + 1) _ (chA sd .nilIface (.pointer none)) 38 _ HZY.out)
  have HWB := Lib.hid (below_setRow HBY.out (Nat.le_succ _) (chA sd .nilIface (.pointer none)))
  go_wp2_with (first
    | (refine wpList_run rfl (exec_build 38 _ [(0, .agg (trA sd .nilIface))] rfl rfl HB38.out) ?_)
    | (refine wpList_store_row rfl 38 _ _ rfl (w.heap.size + 1) (chA sd .nilIface (.pointer none)) rfl rfl 38 _ HZY.out (size_of info38 (chA_size HS.out.1)) (by rw [chA_size HS.out.1]; rfl) (chA_one HS.out rfl rfl) ?_))
  exact bodyPost_ret (results_cell_row rfl _ _ (w.heap.size + 1) 38 _ (0, 0) _ (by rfl) HW.out Tryz.underlying38 rfl (size_of info38 (chA_size HS.out.1))) rfl ⟨rfl, HWB.out⟩

namespace Sip
theorem hashN_lt (s k : List UInt8) : hashN s k < 2 ^ 64 := by
  unfold hashN endN
  have h := itN_ok ⟨(takeN (eat k (k.length / 8) (beginN s)) (lastN k)).p, (takeN (eat k (k.length / 8) (beginN s)) (lastN k)).q, (takeN (eat k (k.length / 8) (beginN s)) (lastN k)).r ^^^ 255, (takeN (eat k (k.length / 8) (beginN s)) (lastN k)).s⟩ (by
    have := takeN_ok _ _ (eat_ok k (beginN s) (beginN_ok s) (k.length / 8)) (lastN_lt k)
    exact ⟨this.1, this.2.1, xorN_lt this.2.2.1 (by omega), this.2.2.2⟩) 4
  exact Nat.xor_lt_two_pow (Nat.xor_lt_two_pow (Nat.xor_lt_two_pow h.1 h.2.1) h.2.2.1) h.2.2.2
end Sip

/-- What a call on a trie under a seed is given. -/
structure ChH (S : Nat → Prop) (m : Option Nat) (w : World) (vi co : Nat) : Prop where
  put : PutH S m w vi co
  h0 : m ≠ some 0
  sip : Sip.TabOK w
theorem sip_kept {m : Option Nat} {w w1 : World} (h : Sip.TabOK w) (h0 : m ≠ some 0) (hk : Kept m w w1) : Sip.TabOK w1 := by
  have hb := hk.block 0 h.1 h0
  exact ⟨Nat.lt_of_lt_of_le h.1 hk.size, (cell_block hb).trans h.2.1, (cell_block hb).trans h.2.2.1, (cell_block hb).trans h.2.2.2.1, (cell_block hb).trans h.2.2.2.2⟩
theorem ChH.next {S : Nat → Prop} {m : Option Nat} {w w1 : World} {vi co vi1 co1 lo hi : Nat} (h : ChH S m w vi co) (hM : Met m w w1 vi co vi1 co1 lo hi) : ChH S m w1 vi1 co1 :=
  ⟨h.put.next hM, h.h0, sip_kept h.sip h.h0 hM.kept⟩
theorem ChH.below {S : Nat → Prop} {m : Option Nat} {w w1 : World} {vi co : Nat} (h : ChH S m w vi co) (hb : Below w.heap.size w w1) : ChH S m w1 vi co :=
  ⟨h.put.below hb, h.h0, h.sip.below hb⟩
theorem seed_row (sl : Bytes) (h : sl.length = 16) : Seed (Sip.rowOf sl) := ⟨by rw [Sip.rowOf_size, h], Sip.rowOf_one sl⟩
theorem sip_any {S : Nat → Prop} (sl : Bytes) (hl : sl.length = 16) (A : Option Addr) (n c : Nat) (k : Bytes) (w : World) (hT : Sip.TabOK w) (hk : BIn S w (.slice A n c) k) :
    Calls Tryz.prog 76 #[.agg (Sip.rowOf sl), .slice A n c] w fun e w' => e = .returned (.int .u64 ((Sip.hashN sl k : Nat) : Int)) ∧ Below w.heap.size w w' := by
  obtain ⟨A', n', c', he, hc, hr, _⟩ := hk
  cases he
  exact Sip.hash_any sl hl A n c k w hT ⟨hr.len, hr.le, hr.cell⟩ hc.1

theorem ChH.dom {S S' : Nat → Prop} {m : Option Nat} {w : World} {vi co : Nat} (h : ChH S m w vi co) (hS : ∀ b, S' b → S b) : ChH S' m w vi co :=
  ⟨⟨fun b hb => h.put.hS b (hS b hb), h.put.h2, h.put.met, h.put.tab⟩, h.h0, h.sip⟩
theorem Kept.setRow {m : Option Nat} {w w' : World} {b : Nat} (h : Kept m w w') (hb : w.heap.size ≤ b) (cs : Array Value) : Kept m w (w'.setRow b cs) :=
  ⟨h.os, h.tape, h.output, by simpa using h.size, fun b' hlt hne => (setRow_other w' b b' cs (by omega)).trans (h.block b' hlt hne)⟩
theorem Met.setRow {m : Option Nat} {w W : World} {b vi co vi' co' lo hi : Nat} (h : Met m w W vi co vi' co' lo hi) (hb : w.heap.size ≤ b) (hm : m ≠ some b) (cs : Array Value) : Met m w (W.setRow b cs) vi co vi' co' lo hi :=
  ⟨h.kept.setRow hb cs, fun b' e => (setRow_other W b b' cs (fun e2 => hm (e.trans (congrArg some e2)))).trans (h.at_ b' e), h.low, h.high, h.up, h.fit⟩
/-- A trie may be gone through. -/
structure TrH (hs : Bytes → Nat) (N H : Nat) (t : TT) (vi co : Nat) : Prop where
  n : N + 1 ≤ 500000
  h : ∀ T : PT, T.even → T.size ≤ N → T.height ≤ H
  fits : TT.Fits hs 0 t 0
  small : TT.Small N t
  vis : vi + (14 + H) < 1000000
  com : co + (14 + H) < 1000000

/-- What a trie's Put or Delete tells. -/
def TrPut (S : Nat → Prop) (m : Option Nat) (w w' : World) (e : Ending) (sd : Array Value) (t : TT) (vi co hi : Nat) : Prop :=
  ∃ u' r vi' co', e = .returned (.tuple #[.agg (trA sd u'), .bool r]) ∧ TrIn (Up S w.heap.size) w' t u' ∧ Met m w w' vi co vi' co' 0 hi

set_option maxRecDepth 100000 in
set_option maxHeartbeats 3200000 in
theorem triePut_any {S : Nat → Prop} (m : Option Nat) (sl : Bytes) (hsl : sl.length = 16) (N H : Nat) (t : TT) (u : Value) (Ak Ax : Option Addr) (nk ck nx cx : Nat) (key x : Bytes) (w : World) (vi co : Nat) (hP : ChH S m w vi co) (hk : BIn S w (.slice Ak nk ck) key) (hx : BIn S w (.slice Ax nx cx) x) (hT : TrIn S w t u) (hR : TrH (Sip.hashN sl) N H t vi co) :
    Calls Tryz.prog 53 #[.agg (trA (Sip.rowOf sl) u), .agg #[.slice Ak nk ck, .slice Ax nx cx], mV m] w fun e w' => TrPut S m w w' e (Sip.rowOf sl) (TT.put key x (Sip.hashN sl key) t 0) vi co (14 + H) := by
  have HS := Lib.hid (seed_row sl hsl)
  replace hP := hP.dom (S' := fun b => S b ∧ b < w.heap.size) fun b h => h.1
  replace hk := hk.imp (S' := fun b => S b ∧ b < w.heap.size) fun b hlt h => ⟨h, hlt⟩
  replace hx := hx.imp (S' := fun b => S b ∧ b < w.heap.size) fun b hlt h => ⟨h, hlt⟩
  replace hT := hT.imp (S' := fun b => S b ∧ b < w.heap.size) fun b hlt h => ⟨h, hlt⟩
  have hb : Below w.heap.size w (((w.alloc (.cells (trA (Sip.rowOf sl) u) 35)).alloc (.cells #[.slice Ak nk ck, .slice Ax nx cx] 60)).alloc (.cells z35 35)) := (((Below.refl _ _).alloc (Nat.le_refl _) _).alloc (by simp) _).alloc (by simp; omega) _
  have h3 : (((w.alloc (.cells (trA (Sip.rowOf sl) u) 35)).alloc (.cells #[.slice Ak nk ck, .slice Ax nx cx] 60)).alloc (.cells z35 35)).heap[w.heap.size]? = some (.cells (trA (Sip.rowOf sl) u) 35 (0, 0)) := heap_old _ (heap_old _ (heap_new w _))
  have h4 : Two (((w.alloc (.cells (trA (Sip.rowOf sl) u) 35)).alloc (.cells #[.slice Ak nk ck, .slice Ax nx cx] 60)).alloc (.cells z35 35)) (w.heap.size + 1) (.slice Ak nk ck) (.slice Ax nx cx) := by
    have := heap_new (w.alloc (.cells (trA (Sip.rowOf sl) u) 35)) (.cells #[.slice Ak nk ck, .slice Ax nx cx] 60)
    rw [World.size_alloc] at this
    exact heap_old _ this
  have h6 : (((w.alloc (.cells (trA (Sip.rowOf sl) u) 35)).alloc (.cells #[.slice Ak nk ck, .slice Ax nx cx] 60)).alloc (.cells z35 35)).heap[w.heap.size + 1 + 1]? = some (.cells z35 35 (0, 0)) := by
    have := heap_new ((w.alloc (.cells (trA (Sip.rowOf sl) u) 35)).alloc (.cells #[.slice Ak nk ck, .slice Ax nx cx] 60)) (.cells z35 35)
    rw [World.size_alloc, World.size_alloc] at this
    exact this
  go_enter Tryz.func53, Tryz.ntmps53
  go_upto_region 1 with (fail)
  generalize ((w.alloc (.cells (trA (Sip.rowOf sl) u) 35)).alloc (.cells #[.slice Ak nk ck, .slice Ax nx cx] 60)).alloc (.cells z35 35) = X at *
  have HB := Lib.hid hb
  have H3 := Lib.hid h3
  have H4 := Lib.hid h4
  have H6 := Lib.hid h6
  obtain ⟨mu, hmu⟩ : ∃ u, mV m = .pointer u := by cases m <;> exact ⟨_, rfl⟩
  have hml := fun b (e : m = some b) => hP.put.met.lt b e
  have hXC : ∀ W, Kept m X W → W.rangeAt w.heap.size 0 (Sip.rowOf sl).toList ∧ W.cell? ⟨w.heap.size, 16, none⟩ = some u ∧ W.cell? ⟨w.heap.size + 1, 0, none⟩ = some (.slice Ak nk ck) ∧ W.cell? ⟨w.heap.size + 1, 1, none⟩ = some (.slice Ax nx cx) := fun W hW => by
    have hh := (hW.block _ (Array.getElem?_eq_some_iff.1 h3).1 (fun e => by have := hml _ e; omega)).trans h3
    have hh2 : Two W (w.heap.size + 1) (.slice Ak nk ck) (.slice Ax nx cx) := (hW.block _ h4.lt (fun e => by have := hml _ e; omega)).trans h4
    refine ⟨fun j v hj => ?_, (cell_of_row W w.heap.size 16 _ _ _ hh).trans (trA_get HS.out.1), hh2.cells⟩
    rw [Array.getElem?_toList] at hj
    have hj2 := (Array.getElem?_eq_some_iff.1 hj).1
    rw [cell_of_row W w.heap.size (0 + j) _ _ _ hh, trA_sub HS.out.1 j (by have := HS.out.1; omega)]
    exact hj
  have HXC := Lib.hid hXC
  have HHS := Lib.hid (fun W (hW : Below X.heap.size X W) => sip_any sl hsl Ak nk ck key W ((hP.sip.below hb).below hW) ((hk.below hb).below hW))
  have hGP : ∀ W, Below X.heap.size X W → Calls Tryz.prog 75 #[u, .int .u64 ((Sip.hashN sl key : Nat) : Int), .agg #[.slice Ak nk ck, .slice Ax nx cx], mV m] W fun e w' => IntoOut (fun b => S b ∧ b < w.heap.size) m W w' e (TT.put key x (Sip.hashN sl key) t 0) vi co (13 - 0 + 1 + H) := fun W hW => by
    have hP2 := (hP.below hb).below hW
    refine gput_any m (Sip.hashN sl key) _ _ u Ak Ax nk ck nx cx W vi co hP2.put.met hT.one fun W' hW' => ?_
    have hP3 := hP2.below hW'
    exact into_any m (Sip.hashN sl) (Sip.hashN_lt sl) N H hR.n hR.h Ak Ax nk ck nx cx key x t 0 u W' vi co hP3.put (((hk.below hb).below hW).below hW') (((hx.below hb).below hW).below hW') (((hT.below hb).below hW).below hW') hR.fits hR.small (fun i hi => by omega) (by omega) (by have := hR.vis; omega) (by have := hR.com; omega)
  rw [hmu] at hGP ⊢
  have HGP := Lib.hid hGP
  have HP := Lib.hid hP
  have huc : u.cells = #[u] := by
    rcases hT.isIf with rfl | ⟨T, p, rfl⟩ <;> rfl
  have HUC := Lib.hid huc
  have HZR := Lib.hid hT.one
  have HB35 := Lib.hid (fun u' (h : Value.cells u' = #[u']) => built35 (Sip.rowOf sl) u' HS.out.1 h)
  rw [← Array.toArray_toList (xs := Sip.rowOf sl)] at HHS
  have ul31 := Tryz.underlying31
  have in31 : (Tryz.prog.info? 31).map (·.size) = some (Sip.rowOf sl).toList.length := by rw [info31, Array.length_toList, HS.out.1]
  generalize hqh : Sip.hashN sl key = hh at *
  generalize hqs : Sip.rowOf sl = sd at *
  have HQ := Lib.hid (And.intro hqh hqs)
  clear hqh hqs
  clear hml hb h3 h4 h6 hXC hP hk hx hT hR hmu hGP huc
  go_region_held3 (fun W => W.rangeAt w.heap.size 0 sd.toList ∧ W.cell? ⟨w.heap.size, 16, none⟩ = some u ∧ W.cell? ⟨w.heap.size + 1, 0, none⟩ = some (.slice Ak nk ck) ∧ W.cell? ⟨w.heap.size + 1, 1, none⟩ = some (.slice Ax nx cx))
    (first | with_reducible exact HXC.out _ (Kept.of (below_drew2 (Below.refl _ _))) | with_reducible exact HXC.out _ (Kept.of B1.out) | with_reducible exact HXC.out _ K2.out)
    (first
      | (go_at_call 76; (with_reducible refine (HHS.out _ (below_drew2 (Below.refl _ _))).mono ?_); rintro e wa ⟨rfl, hb1⟩
         have B1 : Hid (Below X.heap.size X wa) := below_drew1 hb1
         clear hb1)
      | (go_at_call 75; (with_reducible refine (HGP.out _ B1.out).mono ?_); rintro e wb ⟨u2, r2, vi2, co2, rfl, h21, h22⟩
         have TU := Lib.hid (And.intro h21 h22)
         have K2 : Hid (Kept m X wb) := (Kept.of B1.out).trans h22.kept
         clear h21 h22))
  obtain ⟨hra, hc16, hc0, hc1⟩ := HXC.out wb K2.out
  have hn6 : m ≠ some (w.heap.size + 1 + 1) := fun e => by have := HP.out.put.met.lt _ e; omega
  have HZ6 : Hid (wb.heap[w.heap.size + 1 + 1]? = some (.cells z35 35 (0, 0))) := (K2.out.block _ (Array.getElem?_eq_some_iff.1 H6.out).1 hn6).trans H6.out
  have HU2 := Lib.hid (HB35.out u2 (by rcases TU.out.1.isIf with rfl | ⟨T, p, rfl⟩ <;> rfl))
  have HU3 := Lib.hid TU.out.1.one
  have HW := Lib.hid (setRow_heap wb (w.heap.size + 1 + 1) _ (trA sd u2) 35 _ HZ6.out)
  have HL3 : Hid (∀ j, j < 16 → (sd.toList.toArray)[j]? = sd[j]?) := by rw [Array.toArray_toList]; exact fun j _ => (rfl : sd[j]? = sd[j]?)
  go_wp2_with (first
    | (refine wpList_load_mid rfl 31 _ rfl w.heap.size 0 (by rfl) sd.toList _ hra ul31 rfl in31 ?_)
    | (refine wpList_run rfl (exec_build 35 _ [(0, .agg sd.toList.toArray), (1, u2)] rfl rfl HU2.out) ?_)
    | (refine wpList_store_row rfl 35 _ _ rfl (w.heap.size + 1 + 1) (trA sd u2) rfl rfl 35 _ HZ6.out (size_of info35 (trA_size HS.out.1)) (by rw [trA_size HS.out.1]; rfl) (trA_one HS.out HU3.out) ?_))
  have hsz : w.heap.size + 1 + 1 < wa.heap.size := by have := (Array.getElem?_eq_some_iff.1 H6.out).1; have := B1.out.size; omega
  have HT2 : TrIn (Up S w.heap.size) (wb.setRow (w.heap.size + 1 + 1) (trA sd u2)) (TT.put key x hh t 0) u2 :=
    (TU.out.1.carry (by simp) (fun b hb _ => setRow_other wb _ b _ (by
      rcases hb with hb | hb
      · have := hb.2; omega
      · omega))).imp fun b _ hb => by
        rcases hb with hb | hb
        · exact .inl hb.1
        · exact .inr (by omega)
  have HM2 : Met m w (wb.setRow (w.heap.size + 1 + 1) (trA sd u2)) vi co vi2 co2 0 (14 + H) :=
    (((Met.of HP.out.put.met HB.out).trans ((Met.of (HP.out.put.met.below HB.out) B1.out).trans TU.out.2)).setRow (by omega) hn6 _).wide (by omega) (by omega)
  exact bodyPost_ret (results_ct rfl _ _ ⟨w.heap.size + 1 + 1, 0, none⟩ _ (by rfl) (run_loadVar_row _ _ 35 35 _ (0, 0) _ HW.out Tryz.underlying35 rfl (size_of info35 (trA_size HS.out.1)))) rfl ⟨u2, r2, vi2, co2, by rw [HQ.out.2]; rfl, by rw [HQ.out.1]; exact HT2, HM2⟩

end Go.Proofs.YtphjaebkcimklaaGreatDoor

/- Tries: Delete, Get. -/
set_option linter.unusedVariables false
set_option linter.unusedSimpArgs false
namespace Go.Proofs.YtphjaebkcimklaaGreatDoor
open Go.RowKit

/-- What a trie's Delete tells. -/
def TrDel (S : Nat → Prop) (m : Option Nat) (w w' : World) (e : Ending) (sd : Array Value) (t : TT × Bool) (vi co hi : Nat) : Prop :=
  ∃ u' vi' co', e = .returned (.tuple #[.agg (trA sd u'), .bool t.2]) ∧ TrIn (Up S w.heap.size) w' t.1 u' ∧ Met m w w' vi co vi' co' 0 hi
theorem GotIn.both {n : Nat} {w : World} {e : Ending} {o : Option Bytes} (h : GotIn n w e o) : ∃ v r, e = .returned (.tuple #[v, .bool r]) ∧ ∀ n', n' ≤ n → GotIn n' w (.returned (.tuple #[v, .bool r])) o := by
  cases o with
  | none => exact ⟨_, _, h, fun _ _ => rfl⟩
  | some x =>
    obtain ⟨u, rfl, hu⟩ := h
    exact ⟨u, true, rfl, fun n' hn => ⟨u, rfl, hu.imp fun b _ hb => Nat.le_trans hn hb⟩⟩

set_option maxRecDepth 100000 in
set_option maxHeartbeats 3200000 in
theorem trieDel_any {S : Nat → Prop} (m : Option Nat) (sl : Bytes) (hsl : sl.length = 16) (N H : Nat) (t : TT) (u : Value) (Ak : Option Addr) (nk ck : Nat) (key : Bytes) (w : World) (vi co : Nat) (hP : ChH S m w vi co) (hk : BIn S w (.slice Ak nk ck) key) (hT : TrIn S w t u) (hR : TrH (Sip.hashN sl) N H t vi co) :
    Calls Tryz.prog 81 #[.agg (trA (Sip.rowOf sl) u), .slice Ak nk ck, mV m] w fun e w' => TrDel S m w w' e (Sip.rowOf sl) (TT.del key (Sip.hashN sl key) t 0) vi co (14 + H) := by
  have HS := Lib.hid (seed_row sl hsl)
  replace hP := hP.dom (S' := fun b => S b ∧ b < w.heap.size) fun b h => h.1
  replace hk := hk.imp (S' := fun b => S b ∧ b < w.heap.size) fun b hlt h => ⟨h, hlt⟩
  replace hT := hT.imp (S' := fun b => S b ∧ b < w.heap.size) fun b hlt h => ⟨h, hlt⟩
  have hb : Below w.heap.size w ((w.alloc (.cells (trA (Sip.rowOf sl) u) 35)).alloc (.cells z35 35)) := ((Below.refl _ _).alloc (Nat.le_refl _) _).alloc (by simp) _
  have h3 : ((w.alloc (.cells (trA (Sip.rowOf sl) u) 35)).alloc (.cells z35 35)).heap[w.heap.size]? = some (.cells (trA (Sip.rowOf sl) u) 35 (0, 0)) := heap_old _ (heap_new w _)
  have h6 : ((w.alloc (.cells (trA (Sip.rowOf sl) u) 35)).alloc (.cells z35 35)).heap[w.heap.size + 1]? = some (.cells z35 35 (0, 0)) := by
    have := heap_new (w.alloc (.cells (trA (Sip.rowOf sl) u) 35)) (.cells z35 35)
    rw [World.size_alloc] at this
    exact this
  go_enter Tryz.func81, Tryz.ntmps81
  go_upto_region 1 with (fail)
  generalize (w.alloc (.cells (trA (Sip.rowOf sl) u) 35)).alloc (.cells z35 35) = X at *
  have HB := Lib.hid hb
  have H3 := Lib.hid h3
  have H6 := Lib.hid h6
  obtain ⟨mu, hmu⟩ : ∃ u, mV m = .pointer u := by cases m <;> exact ⟨_, rfl⟩
  have hml := fun b (e : m = some b) => hP.put.met.lt b e
  have hXC : ∀ W, Kept m X W → W.rangeAt w.heap.size 0 (Sip.rowOf sl).toList ∧ W.cell? ⟨w.heap.size, 16, none⟩ = some u := fun W hW => by
    have hh := (hW.block _ (Array.getElem?_eq_some_iff.1 h3).1 (fun e => by have := hml _ e; omega)).trans h3
    refine ⟨fun j v hj => ?_, (cell_of_row W w.heap.size 16 _ _ _ hh).trans (trA_get HS.out.1)⟩
    rw [Array.getElem?_toList] at hj
    have hj2 := (Array.getElem?_eq_some_iff.1 hj).1
    rw [cell_of_row W w.heap.size (0 + j) _ _ _ hh, trA_sub HS.out.1 j (by have := HS.out.1; omega)]
    exact hj
  have HXC := Lib.hid hXC
  have HHS := Lib.hid (fun W (hW : Below X.heap.size X W) => sip_any sl hsl Ak nk ck key W ((hP.sip.below hb).below hW) ((hk.below hb).below hW))
  have hGP : ∀ W, Below X.heap.size X W → Calls Tryz.prog 95 #[u, .int .u64 ((Sip.hashN sl key : Nat) : Int), .slice Ak nk ck, mV m] W fun e w' => FromOut (fun b => S b ∧ b < w.heap.size) m W w' e (TT.del key (Sip.hashN sl key) t 0) vi co (13 - 0 + 1 + H) := fun W hW => by
    have hP2 := (hP.below hb).below hW
    exact gdel_any m (Sip.hashN sl key) _ _ u Ak nk ck W vi co (dfrom_any m (Sip.hashN sl) N H hR.n hR.h Ak nk ck key t 0 u W vi co hP2.put ((hk.below hb).below hW) ((hT.below hb).below hW) hR.fits hR.small (by omega) (by have := hR.vis; omega) (by have := hR.com; omega))
  rw [hmu] at hGP ⊢
  have HGP := Lib.hid hGP
  have HP := Lib.hid hP
  have huc : u.cells = #[u] := by
    rcases hT.isIf with rfl | ⟨T, p, rfl⟩ <;> rfl
  have HUC := Lib.hid huc
  have HZR := Lib.hid hT.one
  have HB35 := Lib.hid (fun u' (h : Value.cells u' = #[u']) => built35 (Sip.rowOf sl) u' HS.out.1 h)
  rw [← Array.toArray_toList (xs := Sip.rowOf sl)] at HHS
  have ul31 := Tryz.underlying31
  have in31 : (Tryz.prog.info? 31).map (·.size) = some (Sip.rowOf sl).toList.length := by rw [info31, Array.length_toList, HS.out.1]
  generalize hqh : Sip.hashN sl key = hh at *
  generalize hqs : Sip.rowOf sl = sd at *
  have HQ := Lib.hid (And.intro hqh hqs)
  clear hqh hqs
  clear hml hb h3 h6 hXC hP hk hT hR hmu hGP huc
  go_region_held3 (fun W => W.rangeAt w.heap.size 0 sd.toList ∧ W.cell? ⟨w.heap.size, 16, none⟩ = some u)
    (first | with_reducible exact HXC.out _ (Kept.of (below_drew2 (Below.refl _ _))) | with_reducible exact HXC.out _ (Kept.of B1.out) | with_reducible exact HXC.out _ K2.out)
    (first
      | (go_at_call 76; (with_reducible refine (HHS.out _ (below_drew2 (Below.refl _ _))).mono ?_); rintro e wa ⟨rfl, hb1⟩
         have B1 : Hid (Below X.heap.size X wa) := below_drew1 hb1
         clear hb1)
      | (go_at_call 95; (with_reducible refine (HGP.out _ B1.out).mono ?_); rintro e wb ⟨u2, vi2, co2, rfl, h21, h22⟩
         have TU := Lib.hid (And.intro h21 h22)
         have K2 : Hid (Kept m X wb) := (Kept.of B1.out).trans h22.kept
         clear h21 h22))
  obtain ⟨hra, hc16⟩ := HXC.out wb K2.out
  have hn6 : m ≠ some (w.heap.size + 1) := fun e => by have := HP.out.put.met.lt _ e; omega
  have HZ6 : Hid (wb.heap[w.heap.size + 1]? = some (.cells z35 35 (0, 0))) := (K2.out.block _ (Array.getElem?_eq_some_iff.1 H6.out).1 hn6).trans H6.out
  have HU2 := Lib.hid (HB35.out u2 (by rcases TU.out.1.isIf with rfl | ⟨T, p, rfl⟩ <;> rfl))
  have HU3 := Lib.hid TU.out.1.one
  have HW := Lib.hid (setRow_heap wb (w.heap.size + 1) _ (trA sd u2) 35 _ HZ6.out)
  have HL3 : Hid (∀ j, j < 16 → (sd.toList.toArray)[j]? = sd[j]?) := by rw [Array.toArray_toList]; exact fun j _ => (rfl : sd[j]? = sd[j]?)
  go_wp2_with (first
    | (refine wpList_load_mid rfl 31 _ rfl w.heap.size 0 (by rfl) sd.toList _ hra ul31 rfl in31 ?_)
    | (refine wpList_run rfl (exec_build 35 _ [(0, .agg sd.toList.toArray), (1, u2)] rfl rfl HU2.out) ?_)
    | (refine wpList_store_row rfl 35 _ _ rfl (w.heap.size + 1) (trA sd u2) rfl rfl 35 _ HZ6.out (size_of info35 (trA_size HS.out.1)) (by rw [trA_size HS.out.1]; rfl) (trA_one HS.out HU3.out) ?_))
  have hsz : w.heap.size + 1 < wa.heap.size := by have := (Array.getElem?_eq_some_iff.1 H6.out).1; have := B1.out.size; omega
  have HT2 : TrIn (Up S w.heap.size) (wb.setRow (w.heap.size + 1) (trA sd u2)) (TT.del key hh t 0).1 u2 :=
    (TU.out.1.carry (by simp) (fun b hb _ => setRow_other wb _ b _ (by
      rcases hb with hb | hb
      · have := hb.2; omega
      · omega))).imp fun b _ hb => by
        rcases hb with hb | hb
        · exact .inl hb.1
        · exact .inr (by omega)
  have HM2 : Met m w (wb.setRow (w.heap.size + 1) (trA sd u2)) vi co vi2 co2 0 (14 + H) :=
    (((Met.of HP.out.put.met HB.out).trans ((Met.of (HP.out.put.met.below HB.out) B1.out).trans TU.out.2)).setRow (by omega) hn6 _).wide (by omega) (by omega)
  exact bodyPost_ret (results_ct rfl _ _ ⟨w.heap.size + 1, 0, none⟩ _ (by rfl) (run_loadVar_row _ _ 35 35 _ (0, 0) _ HW.out Tryz.underlying35 rfl (size_of info35 (trA_size HS.out.1)))) rfl ⟨u2, vi2, co2, by rw [HQ.out.2, HQ.out.1]; rfl, by rw [HQ.out.1]; exact HT2, HM2⟩

set_option maxRecDepth 100000 in
set_option maxHeartbeats 3200000 in
theorem trieGet_any {S : Nat → Prop} (m : Option Nat) (sl : Bytes) (hsl : sl.length = 16) (N H : Nat) (t : TT) (u : Value) (Ak : Option Addr) (nk ck : Nat) (key : Bytes) (w : World) (vi co : Nat) (hP : ChH S m w vi co) (hk : BIn S w (.slice Ak nk ck) key) (hT : TrIn S w t u) (hR : TrH (Sip.hashN sl) N H t vi co) :
    Calls Tryz.prog 79 #[.agg (trA (Sip.rowOf sl) u), .slice Ak nk ck, mV m] w fun e w' => GetOut S m w w' e (TT.look key (Sip.hashN sl key) t 0) vi co (14 + H) := by
  have HS := Lib.hid (seed_row sl hsl)
  have hb : Below w.heap.size w (w.alloc (.cells (trA (Sip.rowOf sl) u) 35)) := (Below.refl _ _).alloc (Nat.le_refl _) _
  have h3 : (w.alloc (.cells (trA (Sip.rowOf sl) u) 35)).heap[w.heap.size]? = some (.cells (trA (Sip.rowOf sl) u) 35 (0, 0)) := heap_new w _
  go_enter Tryz.func79, Tryz.ntmps79
  go_upto_region 1 with (fail)
  generalize w.alloc (.cells (trA (Sip.rowOf sl) u) 35) = X at *
  have HB := Lib.hid hb
  have H3 := Lib.hid h3
  obtain ⟨mu, hmu⟩ : ∃ u, mV m = .pointer u := by cases m <;> exact ⟨_, rfl⟩
  have hml := fun b (e : m = some b) => hP.put.met.lt b e
  have hXC : ∀ W, Kept m X W → W.rangeAt w.heap.size 0 (Sip.rowOf sl).toList ∧ W.cell? ⟨w.heap.size, 16, none⟩ = some u := fun W hW => by
    have hh := (hW.block _ (Array.getElem?_eq_some_iff.1 h3).1 (fun e => by have := hml _ e; omega)).trans h3
    refine ⟨fun j v hj => ?_, (cell_of_row W w.heap.size 16 _ _ _ hh).trans (trA_get HS.out.1)⟩
    rw [Array.getElem?_toList] at hj
    have hj2 := (Array.getElem?_eq_some_iff.1 hj).1
    rw [cell_of_row W w.heap.size (0 + j) _ _ _ hh, trA_sub HS.out.1 j (by have := HS.out.1; omega)]
    exact hj
  have HXC := Lib.hid hXC
  have HHS := Lib.hid (fun W (hW : Below X.heap.size X W) => sip_any sl hsl Ak nk ck key W ((hP.sip.below hb).below hW) ((hk.below hb).below hW))
  have hGP : ∀ W, Below X.heap.size X W → Calls Tryz.prog 93 #[u, .int .u64 ((Sip.hashN sl key : Nat) : Int), .slice Ak nk ck, mV m] W fun e w' => GetOut S m W w' e (TT.look key (Sip.hashN sl key) t 0) vi co (14 + H) := fun W hW => by
    have hP2 := (hP.below hb).below hW
    exact gget_any m (Sip.hashN sl) N H hR.n hR.h t u Ak nk ck key W vi co hP2.put ((hT.below hb).below hW) hR.fits hR.small ((hk.below hb).below hW) hR.vis hR.com
  rw [hmu] at hGP ⊢
  have HGP := Lib.hid hGP
  have HP := Lib.hid hP
  rw [← Array.toArray_toList (xs := Sip.rowOf sl)] at HHS
  have ul31 := Tryz.underlying31
  have in31 : (Tryz.prog.info? 31).map (·.size) = some (Sip.rowOf sl).toList.length := by rw [info31, Array.length_toList, HS.out.1]
  generalize hqh : Sip.hashN sl key = hh at *
  generalize hqs : Sip.rowOf sl = sd at *
  have HQ := Lib.hid (And.intro hqh hqs)
  clear hqh hqs
  clear hml hb h3 hXC hP hk hT hR hmu hGP
  go_region_held3 (fun W => W.rangeAt w.heap.size 0 sd.toList ∧ W.cell? ⟨w.heap.size, 16, none⟩ = some u)
    (first | with_reducible exact HXC.out _ (Kept.of (below_drew2 (Below.refl _ _))) | with_reducible exact HXC.out _ (Kept.of B1.out) | with_reducible exact HXC.out _ K2.out)
    (first
      | (go_at_call 76; (with_reducible refine (HHS.out _ (below_drew2 (Below.refl _ _))).mono ?_); rintro e wa ⟨rfl, hb1⟩
         have B1 : Hid (Below X.heap.size X wa) := below_drew1 hb1
         clear hb1)
      | (go_at_call 93; (with_reducible refine (HGP.out _ B1.out).mono ?_); rintro e wb ⟨vi2, co2, h21, h22⟩
         have K2 : Hid (Kept m X wb) := (Kept.of B1.out).trans h22.kept
         have HME : Hid (Met m w wb vi co vi2 co2 0 (14 + H) ∧ w.heap.size ≤ wa.heap.size) := ⟨((Met.of HP.out.put.met HB.out).trans ((Met.of (HP.out.put.met.below HB.out) B1.out).trans h22)).wide (by omega) (by omega), Nat.le_trans HB.out.size B1.out.size⟩
         obtain ⟨gv, gr, rfl, hgv⟩ := h21.both
         have HGV := Lib.hid hgv
         clear h21 h22 hgv))
  go_wp2_with fail
  go_ret2
  refine ⟨vi2, co2, ?_, HME.out.1⟩
  rw [HQ.out.1]
  exact HGV.out _ HME.out.2

end Go.Proofs.YtphjaebkcimklaaGreatDoor

/- Charts: Len, Index, Put. -/
set_option linter.unusedVariables false
set_option linter.unusedSimpArgs false
namespace Go.Proofs.YtphjaebkcimklaaGreatDoor
open Go.RowKit

theorem range_row {W : World} {g t : Nat} {cs sub : Array Value} {fr : Nat × Nat} (o : Nat) (h : W.heap[g]? = some (.cells cs t fr)) (hs : ∀ j, j < sub.size → cs[o + j]? = sub[j]?) : W.rangeAt g o sub.toList := fun j v hj => by
  rw [Array.getElem?_toList] at hj
  have hj2 := (Array.getElem?_eq_some_iff.1 hj).1
  rw [cell_of_row W g (o + j) _ _ _ h, hs j hj2, hj]

set_option maxRecDepth 100000 in
set_option maxHeartbeats 1600000 in
theorem chLen_any {S : Nat → Prop} (sd : Array Value) (hs : Seed sd) (u p : Value) (T : PT) (w : World) (hT : TIn S w p T) :
    Calls Tryz.prog 29 #[.agg (chA sd u p)] w fun e w' => e = .returned (.int .i64 (T.size : Int)) ∧ Below w.heap.size w w' := by
  have hb : Below w.heap.size w (w.alloc (.cells (chA sd u p) 38)) := (Below.refl _ _).alloc (Nat.le_refl _) _
  have h3 : (w.alloc (.cells (chA sd u p) 38)).heap[w.heap.size]? = some (.cells (chA sd u p) 38 (0, 0)) := heap_new w _
  have c17 := (cell_of_row _ w.heap.size 17 _ _ _ h3).trans (chA_get hs.1).2
  obtain ⟨tu, rfl⟩ := hT.ptr
  have HS := Lib.hid (tsize_any T (.pointer tu) _ (hT.below hb))
  have HB := Lib.hid hb
  clear hb h3 hT
  go_enter Tryz.func29, Tryz.ntmps29
  go_upto_region 1 with (fail)
  generalize w.alloc (.cells (chA sd u (.pointer tu)) 38) = X at *
  go_wp2_with fail
  refine HS.out.mono ?_
  rintro e w1 ⟨rfl, hw1⟩
  rw [← hw1]
  clear hw1 w1
  go_wp2_with fail
  go_ret
  exact ⟨rfl, HB.out⟩
set_option maxRecDepth 100000 in
set_option maxHeartbeats 1600000 in
theorem chIndex_any (sd : Array Value) (hs : Seed sd) (u p : Value) (w : World) :
    Calls Tryz.prog 37 #[.agg (chA sd u p)] w fun e w' => e = .returned p ∧ Below w.heap.size w w' := by
  have hb : Below w.heap.size w (w.alloc (.cells (chA sd u p) 38)) := (Below.refl _ _).alloc (Nat.le_refl _) _
  have h3 : (w.alloc (.cells (chA sd u p) 38)).heap[w.heap.size]? = some (.cells (chA sd u p) 38 (0, 0)) := heap_new w _
  have c17 := (cell_of_row _ w.heap.size 17 _ _ _ h3).trans (chA_get hs.1).2
  have HB := Lib.hid hb
  clear hb h3
  go_enter Tryz.func37, Tryz.ntmps37
  go_upto_region 1 with (fail)
  generalize w.alloc (.cells (chA sd u p) 38) = X at *
  go_wp2_with fail
  go_ret
  exact ⟨rfl, HB.out⟩
set_option maxRecDepth 100000 in
set_option maxHeartbeats 1600000 in
theorem check_any {S : Nat → Prop} (Ak Ax : Option Addr) (nk ck nx cx : Nat) (key x : Bytes) (w : World) (hk : BIn S w (.slice Ak nk ck) key) (hx : BIn S w (.slice Ax nx cx) x) (hk1 : key.length ≤ 65536) (hx1 : x.length ≤ 65536) :
    Calls Tryz.prog 74 #[.agg #[.slice Ak nk ck, .slice Ax nx cx]] w fun e w' => e = .returned (.int .i64 0) ∧ Below w.heap.size w w' := by
  have h1 : ¬ (65536 : Int) < (nk : Int) := by obtain ⟨_, _, _, he, _, hr, _⟩ := hk; cases he; have := hr.len; omega
  have h2 : ¬ (65536 : Int) < (nx : Int) := by obtain ⟨_, _, _, he, _, hr, _⟩ := hx; cases he; have := hr.len; omega
  have HB := Lib.hid ((Below.refl _ w).alloc (Nat.le_refl _) (.cells #[.slice Ak nk ck, .slice Ax nx cx] 60))
  clear hk hx
  go_enter Tryz.func74, Tryz.ntmps74
  go_wp2_with fail
  go_ret
  exact ⟨rfl, HB.out⟩

end Go.Proofs.YtphjaebkcimklaaGreatDoor

/- Charts: Put. -/
set_option linter.unusedVariables false
set_option linter.unusedSimpArgs false
namespace Go.Proofs.YtphjaebkcimklaaGreatDoor
open Go.RowKit
open Go.Proofs.YtphjaebkcimklaaGreatDoorW.PrintLast

/-- A chart, as it lies: a trie and a tree. -/
structure ChAt (S : Nat → Prop) (w : World) (u p : Value) (t : TT) (T : PT) : Prop where
  tr : TrIn S w t u
  ix : TIn S w p T
/-- What a chart's Put and Delete tell. -/
def ChPut (S : Nat → Prop) (m : Option Nat) (w w' : World) (e : Ending) (sd : Array Value) (t : TT) (L : Pairs) (vi co hi : Nat) : Prop :=
  ∃ u' p' T' vi' co', e = .returned (.tuple #[.agg (chA sd u' p'), .int .i64 0]) ∧ ChAt (Up S w.heap.size) w' u' p' t T' ∧ T'.list = L ∧ T'.even ∧ Met m w w' vi co vi' co' 0 hi

set_option maxRecDepth 100000 in
set_option maxHeartbeats 6400000 in
theorem chPut_any {S : Nat → Prop} (m : Option Nat) (sl : Bytes) (hsl : sl.length = 16) (N H : Nat) (t : TT) (T : PT) (u p : Value) (Ak Ax : Option Addr) (nk ck nx cx : Nat) (key x : Bytes) (w : World) (vi co : Nat) (hP : ChH S m w vi co) (hk : BIn S w (.slice Ak nk ck) key) (hx : BIn S w (.slice Ax nx cx) x) (hC : ChAt S w u p t T) (hR : TrH (Sip.hashN sl) N H t vi co) (hk1 : key.length ≤ 65536) (hx1 : x.length ≤ 65536)
    (hev : T.even) (hn : T.size + 1 ≤ 500000) (hv : vi + (14 + H) + T.height < 1000000) (hco : co + (14 + H) + T.height < 1000000) :
    Calls Tryz.prog 57 #[.agg (chA (Sip.rowOf sl) u p), .agg #[.slice Ak nk ck, .slice Ax nx cx], mV m] w fun e w' => ChPut S m w w' e (Sip.rowOf sl) (TT.put key x (Sip.hashN sl key) t 0) (T.putL key x) vi co (14 + H + T.height) := by
  have HS := Lib.hid (seed_row sl hsl)
  replace hP := hP.dom (S' := fun b => S b ∧ b < w.heap.size) fun b h => h.1
  replace hk := hk.imp (S' := fun b => S b ∧ b < w.heap.size) fun b hlt h => ⟨h, hlt⟩
  replace hx := hx.imp (S' := fun b => S b ∧ b < w.heap.size) fun b hlt h => ⟨h, hlt⟩
  have hT := hC.tr.imp (S' := fun b => S b ∧ b < w.heap.size) fun b hlt h => ⟨h, hlt⟩
  have hI := hC.ix.imp (S' := fun b => S b ∧ b < w.heap.size) fun b hlt h => ⟨h, hlt⟩
  obtain ⟨tu, rfl⟩ := hI.ptr
  have hb : Below w.heap.size w (((w.alloc (.cells (chA (Sip.rowOf sl) u (.pointer tu)) 38)).alloc (.cells #[.slice Ak nk ck, .slice Ax nx cx] 60)).alloc (.cells z38 38)) := (((Below.refl _ _).alloc (Nat.le_refl _) _).alloc (by simp) _).alloc (by simp; omega) _
  have h3 : (((w.alloc (.cells (chA (Sip.rowOf sl) u (.pointer tu)) 38)).alloc (.cells #[.slice Ak nk ck, .slice Ax nx cx] 60)).alloc (.cells z38 38)).heap[w.heap.size]? = some (.cells (chA (Sip.rowOf sl) u (.pointer tu)) 38 (0, 0)) := heap_old _ (heap_old _ (heap_new w _))
  have h4 : Two (((w.alloc (.cells (chA (Sip.rowOf sl) u (.pointer tu)) 38)).alloc (.cells #[.slice Ak nk ck, .slice Ax nx cx] 60)).alloc (.cells z38 38)) (w.heap.size + 1) (.slice Ak nk ck) (.slice Ax nx cx) := by
    have := heap_new (w.alloc (.cells (chA (Sip.rowOf sl) u (.pointer tu)) 38)) (.cells #[.slice Ak nk ck, .slice Ax nx cx] 60)
    rw [World.size_alloc] at this
    exact heap_old _ this
  have h6 : (((w.alloc (.cells (chA (Sip.rowOf sl) u (.pointer tu)) 38)).alloc (.cells #[.slice Ak nk ck, .slice Ax nx cx] 60)).alloc (.cells z38 38)).heap[w.heap.size + 1 + 1]? = some (.cells z38 38 (0, 0)) := by
    have := heap_new ((w.alloc (.cells (chA (Sip.rowOf sl) u (.pointer tu)) 38)).alloc (.cells #[.slice Ak nk ck, .slice Ax nx cx] 60)) (.cells z38 38)
    rw [World.size_alloc, World.size_alloc] at this
    exact this
  go_enter Tryz.func57, Tryz.ntmps57
  go_upto_region 1 with (fail)
  generalize ((w.alloc (.cells (chA (Sip.rowOf sl) u (.pointer tu)) 38)).alloc (.cells #[.slice Ak nk ck, .slice Ax nx cx] 60)).alloc (.cells z38 38) = X at *
  have HB := Lib.hid hb
  have H3 := Lib.hid h3
  have H4 := Lib.hid h4
  have H6 := Lib.hid h6
  obtain ⟨mu, hmu⟩ : ∃ u, mV m = .pointer u := by cases m <;> exact ⟨_, rfl⟩
  have hml := fun b (e : m = some b) => hP.put.met.lt b e
  -- what the walk reads of its own, in each world that keeps all but the meter
  have HXC : Hid (∀ W, Kept m X W → (W.rangeAt w.heap.size 0 (chA (Sip.rowOf sl) u (.pointer tu)).toList ∧ W.rangeAt w.heap.size 0 (trA (Sip.rowOf sl) u).toList) ∧ W.cell? ⟨w.heap.size, 17, none⟩ = some (.pointer tu) ∧ (W.cell? ⟨w.heap.size + 1, 0, none⟩ = some (.slice Ak nk ck) ∧ W.cell? ⟨w.heap.size + 1, 1, none⟩ = some (.slice Ax nx cx)) ∧ W.heap[w.heap.size + 1 + 1]? = some (.cells z38 38 (0, 0))) := fun W hW => by
    have hh := (hW.block _ (Array.getElem?_eq_some_iff.1 h3).1 (fun e => by have := hml _ e; omega)).trans h3
    have hh2 : Two W (w.heap.size + 1) (.slice Ak nk ck) (.slice Ax nx cx) := (hW.block _ h4.lt (fun e => by have := hml _ e; omega)).trans h4
    refine ⟨⟨range_row 0 hh fun j _ => by rw [Nat.zero_add], range_row 0 hh fun j hj => chA_sub HS.out.1 j (by rw [trA_size HS.out.1] at hj; exact hj)⟩, (cell_of_row W w.heap.size 17 _ _ _ hh).trans (chA_get HS.out.1).2, hh2.cells, (hW.block _ (Array.getElem?_eq_some_iff.1 h6).1 (fun e => by have := hml _ e; omega)).trans h6⟩
  have HP := Lib.hid hP
  have HKX := Lib.hid (And.intro hk hx)
  have HT := Lib.hid (And.intro hT hI)
  have HCK := Lib.hid (check_any Ak Ax nk ck nx cx key x X (hk.below hb) (hx.below hb) hk1 hx1)
  have HLN := Lib.hid (fun W (hW : Below X.heap.size X W) => chLen_any (Sip.rowOf sl) HS.out u (.pointer tu) T W ((hI.below hb).below hW))
  have hGP : ∀ W, Below X.heap.size X W → Calls Tryz.prog 53 #[.agg (trA (Sip.rowOf sl) u), .agg #[.slice Ak nk ck, .slice Ax nx cx], mV m] W fun e w' => TrPut (fun b => S b ∧ b < w.heap.size) m W w' e (Sip.rowOf sl) (TT.put key x (Sip.hashN sl key) t 0) vi co (14 + H) := fun W hW =>
    triePut_any m sl hsl N H t u Ak Ax nk ck nx cx key x W vi co ((hP.below hb).below hW) ((hk.below hb).below hW) ((hx.below hb).below hW) ((hT.below hb).below hW) hR
  have hPU : ∀ W vi' co', (vi' + T.height < 1000000 ∧ co' + T.height < 1000000) → Kept m X W → MAt m W vi' co' → Calls Tryz.prog 80 #[.pointer tu, .agg #[.slice Ak nk ck, .slice Ax nx cx], mV m] W fun e w' => MadeM (fun b => S b ∧ b < w.heap.size) m W w' e (T.putL key x) vi' co' (min 1 T.size) T.height := fun W vi' co' hvc hW hM =>
    Put_any m hP.put.hS key x T (.pointer tu) (.agg #[.slice Ak nk ck, .slice Ax nx cx]) vi' co' W ((hI.below hb).kept hW hP.put.hS) ⟨_, _, rfl, (hk.below hb).kept hW hP.put.hS, (hx.below hb).kept hW hP.put.hS⟩ hM hev hn hvc.1 hvc.2
  rw [hmu] at hGP hPU ⊢
  have HGP := Lib.hid hGP
  have HPU := Lib.hid hPU
  have hsm : ¬ (1048576 : Int) ≤ (T.size : Int) := by omega
  have HMS := Lib.hid hml
  generalize (T.size : Int) = ts at HLN hsm
  have hs1 : decide ((1048576 : Int) ≤ ts) = false := by simpa using hsm
  clear hsm
  have in35 : (Tryz.prog.info? 35).map (·.size) = some (trA (Sip.rowOf sl) u).toList.length := by rw [info35, Array.length_toList, trA_size HS.out.1]
  have in38 : (Tryz.prog.info? 38).map (·.size) = some (chA (Sip.rowOf sl) u (.pointer tu)).toList.length := by rw [info38, Array.length_toList, chA_size HS.out.1]
  have HIN := Lib.hid (And.intro in35 in38)
  have HB38 := Lib.hid (fun u' p' (h : Value.cells p' = #[p']) => built38 (Sip.rowOf sl) u' p' HS.out.1 h)
  generalize hqh : Sip.hashN sl key = hh at *
  generalize hqs : Sip.rowOf sl = sd at *
  have HQ := Lib.hid (And.intro hqh hqs)
  obtain ⟨c0, c1⟩ := h4.cells
  have HVC : Hid (∀ vi' co', vi' ≤ vi + (14 + H) → co' + vi ≤ co + vi' → vi' + T.height < 1000000 ∧ co' + T.height < 1000000) := fun _ _ _ _ => ⟨by omega, by omega⟩
  clear hqh hqs hml hb h3 h4 h6 hP hk hx hT hI hC hR hmu hGP hPU in35 in38
  go_wp2_with fail
  refine HCK.out.mono ?_
  rintro e w1 ⟨rfl, hb1⟩
  have HB1 := Lib.hid hb1
  clear c0 c1 hb1
  obtain ⟨⟨ra38, ra35⟩, c17, ⟨c0, c1⟩, _⟩ := HXC.out w1 (Kept.of HB1.out)
  go_wp2_with (refine wpList_load_mid rfl 38 _ rfl w.heap.size 0 (by rfl) (chA sd u (.pointer tu)).toList _ ra38 Tryz.underlying38 rfl HIN.out.2 ?_)
  refine (HLN.out w1 HB1.out).mono ?_
  rintro e w2 ⟨rfl, hb2⟩
  have HB2 : Hid (Below X.heap.size X w2) := HB1.out.trans (hb2.mono HB1.out.size)
  clear c0 c1 c17 hb2 ra38 ra35
  obtain ⟨⟨ra38, ra35⟩, c17, ⟨c0, c1⟩, _⟩ := HXC.out w2 (Kept.of HB2.out)
  go_wp2_with (refine wpList_load_mid rfl 35 _ rfl w.heap.size 0 (by rfl) (trA sd u).toList _ ra35 Tryz.underlying35 rfl HIN.out.1 ?_)
  refine (HGP.out w2 HB2.out).mono ?_
  rintro e w3 ⟨u3, r3, vi3, co3, rfl, h31, h32⟩
  have HU3 := Lib.hid h31.one
  have HZN : Hid ((w3.alloc (.cells z35 35)).heap[w3.heap.size]? = some (.cells z35 35 (0, 0))) := heap_new w3 _
  go_wp2_with (refine wpList_store_row rfl 35 _ _ rfl w3.heap.size (trA sd u3) rfl rfl 35 _ HZN.out (size_of info35 (trA_size HS.out.1)) (by rw [trA_size HS.out.1]; rfl) (trA_one HS.out HU3.out) ?_)
  have hW3 := setRow_heap (w3.alloc (.cells z35 35)) w3.heap.size _ (trA sd u3) 35 _ HZN.out
  have hKN : Kept m X ((w3.alloc (.cells z35 35)).setRow w3.heap.size (trA sd u3)) :=
    ((Kept.of HB2.out).trans h32.kept).trans ((Kept.of ((Below.refl _ w3).alloc (Nat.le_refl _) _)).setRow (Nat.le_refl _) _)
  have hmN : m ≠ some w3.heap.size := fun e => by have := h32.at_.lt _ e; omega
  have hMN : Met m w ((w3.alloc (.cells z35 35)).setRow w3.heap.size (trA sd u3)) vi co vi3 co3 0 (14 + H) :=
    ((((Met.of HP.out.put.met HB.out).trans ((Met.of (HP.out.put.met.below HB.out) HB2.out).trans h32)).trans (Met.of h32.at_ ((Below.refl _ w3).alloc (Nat.le_refl _) _))).setRow (by have := HB.out.size; have := HB2.out.size; have := h32.kept.size; omega) hmN _).wide (by omega) (by omega)
  have hT3 : TrIn (fun b => Up (fun b => S b ∧ b < w.heap.size) w2.heap.size b ∧ b < w3.heap.size) ((w3.alloc (.cells z35 35)).setRow w3.heap.size (trA sd u3)) (TT.put key x hh t 0) u3 :=
    (h31.imp (S' := fun b => Up (fun b => S b ∧ b < w.heap.size) w2.heap.size b ∧ b < w3.heap.size) fun b hlt h => ⟨h, hlt⟩).carry (by simp) fun b hb hlt => (setRow_other _ _ b _ (by omega)).trans (Below.heap_alloc w3 _ b hlt)
  have HT3Y := Lib.hid hT3
  have HKN := Lib.hid hKN
  have HMN := Lib.hid (And.intro hMN hmN)
  have HW3 := Lib.hid hW3
  have HG3 : Hid (w2.heap.size ≤ w3.heap.size ∧ X.heap.size ≤ w2.heap.size) := ⟨h32.kept.size, HB2.out.size⟩
  clear hT3 h31 h32 hW3 hKN hMN hmN c0 c1 c17 ra38 ra35
  generalize hgn : w3.heap.size = gn at *
  generalize (w3.alloc (.cells z35 35)).setRow gn (trA sd u3) = Y at *
  have hl3 : (trA sd u3).toList.length = 17 := by rw [Array.length_toList, trA_size HS.out.1]
  have ul35 := Tryz.underlying35
  have in35 : (Tryz.prog.info? 35).map (·.size) = some (trA sd u3).toList.length := by rw [hl3]; exact info35
  have HSC : Hid (∀ W, Kept m Y W → W.rangeAt gn 0 (trA sd u3).toList ∧ W.cell? ⟨w.heap.size, 17, none⟩ = some (.pointer tu) ∧ W.cell? ⟨w.heap.size + 1, 0, none⟩ = some (.slice Ak nk ck) ∧ W.cell? ⟨w.heap.size + 1, 1, none⟩ = some (.slice Ax nx cx)) := fun W hW => by
    obtain ⟨_, h2, h3, _⟩ := HXC.out W (HKN.out.trans hW)
    have hh := (hW.block _ (Array.getElem?_eq_some_iff.1 HW3.out).1 (HMN.out.2)).trans HW3.out
    exact ⟨range_row 0 hh fun j _ => by rw [Nat.zero_add], h2, h3⟩
  clear hl3
  refine start_ (n := 9) (S := fun w' => w'.rangeAt gn 0 (trA sd u3).toList ∧ w'.cell? ⟨w.heap.size, 17, none⟩ = some (.pointer tu) ∧ w'.cell? ⟨w.heap.size + 1, 0, none⟩ = some (.slice Ak nk ck) ∧ w'.cell? ⟨w.heap.size + 1, 1, none⟩ = some (.slice Ax nx cx)) (ds := [7, 8]) #[false, false, false, false, false, false, false, false, false] (by kernel_rfl) rfl rfl (HSC.out _ (Kept.of (below_drew2 (Below.refl _ _)))) (fun hHeld => ?_)
  refine take_ (i := 0) (N := some 41) (v := .agg (trA sd u3)) (a' := ?aa1) #[true, false, false, false, false, false, false, false, false] rfl rfl (by kernel_rfl) (fun _ _ _ h => h) (yieldsIf_load_mid rfl 35 (.tmp 11) rfl gn 0 rfl (trA sd u3).toList _ (fun _ h => h.1) ul35 rfl in35) hHeld ?ha1 ?_
  case ha1 =>
    simp only [Act.put, List.setIfInBounds_toArray, List.set_cons_zero, List.set_cons_succ]
    rfl
  refine pure_ (i := 1) (N := some 42) (v := ?vv2) (a' := ?aa2) #[true, true, false, false, false, false, false, false, false] rfl rfl (by kernel_rfl) (fun _ _ _ h => h) (Or.inl ⟨by rfl, ?hy2⟩) ?ha2 ?hn2
  case hy2 =>
    intro w'
    go_simp
    with_reducible rfl
  case ha2 =>
    simp only [Act.put, List.setIfInBounds_toArray, List.set_cons_zero, List.set_cons_succ]
    rfl
  refine take_ (i := 2) (N := some 43) (v := .pointer tu) (a' := ?aa3) #[true, true, true, false, false, false, false, false, false] rfl rfl (by kernel_rfl) (fun _ _ _ h => h) (Or.inl ⟨by rfl, ?hy3⟩) hHeld ?ha3 ?hn3
  case hy3 =>
    rintro w' ⟨h1_, h2_, h3_, h4_⟩
    go_simp
  case ha3 =>
    simp only [Act.put, List.setIfInBounds_toArray, List.set_cons_zero, List.set_cons_succ]
    rfl
  refine take_ (i := 3) (N := some 44) (v := .agg #[.slice Ak nk ck, .slice Ax nx cx]) (a' := ?aa4) #[true, true, true, true, false, false, false, false, false] rfl rfl (by kernel_rfl) (fun _ _ _ h => h) (Or.inl ⟨by rfl, ?hy4⟩) hHeld ?ha4 ?hn4
  case hy4 =>
    rintro w' ⟨h1_, h2_, h3_, h4_⟩
    go_simp
  case ha4 =>
    simp only [Act.put, List.setIfInBounds_toArray, List.set_cons_zero, List.set_cons_succ]
    rfl
  refine pure_ (i := 4) (N := some 45) (v := ?vv5) (a' := ?aa5) #[true, true, true, true, true, false, false, false, false] rfl rfl (by kernel_rfl) (fun _ _ _ h => h) (Or.inl ⟨by rfl, ?hy5⟩) ?ha5 ?hn5
  case hy5 =>
    intro w'
    go_simp
    with_reducible rfl
  case ha5 =>
    simp only [Act.put, List.setIfInBounds_toArray, List.set_cons_zero, List.set_cons_succ]
    rfl
  refine one_ (i := 5) (N := some 46) #[true, true, true, true, true, true, false, false, false] rfl rfl (by kernel_rfl) (by decide) (fun K hK => ?_)
  refine goes_ Tryz.func80 (by kernel_rfl) rfl #[.pointer tu, .agg #[.slice Ak nk ck, .slice Ax nx cx], .pointer mu] (by rfl) rfl rfl (by simp only [List.map_toArray, List.map_cons, List.map_nil]; rfl) ?_
  refine (HPU.out _ vi3 co3 (HVC.out _ _ HMN.out.1.high HMN.out.1.fit) (HKN.out.trans (Kept.of (below_drew2 (Below.refl _ _)))) (HMN.out.1.at_.below (below_drew2 (Below.refl _ _)))).mono ?_
  rintro e w5 ⟨v5, T5, vi5, co5, rfl, hl5, he5, ht5, h5⟩
  have K5 : Hid (Kept m Y w5) := (Kept.of (below_drew2 (Below.refl _ _))).trans h5.kept
  have HE5 := Lib.hid (And.intro hl5 he5)
  have HT5 : Hid (TIn (Up (fun b => S b ∧ b < w.heap.size) Y.heap.size) w5 (.pointer v5) T5) := ht5
  have HM5 : Hid (Met m w w5 vi co vi5 co5 0 (14 + H + T.height)) := (HMN.out.1.trans ((Met.of HMN.out.1.at_ (below_drew2 (Below.refl _ _))).trans h5)).wide (by omega) (by omega)
  clear hl5 he5 ht5 h5
  refine ⟨_, rfl, hK.out _ _ (HSC.out _ K5.out) (fun hHeld => ?_)⟩
  simp only [Act.put, List.setIfInBounds_toArray, List.set_cons_zero, List.set_cons_succ]
  refine one_ (i := 6) (N := some 47) #[true, true, true, true, true, true, true, false, false] rfl rfl (by kernel_rfl) (by decide) (fun K hK => ?_)
  refine value_ (w1 := w5) (v := .agg (chA sd u3 (.pointer v5))) (by rfl) rfl (exec_build 38 _ [(0, .agg (trA sd u3)), (1, .pointer v5)] rfl rfl (HB38.out u3 (.pointer v5) rfl)) ?_
  refine hK.out _ _ hHeld (fun hHeld => ?_)
  simp only [Act.put, List.setIfInBounds_toArray, List.set_cons_zero, List.set_cons_succ]
  refine last_ (i := 7) (N := none) #[true, true, true, true, true, true, true, true, false] rfl rfl (by kernel_rfl) (by decide) (fun K hK => ?_)
  have hn6 : m ≠ some (w.heap.size + 1 + 1) := fun e => by have := HMS.out _ e; omega
  have HZ6 : Hid (w5.heap[w.heap.size + 1 + 1]? = some (.cells z38 38 (0, 0))) := ((HKN.out.trans K5.out).block _ (Array.getElem?_eq_some_iff.1 H6.out).1 hn6).trans H6.out
  have HW := Lib.hid (setRow_heap w5 (w.heap.size + 1 + 1) _ (chA sd u3 (.pointer v5)) 38 _ HZ6.out)
  refine step_skip (w1 := w5.setRow (w.heap.size + 1 + 1) (chA sd u3 (.pointer v5))) rfl (exec_store 38 (.tmp 6) (.tmp 47) rfl rfl (run_storeVar_row w5 (w.heap.size + 1 + 1) 38 38 _ _ HZ6.out (size_of info38 (chA_size HS.out.1)) (by rw [chA_size HS.out.1]; rfl) (chA_one HS.out HU3.out rfl))) ?_
  refine hK.out _ _ ?_
  simp only [Act.put, List.setIfInBounds_toArray, List.set_cons_zero, List.set_cons_succ]
  refine last_ (i := 8) (N := some 7) #[true, true, true, true, true, true, true, true, true] rfl rfl (by kernel_rfl) (by decide) (fun K hK => ?_)
  refine value_ (w1 := w5.setRow (w.heap.size + 1 + 1) (chA sd u3 (.pointer v5))) (v := .int .i64 0) (by rfl) rfl (by rfl) ?_
  refine hK.out _ _ ?_
  simp only [Act.put, List.setIfInBounds_toArray, List.set_cons_zero, List.set_cons_succ]
  refine done_ (by kernel_rfl) ?_
  have hgs := HG3.out
  have hxs := HB.out.size
  have hks := K5.out.size
  have hyg := (Array.getElem?_eq_some_iff.1 HW3.out).1
  have hg2 : w.heap.size + 1 + 1 < X.heap.size := (Array.getElem?_eq_some_iff.1 H6.out).1
  have HM7 : Met m w (w5.setRow (w.heap.size + 1 + 1) (chA sd u3 (.pointer v5))) vi co vi5 co5 0 (14 + H + T.height) := HM5.out.setRow (by omega) hn6 _
  have hT7 : TrIn (Up S w.heap.size) (w5.setRow (w.heap.size + 1 + 1) (chA sd u3 (.pointer v5))) (TT.put key x hh t 0) u3 := by
    refine ((HT3Y.out.kept K5.out ?_).carry (by simp) (fun b hb _ => setRow_other w5 _ b _ ?_)).imp ?_
    · intro b hb e
      rcases hb.1 with hb | hb
      · exact HP.out.put.hS b hb e
      · have := HMS.out b e; omega
    · rcases hb.1 with hb | hb
      · have := hb.2; omega
      · omega
    · intro b _ hb
      rcases hb.1 with hb | hb
      · exact .inl hb.1
      · exact .inr (by omega)
  have hI7 : TIn (Up S w.heap.size) (w5.setRow (w.heap.size + 1 + 1) (chA sd u3 (.pointer v5))) (.pointer v5) T5 :=
    (HT5.out.carry (by simp) (fun b hb _ => setRow_other w5 _ b _ (by
      rcases hb with hb | hb
      · have := hb.2; omega
      · omega))).imp fun b _ hb => by
        rcases hb with hb | hb
        · exact .inl hb.1
        · exact .inr (by omega)
  go_wp2_with fail
  exact bodyPost_ret (results_ct rfl _ _ ⟨w.heap.size + 1 + 1, 0, none⟩ _ (by rfl) (run_loadVar_row _ _ 38 38 _ (0, 0) _ HW.out Tryz.underlying38 rfl (size_of info38 (chA_size HS.out.1)))) rfl ⟨u3, .pointer v5, T5, vi5, co5, by rw [HQ.out.2]; rfl, by rw [HQ.out.1]; exact ⟨hT7, hI7⟩, HE5.out.1, HE5.out.2, HM7⟩

end Go.Proofs.YtphjaebkcimklaaGreatDoor
