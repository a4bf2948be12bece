/- Texts put together: FDel FDel2 FFind. -/
import Derived.Test.YtphjaebkcimklaaGreatDoorMf2
import Derived.Test.YtphjaebkcimklaaGreatDoorMf3
import Derived.Test.YtphjaebkcimklaaGreatDoorTDel
import Derived.Test.YtphjaebkcimklaaGreatDoorTStep
/- prune.from: a key deleted from a node: nothing, leaves, buckets. -/
set_option linter.unusedVariables false
set_option linter.unusedSimpArgs false
namespace Go.Proofs.YtphjaebkcimklaaGreatDoor
open Go.RowKit

/-- What is deleted, in its box. -/
def CBox (W : World) (g : Nat) (h : Nat) (kv mv : Value) : Prop := W.heap[g]? = some (.cells #[.int .u64 (h : Int), kv, mv] 168 (0, 0))
theorem CBox.cells {W : World} {g h : Nat} {kv mv : Value} (hb : CBox W g h kv mv) : W.cell? ⟨g, 0, none⟩ = some (.int .u64 (h : Int)) ∧ W.cell? ⟨g, 1, none⟩ = some kv ∧ W.cell? ⟨g, 2, none⟩ = some mv :=
  ⟨cell_of_row W g 0 _ _ _ hb, cell_of_row W g 1 _ _ _ hb, cell_of_row W g 2 _ _ _ hb⟩
theorem CBox.lt {W : World} {g h : Nat} {kv mv : Value} (hb : CBox W g h kv mv) : g < W.heap.size := (Array.getElem?_eq_some_iff.1 hb).1
theorem CBox.below {W W' : World} {g h n : Nat} {kv mv : Value} (hb : CBox W g h kv mv) (hk : Below n W W') (hn : g < n) : CBox W' g h kv mv := (hk.block g hn).trans hb

/-- What a call that deletes tells. -/
def FromOut (S : Nat → Prop) (m : Option Nat) (w w' : World) (e : Ending) (t : TT × Bool) (vi co hi : Nat) : Prop :=
  ∃ u vi' co', e = .returned (.tuple #[u, .bool t.2]) ∧ TrIn (Up S w.heap.size) w' t.1 u ∧ Met m w w' vi co vi' co' 0 hi
theorem FromOut.wide {S : Nat → Prop} {m : Option Nat} {w w' : World} {e : Ending} {t : TT × Bool} {vi co hi hi' : Nat} (h : FromOut S m w w' e t vi co hi) (hh : hi ≤ hi') : FromOut S m w w' e t vi co hi' := by
  obtain ⟨u, vi', co', h1, h2, h3⟩ := h
  exact ⟨u, vi', co', h1, h2, h3.wide (Nat.le_refl _) hh⟩
theorem up_of {S : Nat → Prop} {n n' b : Nat} (hn : n ≤ n') (h : Up S n' b) : Up S n b := by
  rcases h with h | h
  · exact .inl h
  · exact .inr (Nat.le_trans hn h)

set_option maxRecDepth 100000 in
set_option maxHeartbeats 1600000 in
theorem from_none {S : Nat → Prop} (m : Option Nat) (h l : Nat) (Ak : Option Addr) (nk ck : Nat) (w : World) (vi co : Nat) (hm : MAt m w vi co) :
    Calls Tryz.prog 111 #[.agg #[.int .u64 (h : Int), .slice Ak nk ck, mV m], .nilIface, .int .i64 (l : Int)] w fun e w' => FromOut S m w w' e (.none, false) vi co 0 := by
  obtain ⟨mu, hmu⟩ : ∃ u, mV m = .pointer u := by cases m <;> exact ⟨_, rfl⟩
  rw [hmu]
  clear hmu
  have HB := Lib.hid ((Below.refl _ w).alloc (Nat.le_refl _) (.cells #[.int .u64 (h : Int), .slice Ak nk ck, .pointer mu] 168))
  have HM := Lib.hid hm
  have n1 := nil33_nil
  clear hm
  go_enter Tryz.func111, Tryz.ntmps111
  go_wp2_with fail
  go_ret2
  exact ⟨_, vi, co, rfl, rfl, Met.of HM.out HB.out⟩

/-- A key deleted from a leaf. -/
def leafDel (g h : Nat) (k y key : Bytes) : TT × Bool := if g = h ∧ k = key then (.none, true) else (.leaf g k y, false)

set_option maxRecDepth 100000 in
set_option maxHeartbeats 3200000 in
theorem from_leaf {S : Nat → Prop} (m : Option Nat) (g h l : Nat) (k y : Bytes) (v : Value) (Ak : Option Addr) (nk ck : Nat) (key : Bytes) (w : World) (vi co : Nat) (hP : PutH S m w vi co) (hk : BIn S w (.slice Ak nk ck) key)
    (hT : TrIn S w (.leaf g k y) v) (hv : vi < 1000000) (hco : co < 1000000) :
    Calls Tryz.prog 111 #[.agg #[.int .u64 (h : Int), .slice Ak nk ck, mV m], v, .int .i64 (l : Int)] w fun e w' => FromOut S m w w' e (leafDel g h k y key) vi co 1 := by
  obtain ⟨mu, hmu⟩ : ∃ u, mV m = .pointer u := by cases m <;> exact ⟨_, rfl⟩
  have HMV := Lib.hid hmu
  rw [hmu]
  clear hmu
  obtain ⟨b, rfl, hSb, hlf⟩ := id hT
  have hX : CBox (w.alloc (.cells #[.int .u64 (h : Int), .slice Ak nk ck, .pointer mu] 168)) w.heap.size h (.slice Ak nk ck) (.pointer mu) := heap_new w _
  have hb : Below w.heap.size w (w.alloc (.cells #[.int .u64 (h : Int), .slice Ak nk ck, .pointer mu] 168)) := (Below.refl _ _).alloc (Nat.le_refl _) _
  obtain ⟨c0, c1, c2⟩ := hX.cells
  have hVI := visit_any m vi co _ (hP.met.below hb) hv
  rw [HMV.out] at hVI
  have HVI := Lib.hid hVI
  have HP := Lib.hid hP
  have HB := Lib.hid hb
  have HX := Lib.hid hX
  have HT := Lib.hid hT
  have HKX := Lib.hid hk
  have hmx : m ≠ some w.heap.size := fun e => by have := hP.met.lt _ e; omega
  have p1 := nil33_175
  have mm := m_kind_175
  clear hX hb hk hP hT hVI hlf
  go_enter Tryz.func111, Tryz.ntmps111
  go_wp2_with fail
  refine (kind_175 _ _).mono ?_
  rintro e w1 ⟨rfl, hw1⟩
  rw [hw1]
  clear hw1 w1
  go_wp2_with fail
  refine (kind_175 _ _).mono ?_
  rintro e w1 ⟨rfl, hw1⟩
  rw [hw1]
  clear hw1 w1
  go_wp2_with fail
  refine HVI.out.mono ?_
  rintro e Y ⟨rfl, hk1, hM1⟩
  have hKY : Kept m w Y := (Kept.of HB.out).trans hk1
  have hTY := HT.out.kept hKY HP.out.hS
  have hlY : LeafAt S Y b g k y := by obtain ⟨b2, he, _, hl2⟩ := hTY; obtain rfl : b = b2 := (by injection he with _ he; injection he with he; injection he with he; injection he); exact hl2
  have HHS := Lib.hid (hash_leaf b g k y Y hlY)
  have HPR := Lib.hid (pair_leaf b g k y Y hlY)
  have HXY : Hid (CBox Y w.heap.size h (.slice Ak nk ck) (.pointer mu)) := (hk1.block _ HX.out.lt hmx).trans HX.out
  have HKY := Lib.hid hKY
  have HM1 := Lib.hid hM1
  have HTY := Lib.hid hTY
  have HMT : Hid (Met m w Y vi co (vi + 1) co 0 1) := ⟨hKY, hM1, by omega, by omega, by omega, by omega⟩
  clear c0 c1 c2 hk1 hM1 hKY hTY hlY
  obtain ⟨c0, c1, c2⟩ := HXY.out.cells
  go_wp2_with fail
  refine HHS.out.mono ?_
  rintro e w1 ⟨rfl, hw1⟩
  rw [hw1]
  clear hw1 w1
  by_cases hgh : g = h
  · subst hgh
    have hgg : ((g : Int) != (g : Int)) = false := by simp
    go_wp2_with fail
    refine HPR.out.mono ?_
    rintro e w2 ⟨u, rfl, hu, hb2⟩
    obtain ⟨kv, xv, rfl, hk2, hx2⟩ := hu
    obtain ⟨Bk, mk, dk, rfl⟩ := hk2.slice
    obtain ⟨Bx, mx, dx, rfl⟩ := hx2.slice
    have hbz : Below w2.heap.size w2 (w2.alloc (.cells #[.slice Bk mk dk, .slice Bx mx dx] 60)) := (Below.refl _ _).alloc (Nat.le_refl _) _
    have hZ : Two (w2.alloc (.cells #[.slice Bk mk dk, .slice Bx mx dx] 60)) w2.heap.size (.slice Bk mk dk) (.slice Bx mx dx) := heap_new w2 _
    have HBZ : Hid (Below Y.heap.size Y (w2.alloc (.cells #[.slice Bk mk dk, .slice Bx mx dx] 60))) := hb2.trans (hbz.mono hb2.size)
    have HU2 : Hid (BIn (New Y.heap.size) (w2.alloc (.cells #[.slice Bk mk dk, .slice Bx mx dx] 60)) (.slice Bk mk dk) k) := hk2.below hbz
    have HG2 : Hid (Y.heap.size ≤ w2.heap.size) := hb2.size
    have HXZ : Hid (CBox (w2.alloc (.cells #[.slice Bk mk dk, .slice Bx mx dx] 60)) w.heap.size g (.slice Ak nk ck) (.pointer mu)) := HXY.out.below HBZ.out HXY.out.lt
    have HZ := Lib.hid hZ
    have hmY : ∀ b, New Y.heap.size b → m ≠ some b := fun b hb e => by have := HM1.out.lt b e; have h2 : Y.heap.size ≤ b := hb; omega
    have hCM := mcompare_any (S := S) (S' := New Y.heap.size) m (.slice Ak nk ck) (.slice Bk mk dk) key k (vi + 1) co _ (HM1.out.below HBZ.out) hco ((HKX.out.kept HKY.out HP.out.hS).below HBZ.out) HU2.out HP.out.hS hmY
    rw [HMV.out] at hCM
    have HCM := Lib.hid hCM
    clear c0 c1 c2 hk2 hx2 hbz hZ hCM hb2 hmY
    go_upto_region 11 with (fail)
    generalize hGZ : w2.heap.size = gz at *
    have HGZ := Lib.hid hGZ
    clear hGZ
    generalize w2.alloc (.cells #[.slice Bk mk dk, .slice Bx mx dx] 60) = Z at *
    obtain ⟨c0, c1, c2⟩ := HXZ.out.cells
    obtain ⟨z0, z1⟩ := HZ.out.cells
    go_wp2_with fail
    refine HCM.out.mono ?_
    rintro e V ⟨rfl, hkV, hMV⟩
    have HMT2 : Hid (Met m w V vi co (vi + 1) (co + 1) 0 1) := ⟨(HKY.out.trans (Kept.of HBZ.out)).trans hkV, hMV, by omega, by omega, by omega, by omega⟩
    have HTV : Hid (TrIn S V (.leaf g k y) (.iface 175 (.pointer (some ⟨b, 0, none⟩)))) := (HTY.out.below HBZ.out).kept hkV HP.out.hS
    clear c0 c1 c2 z0 z1 hkV hMV
    by_cases heq : k = key
    · have hc0 : Lib.compareBytes key k = 0 := (cmp_eq0 key k).2 heq.symm
      rw [hc0]
      have HE : Hid (leafDel g g k y key = (.none, true)) := if_pos ⟨rfl, heq⟩
      clear heq hc0
      go_wp2_with fail
      go_ret2
      exact ⟨_, vi + 1, co + 1, by rw [HE.out]; rfl, by rw [HE.out]; rfl, HMT2.out⟩
    · have hc0 : (Lib.compareBytes key k == 0) = false := by
        rw [beq_eq_false_iff_ne]; intro e; exact heq ((cmp_eq0 key k).1 e).symm
      have hc1 : (Lib.compareBytes key k != 0) = true := by
        rw [bne_iff_ne]; intro e; exact heq ((cmp_eq0 key k).1 e).symm
      have HE : Hid (leafDel g g k y key = (.leaf g k y, false)) := if_neg fun h => heq h.2
      clear heq
      generalize Lib.compareBytes key k = cc at *
      go_wp2_with fail
      go_ret2
      exact ⟨_, vi + 1, co + 1, by rw [HE.out]; rfl, by rw [HE.out]; exact HTV.out.up _, HMT2.out⟩
  · have hgg : ((g : Int) != (h : Int)) = true := by simp; omega
    have HE : Hid (leafDel g h k y key = (.leaf g k y, false)) := if_neg fun h => hgh h.1
    clear hgh
    go_wp2_with fail
    go_ret2
    exact ⟨_, vi + 1, co, by rw [HE.out]; rfl, by rw [HE.out]; exact HTY.out.up _, HMT.out⟩

/-- A key deleted from a bucket. -/
def bucketDel (g h : Nat) (L : Pairs) (key : Bytes) : TT × Bool := if g = h ∧ (getM L key).isSome = true then (TT.buck g (withoutM L key), true) else (.bucket g L, false)

set_option maxRecDepth 100000 in
set_option maxHeartbeats 3200000 in
theorem from_bucket {S : Nat → Prop} (m : Option Nat) (g h l H : Nat) (L : Pairs) (v : Value) (Ak : Option Addr) (nk ck : Nat) (key : Bytes) (w : World) (vi co : Nat) (hP : PutH S m w vi co) (hk : BIn S w (.slice Ak nk ck) key)
    (hT : TrIn S w (.bucket g L) v) (hA : Asc L) (hL : L.length + 1 ≤ 500000) (hH : ∀ T : PT, T.even → T.size ≤ L.length → T.height ≤ H) (hv : vi + H < 1000000) (hco : co + H < 1000000) :
    Calls Tryz.prog 111 #[.agg #[.int .u64 (h : Int), .slice Ak nk ck, mV m], v, .int .i64 (l : Int)] w fun e w' => FromOut S m w w' e (bucketDel g h L key) vi co H := by
  obtain ⟨mu, hmu⟩ : ∃ u, mV m = .pointer u := by cases m <;> exact ⟨_, rfl⟩
  have HMV := Lib.hid hmu
  rw [hmu]
  clear hmu
  obtain ⟨b, T, rfl, hSb, hlf, hTL, hTe⟩ := id hT
  have hX : CBox (w.alloc (.cells #[.int .u64 (h : Int), .slice Ak nk ck, .pointer mu] 168)) w.heap.size h (.slice Ak nk ck) (.pointer mu) := heap_new w _
  have hb : Below w.heap.size w (w.alloc (.cells #[.int .u64 (h : Int), .slice Ak nk ck, .pointer mu] 168)) := (Below.refl _ _).alloc (Nat.le_refl _) _
  obtain ⟨c0, c1, c2⟩ := hX.cells
  have hlX := hlf.carry hSb hb.size (fun b _ hlt => hb.block b hlt)
  obtain ⟨tv, hh, htt⟩ := id hlX
  obtain ⟨tu, rfl⟩ := htt.ptr
  have HHS := Lib.hid (hash_bucket b g T _ hlX)
  have hsz : T.size = L.length := by rw [← PT.size_list, hTL]
  have hht := hH T hTe (by omega)
  have HT : Hid (TIn S (w.alloc (.cells #[.int .u64 (h : Int), .slice Ak nk ck, .pointer mu] 168)) (.pointer tu) T ∧ T.list = L ∧ T.even ∧ (w.alloc (.cells #[.int .u64 (h : Int), .slice Ak nk ck, .pointer mu] 168)).heap[b]? = some (.cells #[.int .u64 (g : Int), .pointer tu] 183 (0, 0))) := ⟨htt, hTL, hTe, hh⟩
  have HSZ := Lib.hid hsz
  have HHT := Lib.hid hht
  have HTB := Lib.hid hT
  have HP := Lib.hid hP
  have HB := Lib.hid hb
  have HX := Lib.hid hX
  have HKX := Lib.hid hk
  have HAS := Lib.hid hA
  have hmx : m ≠ some w.heap.size := fun e => by have := hP.met.lt _ e; omega
  have p1 := nil33_181
  have mm := m_kind_181
  clear hX hb hk hP hT hlf hTL hTe hlX hh htt hsz hht hH hA
  go_enter Tryz.func111, Tryz.ntmps111
  go_upto_block 0 with (fail)
  generalize w.alloc (.cells #[.int .u64 (h : Int), .slice Ak nk ck, .pointer mu] 168) = Y at *
  go_wp2_with fail
  refine (kind_181 _ _).mono ?_
  rintro e w1 ⟨rfl, hw1⟩
  rw [hw1]
  clear hw1 w1
  go_wp2_with fail
  refine (kind_181 _ _).mono ?_
  rintro e w1 ⟨rfl, hw1⟩
  rw [hw1]
  clear hw1 w1
  go_wp2_with fail
  refine HHS.out.mono ?_
  rintro e w1 ⟨rfl, hw1⟩
  rw [hw1]
  clear hw1 w1
  by_cases hgh : g = h
  · subst hgh
    have hgg : ((g : Int) != (g : Int)) = false := by simp
    go_wp2_with fail
    refine (pair_181 b Y).mono ?_
    rintro e Z ⟨rfl, hb1⟩
    have HB1 := Lib.hid hb1
    clear hb1
    go_upto_region 15 with (fail)
    have hbz : Below Z.heap.size Z (Z.alloc (.cells #[.slice none 0 0, .slice none 0 0] 60)) := (Below.refl _ _).alloc (Nat.le_refl _) _
    have HBZ : Hid (Below Y.heap.size Y (Z.alloc (.cells #[.slice none 0 0, .slice none 0 0] 60))) := HB1.out.trans (hbz.mono HB1.out.size)
    clear hbz
    generalize Z.alloc (.cells #[.slice none 0 0, .slice none 0 0] 60) = V at *
    have HTR := Lib.hid (tree_bucket V b g tu ((HBZ.out.block b (Array.getElem?_eq_some_iff.1 HT.out.2.2.2).1).trans HT.out.2.2.2))
    have HXV : Hid (CBox V w.heap.size g (.slice Ak nk ck) (.pointer mu)) := HX.out.below HBZ.out HX.out.lt
    have HBW : Hid (Below w.heap.size w V) := HB.out.trans (HBZ.out.mono HB.out.size)
    have HTV : Hid (TIn S V (.pointer tu) T) := HT.out.1.below HBZ.out
    have hDE := Delete_any (S := S) (S' := S) m HP.out.hS HP.out.hS key T (.pointer tu) (.slice Ak nk ck) vi co V HTV.out (HKX.out.below HBW.out) (HP.out.met.below HBW.out) HT.out.2.2.1 (by rw [HSZ.out]; exact hL) (by have := HHT.out; omega) (by have := HHT.out; omega)
    have hdp := del_plain T key (by rw [HT.out.2.1]; exact HAS.out)
    rw [HT.out.2.1] at hdp
    rw [hdp.1, hdp.2, HMV.out] at hDE
    have HDE := Lib.hid hDE
    clear hDE c0 c1 c2 hdp
    obtain ⟨c0, c1, c2⟩ := HXV.out.cells
    go_wp2_with fail
    refine HTR.out.mono ?_
    rintro e w1 ⟨rfl, hw1⟩
    rw [hw1]
    clear hw1 w1
    go_wp2_with fail
    refine HDE.out.mono ?_
    rintro e X ⟨u6, T6, vi6, co6, rfl, t61, t62, t63, t64⟩
    have HXX : Hid (CBox X w.heap.size g (.slice Ak nk ck) (.pointer mu)) := (t64.kept.block _ HXV.out.lt hmx).trans HXV.out
    have HM6 : Hid (Met m w X vi co vi6 co6 0 H) := ((Met.of HP.out.met HBW.out).trans t64).wide (by omega) (by have := HHT.out; omega)
    have HL6 := Lib.hid t61
    have HBK := Lib.hid (bucket_tr g T6 (.pointer u6) X t63 t62)
    have HZ6 := Lib.hid (And.intro t64.kept.size HBW.out.size)
    clear t61 t62 t63 t64 c0 c1 c2
    obtain ⟨c0, c1, c2⟩ := HXX.out.cells
    cases hok : (getM L key).isSome with
    | true =>
      have HE : Hid (bucketDel g g L key = (TT.buck g (withoutM L key), true)) := if_pos ⟨rfl, hok⟩
      clear hok
      go_wp2_with fail
      refine HBK.out.mono ?_
      rintro e X7 ⟨u7, rfl, t71, t72⟩
      have HF : Hid (TrIn (Up S w.heap.size) X7 (TT.buck g (withoutM L key)) u7 ∧ Met m w X7 vi co vi6 co6 0 H) := by
        rw [HL6.out] at t71
        have e3 := HZ6.out
        exact ⟨t71.imp fun b _ hb => by
          rcases hb with (hb | hb) | hb
          · exact .inl hb
          · exact .inr (by omega)
          · exact .inr (by omega), HM6.out.trans (Met.of HM6.out.at_ t72)⟩
      clear t71 t72
      go_wp2_with fail
      go_ret2
      exact ⟨u7, vi6, co6, by rw [HE.out]; rfl, by rw [HE.out]; exact HF.out.1, HF.out.2⟩
    | false =>
      have HE : Hid (bucketDel g g L key = (.bucket g L, false)) := if_neg fun h => by rw [hok] at h; exact absurd h.2 (by decide)
      have HTX : Hid (TrIn S X (.bucket g L) (.iface 181 (.pointer (some ⟨b, 0, none⟩)))) := HTB.out.kept HM6.out.kept HP.out.hS
      clear hok
      go_wp2_with fail
      go_ret2
      exact ⟨_, vi6, co6, by rw [HE.out]; rfl, by rw [HE.out]; exact HTX.out.up _, HM6.out⟩
  · have hgg : ((g : Int) != (h : Int)) = true := by simp; omega
    have HE : Hid (bucketDel g h L key = (.bucket g L, false)) := if_neg fun h => hgh h.1
    clear hgh
    go_wp2_with fail
    go_ret2
    exact ⟨_, vi, co, by rw [HE.out]; rfl, by rw [HE.out]; exact (HTB.out.below HB.out).up _, (Met.of HP.out.met HB.out).wide (Nat.le_refl _) (by omega)⟩

end Go.Proofs.YtphjaebkcimklaaGreatDoor

/- prune.Delete: a key deleted from a trie. -/
set_option linter.unusedVariables false
set_option linter.unusedSimpArgs false
namespace Go.Proofs.YtphjaebkcimklaaGreatDoor
open Go.RowKit

/-- A branch with a child's answer. -/
def branchDel (kid : Nat → TT) (c : Nat) (r : TT × Bool) : TT × Bool := if r.2 = true then (TT.collapse fun i => if i = c then r.1 else kid i, true) else (.branch kid, false)

set_option maxRecDepth 100000 in
set_option maxHeartbeats 6400000 in
theorem dbranch_any {S : Nat → Prop} (m : Option Nat) (h l hi : Nat) (kid : Nat → TT) (r : TT × Bool) (v : Value) (Ak : Option Addr) (nk ck : Nat) (key : Bytes) (w : World) (vi co : Nat) (hP : PutH S m w vi co) (hk : BIn S w (.slice Ak nk ck) key)
    (hT : TrIn S w (.branch kid) v) (hl : l ≤ 12) (hv : vi < 1000000) (hr0 : (kid (TT.chunk h l)).isNone = true → r.2 = false)
    (ih : ∀ (u : Value) (W : World), PutH S m W (vi + 1) co → BIn S W (.slice Ak nk ck) key → TrIn S W (kid (TT.chunk h l)) u →
      Calls Tryz.prog 111 #[.agg #[.int .u64 (h : Int), .slice Ak nk ck, mV m], u, .int .i64 ((l + 1 : Nat) : Int)] W fun e w' => FromOut S m W w' e r (vi + 1) co hi) :
    Calls Tryz.prog 127 #[.agg #[.int .u64 (h : Int), .slice Ak nk ck, mV m], v, .int .i64 (l : Int)] w fun e w' => FromOut S m w w' e (branchDel kid (TT.chunk h l) r) vi co (1 + hi) := by
  obtain ⟨mu, hmu⟩ : ∃ u, mV m = .pointer u := by cases m <;> exact ⟨_, rfl⟩
  have HMV := Lib.hid hmu
  rw [hmu] at ih ⊢
  clear hmu
  obtain ⟨vT, vp, rfl⟩ := hT.iface rfl
  have hX : CBox (w.alloc (.cells #[.int .u64 (h : Int), .slice Ak nk ck, .pointer mu] 168)) w.heap.size h (.slice Ak nk ck) (.pointer mu) := heap_new w _
  have hb : Below w.heap.size w (w.alloc (.cells #[.int .u64 (h : Int), .slice Ak nk ck, .pointer mu] 168)) := (Below.refl _ _).alloc (Nat.le_refl _) _
  obtain ⟨c0, c1, c2⟩ := hX.cells
  have hVI := visit_any m vi co _ (hP.met.below hb) hv
  rw [HMV.out] at hVI
  have HVI := Lib.hid hVI
  have HCH := Lib.hid (fun W => chunk_any h l W)
  have hcl := TT.chunk_lt h l
  have hw1 : (((l + 1 : Nat) : Int)) = (l : Int) + 1 := by simp
  rw [hw1] at ih
  have HIH := Lib.hid ih
  have HR0 := Lib.hid hr0
  have HP := Lib.hid hP
  have HB := Lib.hid hb
  have HX := Lib.hid hX
  have HT := Lib.hid hT
  have HKX := Lib.hid hk
  have hmx : m ≠ some w.heap.size := fun e => by have := hP.met.lt _ e; omega
  obtain ⟨rt, rb⟩ := r
  generalize TT.chunk h l = c at *
  clear hX hb hk hP hT hVI hw1 ih hr0
  go_enter Tryz.func127, Tryz.ntmps127
  go_wp2_with fail
  refine HVI.out.mono ?_
  rintro e Y ⟨rfl, hk1, hM1⟩
  have HKY : Hid (Kept m w Y) := (Kept.of HB.out).trans hk1
  have HMY : Hid (Met m w Y vi co (vi + 1) co 0 1) := ⟨HKY.out, hM1, by omega, by omega, by omega, by omega⟩
  have HXY : Hid (CBox Y w.heap.size h (.slice Ak nk ck) (.pointer mu)) := (hk1.block _ HX.out.lt hmx).trans HX.out
  have HTY : Hid (TrIn S Y (.branch kid) (.iface vT vp)) := HT.out.kept HKY.out HP.out.hS
  have HKD := Lib.hid (kid_any kid (.iface vT vp) c Y HTY.out hcl)
  clear c0 c1 c2 hk1 hM1
  obtain ⟨c0, c1, c2⟩ := HXY.out.cells
  go_wp2_with fail
  refine (HCH.out _).mono ?_
  rintro e w1 ⟨rfl, hw1⟩
  rw [← hw1]
  clear hw1 w1
  go_wp2_with fail
  refine HKD.out.mono ?_
  rintro e Z ⟨u, rfl, hu, hbz⟩
  have HBZ := Lib.hid hbz
  have HXZ : Hid (CBox Z w.heap.size h (.slice Ak nk ck) (.pointer mu)) := HXY.out.below hbz HXY.out.lt
  have HMZ : Hid (Met m w Z vi co (vi + 1) co 0 1) := HMY.out.trans (Met.of HMY.out.at_ hbz)
  have HIZ := Lib.hid (HIH.out u Z (HP.out.next HMZ.out) (HKX.out.kept HMZ.out.kept HP.out.hS) hu)
  have HTZ : Hid (TrIn S Z (.branch kid) (.iface vT vp)) := HTY.out.below hbz
  clear c0 c1 c2 hu hbz
  obtain ⟨c0, c1, c2⟩ := HXZ.out.cells
  cases hkn : (kid c).isNone with
  | true =>
    obtain rfl : rb = false := HR0.out hkn
    have HE : Hid (branchDel kid c (rt, false) = (.branch kid, false)) := rfl
    clear hkn
    go_wp2_with fail
    go_ret2
    exact ⟨_, vi + 1, co, by rw [HE.out]; rfl, by rw [HE.out]; exact HTZ.out.up _, HMZ.out.wide (Nat.le_refl _) (by omega)⟩
  | false =>
    have HKN := Lib.hid hkn
    clear hkn
    go_wp2_with fail
    refine HIZ.out.mono ?_
    rintro e X ⟨u2, vi2, co2, rfl, h21, h22⟩
    have HM2 : Hid (Met m w X vi co vi2 co2 0 (1 + hi)) := (HMZ.out.trans h22).wide (by omega) (by omega)
    have HTX : Hid (TrIn S X (.branch kid) (.iface vT vp)) := HTZ.out.kept h22.kept HP.out.hS
    have HZS : Hid (w.heap.size ≤ Z.heap.size ∧ Z.heap.size ≤ X.heap.size) := ⟨HMZ.out.kept.size, h22.kept.size⟩
    have HTAB := Lib.hid (HP.out.next HM2.out).tab
    have H21 := Lib.hid h21
    clear h21 h22 c0 c1 c2
    cases rb with
    | false =>
      have HE : Hid (branchDel kid c (rt, false) = (.branch kid, false)) := rfl
      go_wp2_with fail
      go_ret2
      exact ⟨_, vi2, co2, by rw [HE.out]; rfl, by rw [HE.out]; exact HTX.out.up _, HM2.out⟩
    | true =>
      have HE : Hid (branchDel kid c (rt, true) = (TT.collapse fun i => if i = c then rt else kid i, true)) := rfl
      cases hrn : rt.isNone with
      | true =>
        have hrt : rt = .none := by
          cases rt with
          | none => rfl
          | leaf _ _ _ => cases hrn
          | bucket _ _ => cases hrn
          | branch _ => cases hrn
        subst hrt
        obtain rfl : u2 = .nilIface := H21.out
        have HWO := Lib.hid (without_any kid (.iface vT vp) c X HTX.out hcl HTAB.out)
        have n1 := nil33_nil
        clear hrn
        go_wp2_with fail
        refine HWO.out.mono ?_
        rintro e X3 ⟨u3, rfl, h31, h32⟩
        have HF : Hid (TrIn (Up S w.heap.size) X3 (TT.collapse fun i => if i = c then .none else kid i) u3 ∧ Met m w X3 vi co vi2 co2 0 (1 + hi)) := ⟨h31.imp fun b _ hb => up_of (by have := HZS.out; omega) hb, HM2.out.trans (Met.of HM2.out.at_ h32)⟩
        clear h31 h32
        go_wp2_with fail
        go_ret2
        exact ⟨u3, vi2, co2, by rw [HE.out]; rfl, by rw [HE.out]; exact HF.out.1, HF.out.2⟩
      | false =>
        obtain ⟨uT, up, rfl⟩ := H21.out.iface hrn
        have HRN := Lib.hid hrn
        have hun : ∀ W : World, (binOp .eql 33 (.iface uT up) .nilIface).run Tryz.prog W = .ok (.bool false) W := by
          have h1 := H21.out
          cases rt with
          | none => cases hrn
          | leaf _ _ _ => obtain ⟨b, e, _⟩ := h1; cases e; exact fun W => nil33_175 W _
          | bucket _ _ => obtain ⟨b, T, e, _⟩ := h1; cases e; exact fun W => nil33_181 W _
          | branch _ => obtain ⟨b, _, _, _, _, _, e, _⟩ := h1; cases e; exact fun W => nil33_200 W _
        have HWI := Lib.hid (with_any (S := Up S Z.heap.size) kid (.iface vT vp) c rt (.iface uT up) X (HTX.out.up _) hcl H21.out HRN.out HTAB.out)
        have HBX : Hid (∀ W, Below X.heap.size X W → B.TabOK W) := fun W hW => HTAB.out.below HTAB.out.1 (Nat.le_refl _) hW
        clear hrn
        go_wp2_with fail
        refine HWI.out.mono ?_
        rintro e X3 ⟨b3, rfl, h31, h32⟩
        have HCO := Lib.hid (collapse_any (fun i => if i = c then rt else kid i) (.iface 200 (.pointer (some ⟨b3, 0, none⟩))) X3 h31 ⟨c, by show (if c = c then rt else kid c).isNone = false; rw [if_pos rfl]; exact HRN.out⟩ (HBX.out X3 h32))
        have H32 := Lib.hid h32
        clear h31 h32
        go_wp2_with fail
        refine HCO.out.mono ?_
        rintro e X4 ⟨u4, rfl, h41, h42⟩
        have HF : Hid (TrIn (Up S w.heap.size) X4 (TT.collapse fun i => if i = c then rt else kid i) u4 ∧ Met m w X4 vi co vi2 co2 0 (1 + hi)) := ⟨h41.imp fun b _ hb => by
          have e1 := HZS.out
          rcases hb with (hb | hb) | hb
          · exact .inl hb
          · exact .inr (by omega)
          · exact .inr (by omega), HM2.out.trans (Met.of HM2.out.at_ (H32.out.trans (h42.mono H32.out.size)))⟩
        clear h41 h42
        go_wp2_with fail
        go_ret2
        exact ⟨u4, vi2, co2, by rw [HE.out]; rfl, by rw [HE.out]; exact HF.out.1, HF.out.2⟩

set_option maxRecDepth 100000 in
set_option maxHeartbeats 3200000 in
theorem from_branch {S : Nat → Prop} (m : Option Nat) (h l hi : Nat) (kid : Nat → TT) (r : TT × Bool) (v : Value) (Ak : Option Addr) (nk ck : Nat) (w : World) (vi co : Nat)
    (hT : TrIn S w (.branch kid) v) (hm : MAt m w vi co)
    (hc : ∀ (W : World), Below w.heap.size w W → Calls Tryz.prog 127 #[.agg #[.int .u64 (h : Int), .slice Ak nk ck, mV m], v, .int .i64 (l : Int)] W fun e w' => FromOut S m W w' e r vi co hi) :
    Calls Tryz.prog 111 #[.agg #[.int .u64 (h : Int), .slice Ak nk ck, mV m], v, .int .i64 (l : Int)] w fun e w' => FromOut S m w w' e r vi co hi := by
  obtain ⟨mu, hmu⟩ : ∃ u, mV m = .pointer u := by cases m <;> exact ⟨_, rfl⟩
  rw [hmu] at hc ⊢
  clear hmu
  obtain ⟨b, _, _, _, _, _, rfl, _⟩ := id hT
  have hX : CBox (w.alloc (.cells #[.int .u64 (h : Int), .slice Ak nk ck, .pointer mu] 168)) w.heap.size h (.slice Ak nk ck) (.pointer mu) := heap_new w _
  have hb : Below w.heap.size w (w.alloc (.cells #[.int .u64 (h : Int), .slice Ak nk ck, .pointer mu] 168)) := (Below.refl _ _).alloc (Nat.le_refl _) _
  obtain ⟨c0, c1, c2⟩ := hX.cells
  have HC := Lib.hid (hc _ hb)
  have HB := Lib.hid hb
  have HM := Lib.hid hm
  have p1 := nil33_200
  have mm := m_kind_200
  clear hX hb hT hc hm
  go_enter Tryz.func111, Tryz.ntmps111
  go_wp2_with fail
  refine (kind_200 _ _).mono ?_
  rintro e w1 ⟨rfl, hw1⟩
  rw [hw1]
  clear hw1 w1
  go_wp2_with fail
  refine HC.out.mono ?_
  rintro e X ⟨u, vi', co', rfl, h1, h2⟩
  have HF : Hid (TrIn (Up S w.heap.size) X r.1 u ∧ Met m w X vi co vi' co' 0 hi) := ⟨h1.imp fun b _ hb => up_of HB.out.size hb, ((Met.of HM.out HB.out).trans h2).wide (by omega) (by omega)⟩
  clear h1 h2
  go_wp2_with fail
  go_ret2
  exact ⟨u, vi', co', rfl, HF.out⟩

/-- A KEY DELETED FROM A NODE. -/
theorem dfrom_any {S : Nat → Prop} (m : Option Nat) (hs : Bytes → Nat) (N H : Nat) (hN : N + 1 ≤ 500000) (hH : ∀ T : PT, T.even → T.size ≤ N → T.height ≤ H) (Ak : Option Addr) (nk ck : Nat) (key : Bytes) : ∀ (t : TT) (l : Nat) (v : Value) (w : World) (vi co : Nat), PutH S m w vi co → BIn S w (.slice Ak nk ck) key →
    TrIn S w t v → TT.Fits hs 0 t l → TT.Small N t → l ≤ 13 → vi + (13 - l + 1 + H) < 1000000 → co + (13 - l + 1 + H) < 1000000 →
    Calls Tryz.prog 111 #[.agg #[.int .u64 (hs key : Int), .slice Ak nk ck, mV m], v, .int .i64 (l : Int)] w fun e w' => FromOut S m w w' e (TT.del key (hs key) t l) vi co (13 - l + 1 + H)
  | .none, l, v, w, vi, co, hP, hk, hT, hF, hS, hl, hv, hc => by
    obtain rfl : v = .nilIface := hT
    exact (from_none m (hs key) l Ak nk ck w vi co hP.met).mono fun e w' h => h.wide (by omega)
  | .leaf g k y, l, v, w, vi, co, hP, hk, hT, hF, hS, hl, hv, hc =>
    (from_leaf m g (hs key) l k y v Ak nk ck key w vi co hP hk hT (by omega) (by omega)).mono fun e w' h => h.wide (by omega)
  | .bucket g L, l, v, w, vi, co, hP, hk, hT, hF, hS, hl, hv, hc => by
    have hSL : L.length ≤ N := hS
    exact (from_bucket m g (hs key) l H L v Ak nk ck key w vi co hP hk hT hF.2.2 (by omega) (fun T hT hs => hH T hT (by omega)) (by omega) (by omega)).mono fun e w' h => h.wide (by omega)
  | .branch kid, l, v, w, vi, co, hP, hk, hT, hF, hS, hl, hv, hc => by
    have hl12 := hF.1
    have hkid := hF.2.2.2 (TT.chunk (hs key) l)
    unfold TT.del
    refine from_branch m (hs key) l _ kid _ v Ak nk ck w vi co hT hP.met fun W hW => ?_
    refine (dbranch_any m (hs key) l (13 - (l + 1) + 1 + H) kid (TT.del key (hs key) (kid (TT.chunk (hs key) l)) (l + 1)) v Ak nk ck key W vi co (hP.below hW) (hk.below hW) (hT.below hW) hl12 (by omega) (fun hn => ?_) fun u W' hP' hk' hu' => ?_).mono fun e w' h => h.wide (by omega)
    · cases hkc : kid (TT.chunk (hs key) l) with
      | none => rfl
      | leaf _ _ _ => rw [hkc] at hn; cases hn
      | bucket _ _ => rw [hkc] at hn; cases hn
      | branch _ => rw [hkc] at hn; cases hn
    · exact dfrom_any m hs N H hN hH Ak nk ck key (kid (TT.chunk (hs key) l)) (l + 1) u W' (vi + 1) co hP' hk' hu' hkid.1 (hS _) (by omega) (by omega) (by omega)

/-- prune.Delete. -/
theorem gdel_any {S : Nat → Prop} (m : Option Nat) (h hi : Nat) (r : TT × Bool) (v : Value) (Ak : Option Addr) (nk ck : Nat) (w : World) (vi co : Nat)
    (hc : Calls Tryz.prog 111 #[.agg #[.int .u64 (h : Int), .slice Ak nk ck, mV m], v, .int .i64 0] w fun e w' => FromOut S m w w' e r vi co hi) :
    Calls Tryz.prog 95 #[v, .int .u64 (h : Int), .slice Ak nk ck, mV m] w fun e w' => FromOut S m w w' e r vi co hi := by
  obtain ⟨mu, hmu⟩ : ∃ u, mV m = .pointer u := by cases m <;> exact ⟨_, rfl⟩
  rw [hmu] at hc ⊢
  clear hmu
  have HC := Lib.hid hc
  clear hc
  go_enter Tryz.func95, Tryz.ntmps95
  go_wp2_with fail
  refine HC.out.mono ?_
  rintro e X ⟨u, vi', co', rfl, h1, h2⟩
  have HF := Lib.hid (And.intro h1 h2)
  clear h1 h2
  go_wp2_with fail
  go_ret2
  exact ⟨u, vi', co', rfl, HF.out⟩

end Go.Proofs.YtphjaebkcimklaaGreatDoor

/- find.way, find.Get. -/
set_option linter.unusedVariables false
set_option linter.unusedSimpArgs false
namespace Go.Proofs.YtphjaebkcimklaaGreatDoor
open Go.RowKit

namespace TT
/-- Where a hash's way ends. -/
def endOf (h : Nat) : TT → Nat → TT
  | .branch kid, l => endOf h (kid (chunk h l)) (l + 1)
  | .none, _ => .none
  | .leaf g k x, _ => .leaf g k x
  | .bucket g L, _ => .bucket g L
theorem end_look (key : Bytes) (h : Nat) : ∀ (t : TT) (l l' : Nat), look key h (endOf h t l) l' = look key h t l
  | .none, _, _ => rfl
  | .leaf _ _ _, _, _ => rfl
  | .bucket _ _, _, _ => rfl
  | .branch kid, l, l' => end_look key h (kid (chunk h l)) (l + 1) l'
theorem end_flat (h : Nat) : ∀ (t : TT) (l : Nat), isBranch (endOf h t l) = false
  | .none, _ => rfl
  | .leaf _ _ _, _ => rfl
  | .bucket _ _, _ => rfl
  | .branch kid, l => end_flat h (kid (chunk h l)) (l + 1)
theorem end_fits {hs : Bytes → Nat} {N : Nat} (h : Nat) : ∀ (t : TT) (l l' : Nat), Fits hs N t l → Fits hs N (endOf h t l) l'
  | .none, _, _, _ => trivial
  | .leaf _ _ _, _, _, hf => hf
  | .bucket _ _, _, _, hf => hf
  | .branch kid, l, l', hf => end_fits h (kid (chunk h l)) (l + 1) l' (hf.2.2.2 _).1
theorem end_small {N : Nat} (h : Nat) : ∀ (t : TT) (l : Nat), Small N t → Small N (endOf h t l)
  | .none, _, _ => trivial
  | .leaf _ _ _, _, _ => trivial
  | .bucket _ _, _, hf => hf
  | .branch kid, l, hf => end_small h (kid (chunk h l)) (l + 1) (hf _)
end TT

/-- What way tells. -/
def WayOut (S : Nat → Prop) (m : Option Nat) (w w' : World) (e : Ending) (t : TT) (vi co : Nat) : Prop :=
  ∃ u d, e = .returned (.tuple #[u, .int .i64 ((d : Nat) : Int)]) ∧ d ≤ 13 ∧ TrIn S w' t u ∧ Kept m w w' ∧ MAt m w' (vi + d) co

set_option maxRecDepth 100000 in
set_option maxHeartbeats 3200000 in
theorem way_any {S : Nat → Prop} (m : Option Nat) (hs : Bytes → Nat) (h : Nat) (t : TT) (v : Value) (w : World) (vi co : Nat) (hP : PutH S m w vi co) (hT : TrIn S w t v) (hF : TT.Fits hs 0 t 0) (hv : vi + 13 < 1000000) :
    Calls Tryz.prog 109 #[v, .int .u64 (h : Int), mV m] w fun e w' => WayOut S m w w' e (TT.endOf h t 0) vi co := by
  obtain ⟨mu, hmu⟩ : ∃ u, mV m = .pointer u := by cases m <;> exact ⟨_, rfl⟩
  have HMV := Lib.hid hmu
  rw [hmu]
  clear hmu
  have HP := Lib.hid hP
  have HT := Lib.hid hT
  have HF := Lib.hid hF
  clear hP hT hF
  go_enter Tryz.func109, Tryz.ntmps109
  go_wp2_with fail
  go_loopg [0, 8] 14 (fun gk p q wr => ∃ (t' : TT) (d : Nat), 14 - d = gk ∧ q = .int .i64 (d : Int) ∧ d ≤ 13 ∧ Hid (TrIn S wr t' p ∧ TT.Fits hs 0 t' d ∧ TT.endOf h t' d = TT.endOf h t 0 ∧ Kept m w wr ∧ MAt m wr (vi + d) co))
  case atStart => exact ⟨t, 0, rfl, rfl, by omega, HT.out, HF.out, rfl, Kept.refl _ _, HP.out.met⟩
  case round =>
    obtain ⟨t', d, hgk, rfl, hd, hI⟩ := hrel
    have HGK := Lib.hid hgk
    clear hgk
    cases t' with
    | none =>
      obtain rfl := (show _ = Value.nilIface from hI.out.1)
      have HM := Lib.hid (map_nil wr)
      go_wp2_with fail
      refine HM.out.mono ?_
      rintro e w1 ⟨rfl, hw1⟩
      rw [hw1]
      clear hw1 w1
      go_wp2_with fail
      go_ret2
      exact ⟨_, d, rfl, hd, by rw [← hI.out.2.2.1]; rfl, hI.out.2.2.2.1, hI.out.2.2.2.2⟩
    | leaf g k x =>
      obtain ⟨b, rfl, _⟩ := hI.out.1
      have HM := Lib.hid (map_175 wr b)
      go_wp2_with fail
      refine HM.out.mono ?_
      rintro e w1 ⟨rfl, hw1⟩
      rw [hw1]
      clear hw1 w1
      go_wp2_with fail
      go_ret2
      exact ⟨_, d, rfl, hd, by rw [← hI.out.2.2.1]; exact hI.out.1, hI.out.2.2.2.1, hI.out.2.2.2.2⟩
    | bucket g L =>
      obtain ⟨b, T, rfl, _⟩ := hI.out.1
      have HM := Lib.hid (map_181 wr b)
      go_wp2_with fail
      refine HM.out.mono ?_
      rintro e w1 ⟨rfl, hw1⟩
      rw [hw1]
      clear hw1 w1
      go_wp2_with fail
      go_ret2
      exact ⟨_, d, rfl, hd, by rw [← hI.out.2.2.1]; exact hI.out.1, hI.out.2.2.2.1, hI.out.2.2.2.2⟩
    | branch kid =>
      have hd12 := hI.out.2.1.1
      obtain ⟨b, m0, A, c', cnt, us, rfl, hSb, hB, _⟩ := hI.out.1
      have HM := Lib.hid (map_branch wr b m0 A us.length c' cnt hB)
      have hVI := visit_any m (vi + d) co wr hI.out.2.2.2.2 (by omega)
      rw [HMV.out] at hVI
      have HVI := Lib.hid hVI
      have HCH := Lib.hid (fun W => chunk_any h d W)
      have hcl := TT.chunk_lt h d
      clear hB hVI
      go_wp2_with fail
      refine HM.out.mono ?_
      rintro e w1 ⟨rfl, hw1⟩
      rw [hw1]
      clear hw1 w1
      go_wp2_with fail
      refine HVI.out.mono ?_
      rintro e Y ⟨rfl, hk1, hM1⟩
      have HY : Hid (TrIn S Y (.branch kid) (.iface 200 (.pointer (some ⟨b, 0, none⟩))) ∧ Kept m w Y ∧ MAt m Y (vi + (d + 1)) co) := ⟨hI.out.1.kept hk1 HP.out.hS, hI.out.2.2.2.1.trans hk1, hM1⟩
      clear hk1 hM1
      go_wp2_with fail
      refine (HCH.out _).mono ?_
      rintro e w1 ⟨rfl, hw1⟩
      rw [← hw1]
      clear hw1 w1
      have HKD := Lib.hid (kid_any kid (.iface 200 (.pointer (some ⟨b, 0, none⟩))) (TT.chunk h d) Y HY.out.1 hcl)
      have HCC : Hid (TT.Fits hs 0 (kid (TT.chunk h d)) (d + 1) ∧ TT.endOf h (kid (TT.chunk h d)) (d + 1) = TT.endOf h t 0) := ⟨(hI.out.2.1.2.2.2 _).1, by rw [← hI.out.2.2.1]; exact (rfl : TT.endOf h (kid (TT.chunk h d)) (d + 1) = _)⟩
      generalize TT.chunk h d = c at *
      go_wp2_with fail
      refine HKD.out.mono ?_
      rintro e Z ⟨u, rfl, hu, hbz⟩
      have HZ : Hid (TrIn S Z (kid c) u ∧ Kept m w Z ∧ MAt m Z (vi + (d + 1)) co) := ⟨hu, HY.out.2.1.trans (Kept.of hbz), HY.out.2.2.below hbz⟩
      clear hu hbz
      generalize (!(kid c).isNone) = okk at *
      go_wp2_with fail
      go_roundg (14 - (d + 1))
      case rel => exact ⟨kid c, d + 1, rfl, by go_num, by omega, HZ.out.1, HCC.out.1, HCC.out.2, HZ.out.2.1, HZ.out.2.2⟩
      case measure => have := HGK.out; omega

set_option maxRecDepth 100000 in
set_option maxHeartbeats 1600000 in
theorem pair_nil (w : World) :
    Calls Tryz.prog 105 #[.nilIface] w fun e w' => e = .returned (.tuple #[.agg #[.slice none 0 0, .slice none 0 0], .bool false]) ∧ Below w.heap.size w w' := by
  have hb1 : Below w.heap.size w (w.alloc (.cells #[.slice none 0 0, .slice none 0 0] 60)) := (Below.refl _ _).alloc (Nat.le_refl _) _
  have HB : Hid (Below w.heap.size w (((w.alloc (.cells #[.slice none 0 0, .slice none 0 0] 60)).setCell ⟨w.heap.size, 0, none⟩ (.slice none 0 0)).setCell ⟨w.heap.size, 1, none⟩ (.slice none 0 0))) := (hb1.setCell (p := ⟨w.heap.size, 0, none⟩) (by simp) _).setCell (p := ⟨w.heap.size, 1, none⟩) (by simp) _
  have hz : Two (w.alloc (.cells #[.slice none 0 0, .slice none 0 0] 60)) w.heap.size (.slice none 0 0) (.slice none 0 0) := heap_new w _
  have HF := Lib.hid (hz.set (.slice none 0 0) (.slice none 0 0))
  obtain ⟨z0, z1⟩ := hz.cells
  have f0 := frozen_of_row _ _ 0 _ _ hz
  have f1 := frozen_of_row _ _ 1 _ _ hz
  have q0 := fun w => ta_nil_175 w .nilIface
  have HZ := Lib.hid hz
  have HB1 := Lib.hid hb1
  clear hb1 hz
  go_enter Tryz.func105, Tryz.ntmps105
  go_wp2_with fail
  first
    | exact bodyPost_ret (results_two rfl _ _ w.heap.size _ _ (by rfl) HF.out) rfl ⟨rfl, HB.out⟩
    | exact bodyPost_ret (results_two rfl _ _ w.heap.size _ _ (by rfl) HZ.out) rfl ⟨rfl, HB1.out⟩

/-- What Get tells of a trie. -/
def GetOut (S : Nat → Prop) (m : Option Nat) (w w' : World) (e : Ending) (o : Option Bytes) (vi co hi : Nat) : Prop :=
  ∃ vi' co', GotIn w.heap.size w' e o ∧ Met m w w' vi co vi' co' 0 hi

theorem GotIn.none_ {n : Nat} {w : World} : GotIn n w (.returned (.tuple #[.slice none 0 0, .bool false])) none := rfl

set_option maxRecDepth 100000 in
set_option maxHeartbeats 6400000 in
theorem gget_any {S : Nat → Prop} (m : Option Nat) (hs : Bytes → Nat) (N H : Nat) (hN : N + 1 ≤ 500000) (hH : ∀ T : PT, T.even → T.size ≤ N → T.height ≤ H) (t : TT) (v : Value) (A : Option Addr) (n c : Nat) (key : Bytes) (w : World) (vi co : Nat) (hP : PutH S m w vi co) (hT : TrIn S w t v) (hF : TT.Fits hs 0 t 0) (hS : TT.Small N t) (hk : BIn S w (.slice A n c) key) (hv : vi + (14 + H) < 1000000) (hco : co + (14 + H) < 1000000) :
    Calls Tryz.prog 93 #[v, .int .u64 (hs key : Int), .slice A n c, mV m] w fun e w' => GetOut S m w w' e (TT.look key (hs key) t 0) vi co (14 + H) := by
  obtain ⟨mu, hmu⟩ : ∃ u, mV m = .pointer u := by cases m <;> exact ⟨_, rfl⟩
  have hWY := way_any m hs (hs key) t v w vi co hP hT hF (by omega)
  have HMV := Lib.hid hmu
  rw [hmu] at hWY ⊢
  have HWY := Lib.hid hWY
  have HLK := Lib.hid (TT.end_look key (hs key) t 0 0)
  have HFL := Lib.hid (TT.end_flat (hs key) t 0)
  have HFT := Lib.hid (TT.end_fits (hs key) t 0 0 hF)
  have HSM := Lib.hid (TT.end_small (hs key) t 0 hS)
  have HHF : Hid (∀ k, (hs k : Int) = (hs k : Int)) := fun k => rfl
  have HHS : ∃ hh : Nat, hs key = hh := ⟨_, rfl⟩
  obtain ⟨hh, hhh⟩ := HHS
  have HHH := Lib.hid hhh
  rw [hhh] at HWY HLK HFL HFT HSM ⊢
  have HP := Lib.hid hP
  have HKX := Lib.hid hk
  have HHT := Lib.hid hH
  generalize TT.endOf hh t 0 = t' at *
  clear hmu hWY hhh hP hT hF hS hk hH HHF
  go_enter Tryz.func93, Tryz.ntmps93
  go_wp2_with fail
  refine HWY.out.mono ?_
  rintro e Y ⟨u, d, rfl, hd, hu, hKY, hMY⟩
  have HY := Lib.hid (And.intro hu (And.intro hKY hMY))
  have HMT : Hid (Met m w Y vi co (vi + d) co 0 13) := ⟨hKY, hMY, by omega, by omega, by omega, by omega⟩
  clear hKY hMY
  cases t' with
  | branch kid => exact absurd HFL.out (by simp [TT.isBranch])
  | none =>
    obtain rfl : u = .nilIface := hu
    have HO : Hid (TT.look key hh t 0 = none) := HLK.out.symm
    have HBD : Hid (∀ W, Below Y.heap.size Y W → Met m w W vi co (vi + d) co 0 (14 + H)) := fun W hW => (HMT.out.trans (Met.of HMT.out.at_ hW)).wide (by omega) (by omega)
    go_wp2_with fail
    refine (hash_nil Y).mono ?_
    rintro e w1 ⟨rfl, hw1⟩
    rw [hw1]
    clear hw1 w1
    go_wp2_with fail
    refine (pair_nil Y).mono ?_
    rintro e Z ⟨rfl, hbz⟩
    have HBZ : Hid (Below Y.heap.size Y (Z.alloc (.cells #[.slice none 0 0, .slice none 0 0] 60))) := hbz.alloc hbz.size _
    clear hbz
    go_wp2_with fail
    go_ret2
    exact ⟨vi + d, co, by rw [HO.out]; exact GotIn.none_, HBD.out _ HBZ.out⟩
  | leaf g k x =>
    have hlf : g = hs k := HFT.out
    obtain ⟨b, rfl, hSb, hl⟩ := hu
    have HHS := Lib.hid (hash_leaf b g k x Y hl)
    have HPR := Lib.hid (pair_leaf b g k x Y hl)
    have HO : Hid (TT.look key hh t 0 = if k = key then some x else none) := HLK.out.symm
    have hVI := fun W (hW : Below Y.heap.size Y W) => visit_any m (vi + d) co W (HMT.out.at_.below hW) (by omega)
    rw [HMV.out] at hVI
    have HVI := Lib.hid hVI
    have HG := Lib.hid hlf
    clear hl hVI hlf
    go_wp2_with fail
    refine HHS.out.mono ?_
    rintro e w1 ⟨rfl, hw1⟩
    rw [hw1]
    clear hw1 w1
    go_wp2_with fail
    refine HPR.out.mono ?_
    rintro e w2 ⟨u, rfl, hu, hb2⟩
    obtain ⟨kv, xv, rfl, hk2, hx2⟩ := hu
    obtain ⟨Bk, mk, dk, rfl⟩ := hk2.slice
    obtain ⟨Bx, mx, dx, rfl⟩ := hx2.slice
    have hbz : Below w2.heap.size w2 (w2.alloc (.cells #[.slice Bk mk dk, .slice Bx mx dx] 60)) := (Below.refl _ _).alloc (Nat.le_refl _) _
    have HZ : Hid (Two (w2.alloc (.cells #[.slice Bk mk dk, .slice Bx mx dx] 60)) w2.heap.size (.slice Bk mk dk) (.slice Bx mx dx)) := heap_new w2 _
    have HBZ : Hid (Below Y.heap.size Y (w2.alloc (.cells #[.slice Bk mk dk, .slice Bx mx dx] 60))) := hb2.trans (hbz.mono hb2.size)
    have HU2 : Hid (BIn (New Y.heap.size) (w2.alloc (.cells #[.slice Bk mk dk, .slice Bx mx dx] 60)) (.slice Bk mk dk) k ∧ BIn (New Y.heap.size) (w2.alloc (.cells #[.slice Bk mk dk, .slice Bx mx dx] 60)) (.slice Bx mx dx) x) := ⟨hk2.below hbz, hx2.below hbz⟩
    have HG2 : Hid (Y.heap.size ≤ w2.heap.size) := hb2.size
    clear hk2 hx2 hbz hb2
    go_upto_region 4 with (fail)
    generalize hGZ : w2.heap.size = gz at *
    have HGZ := Lib.hid hGZ
    clear hGZ
    generalize w2.alloc (.cells #[.slice Bk mk dk, .slice Bx mx dx] 60) = Z at *
    have HVI2 := Lib.hid (HVI.out Z HBZ.out)
    go_wp2_with fail
    refine HVI2.out.mono ?_
    rintro e V ⟨rfl, hkV, hMV⟩
    have hmgz : m ≠ some gz := fun e => by have := HMT.out.at_.lt _ e; have := HG2.out; omega
    have hmY : ∀ b, New Y.heap.size b → m ≠ some b := fun b hb e => by have := HMT.out.at_.lt b e; have h2 : Y.heap.size ≤ b := hb; omega
    have HZV : Hid (Two V gz (.slice Bk mk dk) (.slice Bx mx dx)) := (hkV.block _ HZ.out.lt hmgz).trans HZ.out
    have HKV : Hid (Kept m w V) := (HMT.out.kept.trans (Kept.of HBZ.out)).trans hkV
    have HUV : Hid (BIn (New Y.heap.size) V (.slice Bk mk dk) k ∧ BIn (New Y.heap.size) V (.slice Bx mx dx) x ∧ BIn S V (.slice A n c) key) := ⟨HU2.out.1.kept hkV hmY, HU2.out.2.kept hkV hmY, HKX.out.kept HKV.out HP.out.hS⟩
    have hCM := mcompare_any (S := S) (S' := New Y.heap.size) m (.slice A n c) (.slice Bk mk dk) key k (vi + d + 1) co V hMV (by omega) HUV.out.2.2 HUV.out.1 HP.out.hS hmY
    rw [HMV.out] at hCM
    have HCM := Lib.hid hCM
    have HMT2 : Hid (Met m w V vi co (vi + d + 1) co 0 (14 + H)) := ⟨HKV.out, hMV, by omega, by omega, by omega, by omega⟩
    have HS1 := Lib.hid (And.intro HMT.out.kept.size hmgz)
    have HMY := Lib.hid hmY
    clear hkV hMV hCM hmY hmgz
    obtain ⟨z0, z1⟩ := HZV.out.cells
    by_cases hgh : g = hh
    · have hgg : ((g : Int) == (hh : Int)) = true := by simp; omega
      clear hgh
      go_wp2_with fail
      refine HCM.out.mono ?_
      rintro e V2 ⟨rfl, hk2, hM2⟩
      have HZ2 : Hid (Two V2 gz (.slice Bk mk dk) (.slice Bx mx dx)) := (hk2.block _ HZV.out.lt HS1.out.2).trans HZV.out
      have HMT3 : Hid (Met m w V2 vi co (vi + d + 1) (co + 1) 0 (14 + H)) := ⟨HKV.out.trans hk2, hM2, by omega, by omega, by omega, by omega⟩
      have HX2 : Hid (BIn (New w.heap.size) V2 (.slice Bx mx dx) x) := (HUV.out.2.1.kept hk2 HMY.out).imp fun b _ hb => Nat.le_trans HS1.out.1 hb
      clear hk2 hM2 z0 z1
      obtain ⟨z0, z1⟩ := HZ2.out.cells
      by_cases heq : k = key
      · have hc0 : Lib.compareBytes key k = 0 := (cmp_eq0 key k).2 heq.symm
        rw [hc0]
        have HE : Hid (TT.look key hh t 0 = some x) := by rw [HO.out, if_pos heq]; exact (rfl : some x = _)
        clear heq hc0
        go_wp2_with fail
        go_ret2
        exact ⟨vi + d + 1, co + 1, by rw [HE.out]; exact ⟨_, rfl, HX2.out⟩, HMT3.out⟩
      · have hc0 : (Lib.compareBytes key k == 0) = false := by
          rw [beq_eq_false_iff_ne]; intro e; exact heq ((cmp_eq0 key k).1 e).symm
        have HE : Hid (TT.look key hh t 0 = none) := by rw [HO.out, if_neg heq]; exact (rfl : none = none)
        clear heq
        generalize Lib.compareBytes key k = cc at *
        go_wp2_with fail
        go_ret2
        exact ⟨vi + d + 1, co + 1, by rw [HE.out]; exact GotIn.none_, HMT3.out⟩
    · have hgg : ((g : Int) == (hh : Int)) = false := by simp; omega
      have HE : Hid (TT.look key hh t 0 = none) := by
        rw [HO.out, if_neg (fun e => hgh (by rw [HG.out, e, HHH.out]))]; exact (rfl : none = none)
      clear hgh
      go_wp2_with fail
      go_ret2
      exact ⟨vi + d + 1, co, by rw [HE.out]; exact GotIn.none_, HMT2.out⟩
  | bucket g L =>
    have hbf := HFT.out
    have HBF : Hid ((∀ p ∈ L, hs p.1 = g) ∧ Asc L) := ⟨hbf.1, hbf.2.2⟩
    have hSL : L.length ≤ N := HSM.out
    obtain ⟨b, T, rfl, hSb, hl, hTL, hTe⟩ := hu
    obtain ⟨tv, hhc, htt⟩ := id hl
    obtain ⟨tu, rfl⟩ := htt.ptr
    have hsz : T.size = L.length := by rw [← PT.size_list, hTL]
    have hht := HHT.out T hTe (by omega)
    have HHS := Lib.hid (hash_bucket b g T Y hl)
    have HO : Hid (TT.look key hh t 0 = getM L key) := HLK.out.symm
    have HT : Hid (TIn S Y (.pointer tu) T ∧ T.list = L ∧ T.path key ≤ H ∧ Y.heap[b]? = some (.cells #[.int .u64 (g : Int), .pointer tu] 183 (0, 0))) := ⟨htt, hTL, Nat.le_trans (path_le T key) hht, hhc⟩
    clear hl hTL hTe hhc htt hsz hht hbf
    go_wp2_with fail
    refine HHS.out.mono ?_
    rintro e w1 ⟨rfl, hw1⟩
    rw [hw1]
    clear hw1 w1
    go_wp2_with fail
    refine (pair_181 b Y).mono ?_
    rintro e Z ⟨rfl, hbz⟩
    have HBZ : Hid (Below Y.heap.size Y (Z.alloc (.cells #[.slice none 0 0, .slice none 0 0] 60))) := hbz.alloc hbz.size _
    clear hbz
    go_upto_region 4 with (fail)
    generalize Z.alloc (.cells #[.slice none 0 0, .slice none 0 0] 60) = V at *
    by_cases hgh : g = hh
    · subst hgh
      have hgg : ((g : Int) != (g : Int)) = false := by simp
      have HTR := Lib.hid (tree_bucket V b g tu ((HBZ.out.block b (Array.getElem?_eq_some_iff.1 HT.out.2.2.2).1).trans HT.out.2.2.2))
      have HKV : Hid (Kept m w V) := HMT.out.kept.trans (Kept.of HBZ.out)
      have hGE := get_any (S := S) (S' := S) T key m (.pointer tu) (.slice A n c) (vi + d) co V (HT.out.1.below HBZ.out) (HKX.out.kept HKV.out HP.out.hS) (HMT.out.at_.below HBZ.out) HP.out.hS HP.out.hS (by have := HT.out.2.2.1; omega) (by have := HT.out.2.2.1; omega)
      rw [get_plain T key (by rw [HT.out.2.1]; exact HBF.out.2), HT.out.2.1, HMV.out] at hGE
      have HGE := Lib.hid hGE
      have HPT := Lib.hid HT.out.2.2.1
      clear hGE
      go_wp2_with fail
      refine HTR.out.mono ?_
      rintro e w1 ⟨rfl, hw1⟩
      rw [hw1]
      clear hw1 w1
      go_wp2_with fail
      refine HGE.out.mono ?_
      rintro e X ⟨hgot, hkX, hMX⟩
      have HR : Hid (Met m w X vi co (vi + d + T.path key) (co + T.path key) 0 (14 + H)) := ⟨HKV.out.trans hkX, hMX, by omega, by have := HPT.out; omega, by omega, by omega⟩
      have HVS := Lib.hid HKV.out.size
      clear hkX hMX
      cases hgm : getM L key with
      | none =>
        rw [hgm] at hgot
        obtain rfl : e = .returned (.tuple #[.slice none 0 0, .bool false]) := hgot
        have HE : Hid (TT.look key g t 0 = none) := HO.out.trans hgm
        clear hgm
        go_wp2_with fail
        go_ret2
        exact ⟨vi + d + T.path key, co + T.path key, by rw [HE.out]; exact GotIn.none_, HR.out⟩
      | some y =>
        rw [hgm] at hgot
        obtain ⟨u, rfl, hu⟩ := hgot
        obtain ⟨Bx, mx, dx, rfl⟩ := hu.slice
        have HE : Hid (TT.look key g t 0 = some y) := HO.out.trans hgm
        have HU : Hid (BIn (New w.heap.size) X (.slice Bx mx dx) y) := hu.imp fun b _ hb => Nat.le_trans HVS.out hb
        clear hgm hu
        go_wp2_with fail
        go_ret2
        exact ⟨vi + d + T.path key, co + T.path key, by rw [HE.out]; exact ⟨_, rfl, HU.out⟩, HR.out⟩
    · have hgg : ((g : Int) != (hh : Int)) = true := by simp; omega
      have HE : Hid (TT.look key hh t 0 = none) := by
        rw [HO.out]
        cases hgm : getM L key with
        | none => rfl
        | some y => exact absurd ((HBF.out.1 _ (getM_mem hgm)).symm.trans HHH.out) hgh
      clear hgh
      go_wp2_with fail
      go_ret2
      exact ⟨vi + d, co, by rw [HE.out]; exact GotIn.none_, (HMT.out.trans (Met.of HMT.out.at_ HBZ.out)).wide (by omega) (by omega)⟩

end Go.Proofs.YtphjaebkcimklaaGreatDoor
