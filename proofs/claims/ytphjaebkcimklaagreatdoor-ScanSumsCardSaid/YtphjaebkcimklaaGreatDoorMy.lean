/- Texts put together: FScan1 FScan2 FScan3. -/
import Derived.Test.YtphjaebkcimklaaGreatDoorMgr
import Derived.Test.YtphjaebkcimklaaGreatDoorMf5
import Derived.Test.YtphjaebkcimklaaGreatDoorMt
import Derived.Test.YtphjaebkcimklaaGreatDoorMso
/- scan.Count, Floor, Ceil, Ends; chart.Rank, At. -/
set_option linter.unusedVariables false
set_option linter.unusedSimpArgs false
namespace Go.Proofs.YtphjaebkcimklaaGreatDoor
open Go.RowKit Go.Shelf Go.Proofs.YtphjaebkcimklaaGreatDoorW.PrintLast
attribute [local go_sem] Oper.semAt_some

/-- A chart's value, and its index. -/
structure Sc (w : World) (sd : Array Value) (u : Value) (tu : Option Addr) (T : PT) : Prop where
  seed : Seed sd
  tin : TIn (fun _ => True) w (.pointer tu) T
  asc : Asc T.list
  sz : T.size ≤ 1000
  one : u.oneCell' = true
theorem Sc.below {w W : World} {sd : Array Value} {u : Value} {tu : Option Addr} {T : PT} (h : Sc w sd u tu T) (hb : Below w.heap.size w W) : Sc W sd u tu T := ⟨h.seed, h.tin.below hb, h.asc, h.sz, h.one⟩
/-- A chart in a box, and a stretch in the next one. -/
structure Bx2 (w X : World) (sd : Array Value) (u : Value) (tu : Option Addr) (x y z : Value) : Prop where
  row : ∀ V, Below X.heap.size X V → V.heap[w.heap.size]? = some (.cells (chA sd u (.pointer tu)) 38 (0, 0))
  tri : ∀ V, Below X.heap.size X V → Tri 25 V (w.heap.size + 1) x y z
  below : Below w.heap.size w X
  size : w.heap.size + 1 < X.heap.size
theorem bx2 (w : World) (sd : Array Value) (u : Value) (tu : Option Addr) (x y z : Value) : Bx2 w ((w.alloc (.cells (chA sd u (.pointer tu)) 38)).alloc (.cells #[x, y, z] 25)) sd u tu x y z := by
  have h0 : ((w.alloc (.cells (chA sd u (.pointer tu)) 38)).alloc (.cells #[x, y, z] 25)).heap[w.heap.size]? = some (.cells (chA sd u (.pointer tu)) 38 (0, 0)) := heap_old _ (heap_new w _)
  have h1 : Tri 25 ((w.alloc (.cells (chA sd u (.pointer tu)) 38)).alloc (.cells #[x, y, z] 25)) (w.heap.size + 1) x y z := by
    have := heap_new (w.alloc (.cells (chA sd u (.pointer tu)) 38)) (.cells #[x, y, z] 25)
    rw [World.size_alloc] at this
    exact this
  exact ⟨fun V hV => (hV.block _ (Array.getElem?_eq_some_iff.1 h0).1).trans h0, fun V hV => h1.below hV h1.lt, ((Below.refl _ _).alloc (Nat.le_refl _) _).alloc (by simp) _, h1.lt⟩
theorem Bx2.ra {w X V : World} {sd : Array Value} {u : Value} {tu : Option Addr} {x y z : Value} (h : Bx2 w X sd u tu x y z) (hV : Below X.heap.size X V) : V.rangeAt w.heap.size 0 (chA sd u (.pointer tu)).toList := range_row 0 (h.row V hV) fun j _ => by rw [Nat.zero_add]
theorem in38' {sd : Array Value} {u p : Value} (h : Seed sd) : (Tryz.prog.info? 38).map (·.size) = some (chA sd u p).toList.length := by rw [info38, Array.length_toList, chA_size h.1]

set_option maxRecDepth 100000 in
set_option maxHeartbeats 1600000 in
theorem count_any {sd : Array Value} {u : Value} {tu : Option Addr} {T : PT} {A A' : Option Addr} {n n' c c' : Nat} {f t : Bytes} {cl : Bool} (w : World) (h : Sc w sd u tu T) (hs : SIn (fun _ => True) w (.agg #[.slice A n c, .slice A' n' c', .bool cl]) f t cl) :
    Calls Tryz.prog 16 #[.agg (chA sd u (.pointer tu)), .agg #[.slice A n c, .slice A' n' c', .bool cl]] w fun e w' => e = .returned (.int .i64 ((cutM T.list f t cl true).length : Int)) ∧ Below w.heap.size w w' := by
  have HS := Lib.hid h
  have HSP := Lib.hid hs
  have HX := Lib.hid (bx2 w sd u tu (.slice A n c) (.slice A' n' c') (.bool cl))
  clear h hs
  go_enter Tryz.func16, Tryz.ntmps16
  go_upto_region 1 with fail
  generalize (w.alloc (.cells (chA sd u (.pointer tu)) 38)).alloc (.cells #[.slice A n c, .slice A' n' c', .bool cl] 25) = X at *
  have in38 := in38' (u := u) (p := .pointer tu) HS.out.seed
  have ul38 := Tryz.underlying38
  refine start_ (n := 5) (S := fun w' => Below X.heap.size X w') (ds := []) #[false, false, false, false, false] (by kernel_rfl) rfl rfl (below_drew2 (Below.refl _ _)) (fun hHeld => ?_)
  refine take_ (i := 0) (N := some 5) (v := .agg (chA sd u (.pointer tu))) (a' := ?aa1) #[true, false, false, false, false] rfl rfl (by kernel_rfl) (fun _ _ _ h => h) (yieldsIf_load_mid rfl 38 (.tmp 2) rfl w.heap.size 0 rfl (chA sd u (.pointer tu)).toList _ (fun _ h => HX.out.ra h) ul38 rfl in38) hHeld ?ha1 ?_
  case ha1 =>
    simp only [Act.put, List.setIfInBounds_toArray, List.set_cons_zero, List.set_cons_succ]
    rfl
  clear ul38 in38
  refine take_ (i := 2) (N := some 7) (v := .agg #[.slice A n c, .slice A' n' c', .bool cl]) (a' := ?aa2) #[true, false, true, false, false] rfl rfl (by kernel_rfl) (fun _ _ _ h => h) (Or.inl ⟨by rfl, ?hy2⟩) hHeld ?ha2 ?hn2
  case hy2 =>
    rintro w' hw'
    obtain ⟨d0, d1, d2⟩ := (HX.out.tri w' hw').cells
    go_simp
  case ha2 =>
    simp only [Act.put, List.setIfInBounds_toArray, List.set_cons_zero, List.set_cons_succ]
    rfl
  refine one_ (i := 1) (N := some 6) #[true, true, true, false, false] rfl rfl (by kernel_rfl) (by decide) (fun K hK => ?_)
  refine goes_ Tryz.func37 (by kernel_rfl) rfl #[.agg (chA sd u (.pointer tu))] (by rfl) rfl rfl (by simp only [List.map_toArray, List.map_cons, List.map_nil]; rfl) ?_
  refine (chIndex_any sd HS.out.seed u (.pointer tu) X.drew).mono ?_
  rintro e w1 ⟨rfl, hb1⟩
  have HB1 : Hid (Below X.heap.size X w1) := below_drew1 hb1
  clear hb1
  refine ⟨_, rfl, hK.out _ _ HB1.out (fun hHeld => ?_)⟩
  simp only [Act.put, List.setIfInBounds_toArray, List.set_cons_zero, List.set_cons_succ]
  refine one_ (i := 3) (N := some 8) #[true, true, true, true, false] rfl rfl (by kernel_rfl) (by decide) (fun K hK => ?_)
  refine goes_ Tryz.func39 (by kernel_rfl) rfl #[.pointer tu, .agg #[.slice A n c, .slice A' n' c', .bool cl]] (by rfl) rfl rfl (by simp only [List.map_toArray, List.map_cons, List.map_nil]; rfl) ?_
  have hbw1 : Below w.heap.size w w1 := HX.out.below.trans (HB1.out.mono HX.out.below.size)
  refine (scount_any (S := fun _ => True) (S' := fun _ => True) T (.pointer tu) (.agg #[.slice A n c, .slice A' n' c', .bool cl]) f t cl w1 (HS.out.below hbw1).tin (HSP.out.below hbw1) HS.out.asc (by have := HS.out.sz; omega)).mono ?_
  rintro e w2 ⟨rfl, hb2⟩
  have HB2 : Hid (Below X.heap.size X w2) := HB1.out.trans (hb2.mono HB1.out.size)
  clear hb2 hbw1
  refine ⟨_, rfl, hK.out _ _ HB2.out (fun hHeld => ?_)⟩
  simp only [Act.put, List.setIfInBounds_toArray, List.set_cons_zero, List.set_cons_succ]
  refine pure_ (i := 4) (N := some 4) (v := ?vv3) (a' := ?aa3) #[true, true, true, true, true] rfl rfl (by kernel_rfl) (fun _ _ _ h => h) (Or.inl ⟨by rfl, ?hy3⟩) ?ha3 ?hn3
  case hy3 =>
    intro w'
    go_simp
    with_reducible rfl
  case ha3 =>
    simp only [Act.put, List.setIfInBounds_toArray, List.set_cons_zero, List.set_cons_succ]
    rfl
  refine done_ (by kernel_rfl) ?_
  go_wp2_with fail
  go_ret
  exact ⟨rfl, HX.out.below.trans (HB2.out.mono HX.out.below.size)⟩

set_option maxRecDepth 100000 in
set_option maxHeartbeats 1600000 in
theorem crank_any {S : Nat → Prop} {sd : Array Value} {u : Value} {tu : Option Addr} {T : PT} (Ak : Option Addr) (nk ck : Nat) (key : Bytes) (w : World) (h : Sc w sd u tu T) (hk : BIn S w (.slice Ak nk ck) key) :
    Calls Tryz.prog 42 #[.agg (chA sd u (.pointer tu)), .slice Ak nk ck] w fun e w' => e = .returned (.int .i64 (T.belowT (fun k => decide (cmp k key = -1)) : Int)) ∧ Below w.heap.size w w' := by
  have hb : Below w.heap.size w (w.alloc (.cells (chA sd u (.pointer tu)) 38)) := (Below.refl _ _).alloc (Nat.le_refl _) _
  have h3 : (w.alloc (.cells (chA sd u (.pointer tu)) 38)).heap[w.heap.size]? = some (.cells (chA sd u (.pointer tu)) 38 (0, 0)) := heap_new w _
  have c17 := (cell_of_row _ w.heap.size 17 _ _ _ h3).trans (chA_get h.seed.1).2
  have HB := Lib.hid hb
  have HR := Lib.hid (rank_any (S := fun _ => True) (S' := S) T (.pointer tu) (.slice Ak nk ck) key _ (h.tin.below hb) (hk.below hb) (by have := h.sz; omega))
  clear hb h3 h hk
  go_enter Tryz.func42, Tryz.ntmps42
  go_upto_region 1 with (fail)
  generalize w.alloc (.cells (chA sd u (.pointer tu)) 38) = X at *
  go_wp2_with fail
  refine HR.out.mono ?_
  rintro e w2 ⟨rfl, hb2⟩
  have HB2 : Hid (Below w.heap.size w w2) := HB.out.trans (hb2.mono HB.out.size)
  clear hb2
  go_wp2_with fail
  go_ret
  exact ⟨rfl, HB2.out⟩

/-- A chart in a box, an empty pair in the next one. -/
structure Bx3 (w X : World) (sd : Array Value) (u : Value) (tu : Option Addr) : Prop where
  row : X.heap[w.heap.size]? = some (.cells (chA sd u (.pointer tu)) 38 (0, 0))
  two : Two X (w.heap.size + 1) (.slice none 0 0) (.slice none 0 0)
  below : Below w.heap.size w X
  size : w.heap.size + 1 < X.heap.size
theorem bx3 (w : World) (sd : Array Value) (u : Value) (tu : Option Addr) : Bx3 w ((w.alloc (.cells (chA sd u (.pointer tu)) 38)).alloc (.cells #[.slice none 0 0, .slice none 0 0] 60)) sd u tu := by
  have h0 : ((w.alloc (.cells (chA sd u (.pointer tu)) 38)).alloc (.cells #[.slice none 0 0, .slice none 0 0] 60)).heap[w.heap.size]? = some (.cells (chA sd u (.pointer tu)) 38 (0, 0)) := heap_old _ (heap_new w _)
  have h1 : Two ((w.alloc (.cells (chA sd u (.pointer tu)) 38)).alloc (.cells #[.slice none 0 0, .slice none 0 0] 60)) (w.heap.size + 1) (.slice none 0 0) (.slice none 0 0) := by
    have := heap_new (w.alloc (.cells (chA sd u (.pointer tu)) 38)) (.cells #[.slice none 0 0, .slice none 0 0] 60)
    rw [World.size_alloc] at this
    exact this
  exact ⟨h0, h1, ((Below.refl _ _).alloc (Nat.le_refl _) _).alloc (by simp) _, h1.lt⟩

set_option maxRecDepth 100000 in
set_option maxHeartbeats 1600000 in
theorem cat_any {sd : Array Value} {u : Value} {tu : Option Addr} {T : PT} (i : Int) (w : World) (h : Sc w sd u tu T) (hi : (Lit.int .i64 i).wf = true) :
    Calls Tryz.prog 43 #[.agg (chA sd u (.pointer tu)), .int .i64 i] w fun e w' => AtR w w' e T.list i := by
  have HX := Lib.hid (bx3 w sd u tu)
  have HA := Lib.hid (at_any (S := fun _ => True) T (.pointer tu) i _ (h.tin.below HX.out.below) (by have := h.sz; omega) hi)
  have c17 := (cell_of_row _ w.heap.size 17 _ _ _ HX.out.row).trans (chA_get h.seed.1).2
  clear h hi
  go_enter Tryz.func43, Tryz.ntmps43
  go_upto_region 1 with (fail)
  generalize (w.alloc (.cells (chA sd u (.pointer tu)) 38)).alloc (.cells #[.slice none 0 0, .slice none 0 0] 60) = X at *
  go_wp2_with fail
  refine HA.out.mono ?_
  rintro e w2 hr
  obtain ⟨A1, n1, c1, A2, n2, c2, ok, rfl, H2, HR⟩ := hr.box (w := w) HX.out.size (by omega) HX.out.two HX.out.below
  obtain ⟨z0, z1⟩ := H2.out.cells
  have f0 := frozen_of_row _ _ 0 _ _ H2.out
  have f1 := frozen_of_row _ _ 1 _ _ H2.out
  clear hr
  go_wp2_with fail
  try simp only [Exit.inBlock, Exit.then]
  refine bodyPost_ret (results_two rfl _ _ (w.heap.size + 1) _ _ (by rfl) (Two.set H2.out _ _)) rfl ?_
  exact HR.out

set_option maxRecDepth 100000 in
set_option maxHeartbeats 1600000 in
theorem sfloor_any {S : Nat → Prop} {sd : Array Value} {u : Value} {tu : Option Addr} {T : PT} (Ak : Option Addr) (nk ck : Nat) (key : Bytes) (w : World) (h : Sc w sd u tu T) (hk : BIn S w (.slice Ak nk ck) key) :
    Calls Tryz.prog 20 #[.agg (chA sd u (.pointer tu)), .slice Ak nk ck] w fun e w' => AtR w w' e T.list ((T.belowT (fun k => decide (cmp k key ≠ 1)) : Int) - 1) := by
  have HX := Lib.hid (bx3 w sd u tu)
  have HS := Lib.hid h
  have HK := Lib.hid hk
  have in38 := in38' (u := u) (p := .pointer tu) h.seed
  clear h hk
  go_enter Tryz.func20, Tryz.ntmps20
  go_upto_region 1 with (fail)
  generalize (w.alloc (.cells (chA sd u (.pointer tu)) 38)).alloc (.cells #[.slice none 0 0, .slice none 0 0] 60) = X at *
  have ra38 : X.rangeAt w.heap.size 0 (chA sd u (.pointer tu)).toList := range_row 0 HX.out.row fun j _ => by rw [Nat.zero_add]
  go_wp2_with (refine wpList_load_mid rfl 38 _ rfl w.heap.size 0 (by rfl) (chA sd u (.pointer tu)).toList _ ra38 Tryz.underlying38 rfl in38 ?_)
  refine (chIndex_any sd HS.out.seed u (.pointer tu) X).mono ?_
  rintro e w1 ⟨rfl, hb1⟩
  have HB1 : Hid (Below w.heap.size w w1) := HX.out.below.trans (hb1.mono HX.out.below.size)
  have HT1 : Hid (Two w1 (w.heap.size + 1) (.slice none 0 0) (.slice none 0 0)) := HX.out.two.below hb1 HX.out.size
  have HS1 : Hid (w.heap.size + 1 < w1.heap.size) := Nat.lt_of_lt_of_le HX.out.size hb1.size
  clear hb1 ra38 in38
  go_wp2_with fail
  refine (floor_any (S := fun _ => True) (S' := S) T (.pointer tu) (.slice Ak nk ck) key w1 (HS.out.tin.below HB1.out) (HK.out.below HB1.out) (by have := HS.out.sz; omega)).mono ?_
  rintro e w2 hr
  obtain ⟨A1, n1, c1, A2, n2, c2, ok, rfl, H2, HR⟩ := hr.box (w := w) HS1.out (by omega) HT1.out HB1.out
  obtain ⟨z0, z1⟩ := H2.out.cells
  have f0 := frozen_of_row _ _ 0 _ _ H2.out
  have f1 := frozen_of_row _ _ 1 _ _ H2.out
  clear hr
  go_wp2_with fail
  try simp only [Exit.inBlock, Exit.then]
  refine bodyPost_ret (results_two rfl _ _ (w.heap.size + 1) _ _ (by rfl) (Two.set H2.out _ _)) rfl ?_
  exact HR.out

set_option maxRecDepth 100000 in
set_option maxHeartbeats 1600000 in
theorem sceil_any {S : Nat → Prop} {sd : Array Value} {u : Value} {tu : Option Addr} {T : PT} (Ak : Option Addr) (nk ck : Nat) (key : Bytes) (w : World) (h : Sc w sd u tu T) (hk : BIn S w (.slice Ak nk ck) key) :
    Calls Tryz.prog 21 #[.agg (chA sd u (.pointer tu)), .slice Ak nk ck] w fun e w' => AtR w w' e T.list (T.belowT (fun k => decide (cmp k key = -1)) : Int) := by
  have HX := Lib.hid (bx3 w sd u tu)
  have HS := Lib.hid h
  have HK := Lib.hid hk
  have in38 := in38' (u := u) (p := .pointer tu) h.seed
  clear h hk
  go_enter Tryz.func21, Tryz.ntmps21
  go_upto_region 1 with (fail)
  generalize (w.alloc (.cells (chA sd u (.pointer tu)) 38)).alloc (.cells #[.slice none 0 0, .slice none 0 0] 60) = X at *
  have ra38 : X.rangeAt w.heap.size 0 (chA sd u (.pointer tu)).toList := range_row 0 HX.out.row fun j _ => by rw [Nat.zero_add]
  go_wp2_with (refine wpList_load_mid rfl 38 _ rfl w.heap.size 0 (by rfl) (chA sd u (.pointer tu)).toList _ ra38 Tryz.underlying38 rfl in38 ?_)
  refine (chIndex_any sd HS.out.seed u (.pointer tu) X).mono ?_
  rintro e w1 ⟨rfl, hb1⟩
  have HB1 : Hid (Below w.heap.size w w1) := HX.out.below.trans (hb1.mono HX.out.below.size)
  have HT1 : Hid (Two w1 (w.heap.size + 1) (.slice none 0 0) (.slice none 0 0)) := HX.out.two.below hb1 HX.out.size
  have HS1 : Hid (w.heap.size + 1 < w1.heap.size) := Nat.lt_of_lt_of_le HX.out.size hb1.size
  clear hb1 ra38 in38
  go_wp2_with fail
  refine (ceil_any (S := fun _ => True) (S' := S) T (.pointer tu) (.slice Ak nk ck) key w1 (HS.out.tin.below HB1.out) (HK.out.below HB1.out) (by have := HS.out.sz; omega)).mono ?_
  rintro e w2 hr
  obtain ⟨A1, n1, c1, A2, n2, c2, ok, rfl, H2, HR⟩ := hr.box (w := w) HS1.out (by omega) HT1.out HB1.out
  obtain ⟨z0, z1⟩ := H2.out.cells
  have f0 := frozen_of_row _ _ 0 _ _ H2.out
  have f1 := frozen_of_row _ _ 1 _ _ H2.out
  clear hr
  go_wp2_with fail
  try simp only [Exit.inBlock, Exit.then]
  refine bodyPost_ret (results_two rfl _ _ (w.heap.size + 1) _ _ (by rfl) (Two.set H2.out _ _)) rfl ?_
  exact HR.out


end Go.Proofs.YtphjaebkcimklaaGreatDoor

/- scan.Range, Back. -/
set_option linter.unusedVariables false
set_option linter.unusedSimpArgs false
namespace Go.Proofs.YtphjaebkcimklaaGreatDoor
open Go.RowKit Go.Shelf Go.Proofs.YtphjaebkcimklaaGreatDoorW.PrintLast
attribute [local go_sem] Oper.semAt_some

theorem GotL.up {w w1 w' : World} {e : Ending} {L : Pairs} (h : GotL w1 w' e L) (hb : Below w.heap.size w w1) : GotL w w' e L := by
  obtain ⟨A, c, he, hc, hl, h2⟩ := h
  exact ⟨A, c, he, hc, hl.imp fun b _ h => Nat.le_trans hb.size h, hb.trans (h2.mono hb.size)⟩
theorem getD_reverse {L : Pairs} {j : Nat} (h : j < L.length) : L.reverse.getD j ([], []) = L.getD (L.length - 1 - j) ([], []) := by
  rw [List.getD_eq_getElem?_getD, List.getD_eq_getElem?_getD, List.getElem?_reverse h]

set_option maxRecDepth 100000 in
set_option maxHeartbeats 1600000 in
theorem range_any {sd : Array Value} {u : Value} {tu : Option Addr} {T : PT} {A A' : Option Addr} {n n' c c' : Nat} {f t : Bytes} {cl : Bool} (sk mo : Int) (w : World) (h : Sc w sd u tu T) (hs : SIn (fun _ => True) w (.agg #[.slice A n c, .slice A' n' c', .bool cl]) f t cl) (hsk : (Lit.int .i64 sk).wf = true) :
    Calls Tryz.prog 25 #[.agg (chA sd u (.pointer tu)), .agg #[.slice A n c, .slice A' n' c', .bool cl], .int .i64 sk, .int .i64 mo] w fun e w' => GotL w w' e (sm sk mo (cutM T.list f t cl true)) := by
  have HS := Lib.hid h
  have HSP := Lib.hid hs
  have HX := Lib.hid (bx2 w sd u tu (.slice A n c) (.slice A' n' c') (.bool cl))
  have HCS := Lib.hid (cut_size T f t cl h.asc)
  have HCA := Lib.hid (cut_at T f t cl h.asc)
  have HC5 : Hid ((cutM T.list f t cl true).length ≤ 100000) := (Nat.le_trans (cutM_len _ _ _ _ _) (by have := h.sz; have := T.size_list; omega) : (cutM T.list f t cl true).length ≤ 100000)
  have HSK := Lib.hid hsk
  have HTD : Hid (TIn (fun b => b < w.heap.size) w (.pointer tu) T) := h.tin.imp fun b hb _ => hb
  clear h hs hsk
  go_enter Tryz.func25, Tryz.ntmps25
  go_upto_region 1 with fail
  generalize (w.alloc (.cells (chA sd u (.pointer tu)) 38)).alloc (.cells #[.slice A n c, .slice A' n' c', .bool cl] 25) = X at *
  have in38 := in38' (u := u) (p := .pointer tu) HS.out.seed
  have ul38 := Tryz.underlying38
  refine start_ (n := 8) (S := fun w' => Below X.heap.size X w') (ds := []) #[false, false, false, false, false, false, false, false] (by kernel_rfl) rfl rfl (below_drew2 (Below.refl _ _)) (fun hHeld => ?_)
  refine take_ (i := 0) (N := some 9) (v := .agg (chA sd u (.pointer tu))) (a' := ?aa1) #[true, false, false, false, false, false, false, false] rfl rfl (by kernel_rfl) (fun _ _ _ h => h) (yieldsIf_load_mid rfl 38 (.tmp 4) rfl w.heap.size 0 rfl (chA sd u (.pointer tu)).toList _ (fun _ h => HX.out.ra h) ul38 rfl in38) hHeld ?ha1 ?_
  case ha1 =>
    simp only [Act.put, List.setIfInBounds_toArray, List.set_cons_zero, List.set_cons_succ]
    rfl
  clear ul38 in38
  refine take_ (i := 2) (N := some 11) (v := .agg #[.slice A n c, .slice A' n' c', .bool cl]) (a' := ?aa2) #[true, false, true, false, false, false, false, false] rfl rfl (by kernel_rfl) (fun _ _ _ h => h) (Or.inl ⟨by rfl, ?hy2⟩) hHeld ?ha2 ?hn2
  case hy2 =>
    rintro w' hw'
    obtain ⟨d0, d1, d2⟩ := (HX.out.tri w' hw').cells
    go_simp
  case ha2 =>
    simp only [Act.put, List.setIfInBounds_toArray, List.set_cons_zero, List.set_cons_succ]
    rfl
  refine pure_ (i := 4) (N := some 13) (v := ?vv3) (a' := ?aa3) #[true, false, true, false, true, false, false, false] rfl rfl (by kernel_rfl) (fun _ _ _ h => h) (Or.inl ⟨by rfl, ?hy3⟩) ?ha3 ?hn3
  case hy3 =>
    intro w'
    go_simp
    with_reducible rfl
  case ha3 =>
    simp only [Act.put, List.setIfInBounds_toArray, List.set_cons_zero, List.set_cons_succ]
    rfl
  refine pure_ (i := 5) (N := some 14) (v := ?vv4) (a' := ?aa4) #[true, false, true, false, true, true, false, false] rfl rfl (by kernel_rfl) (fun _ _ _ h => h) (Or.inl ⟨by rfl, ?hy4⟩) ?ha4 ?hn4
  case hy4 =>
    intro w'
    go_simp
    with_reducible rfl
  case ha4 =>
    simp only [Act.put, List.setIfInBounds_toArray, List.set_cons_zero, List.set_cons_succ]
    rfl
  refine one_ (i := 1) (N := some 10) #[true, true, true, false, true, true, false, false] rfl rfl (by kernel_rfl) (by decide) (fun K hK => ?_)
  refine goes_ Tryz.func37 (by kernel_rfl) rfl #[.agg (chA sd u (.pointer tu))] (by rfl) rfl rfl (by simp only [List.map_toArray, List.map_cons, List.map_nil]; rfl) ?_
  refine (chIndex_any sd HS.out.seed u (.pointer tu) X.drew).mono ?_
  rintro e w1 ⟨rfl, hb1⟩
  have HB1 : Hid (Below X.heap.size X w1) := below_drew1 hb1
  clear hb1
  refine ⟨_, rfl, hK.out _ _ HB1.out (fun hHeld => ?_)⟩
  simp only [Act.put, List.setIfInBounds_toArray, List.set_cons_zero, List.set_cons_succ]
  refine one_ (i := 3) (N := some 12) #[true, true, true, true, true, true, false, false] rfl rfl (by kernel_rfl) (by decide) (fun K hK => ?_)
  refine goes_ Tryz.func36 (by kernel_rfl) rfl #[.pointer tu, .agg #[.slice A n c, .slice A' n' c', .bool cl]] (by rfl) rfl rfl (by simp only [List.map_toArray, List.map_cons, List.map_nil]; rfl) ?_
  have HBW1 : Hid (Below w.heap.size w w1) := HX.out.below.trans (HB1.out.mono HX.out.below.size)
  refine (All_any (D := fun b => b < w.heap.size) (S' := fun _ => True) T tu A A' n n' c c' f t cl w1 (HTD.out.below HBW1.out) (HSP.out.below HBW1.out) (by have := HS.out.sz; omega) (fun b hb => Nat.lt_of_lt_of_le hb HBW1.out.size)).mono ?_
  rintro e w2 ⟨rfl, h2⟩
  have HB2 : Hid (Below X.heap.size X w2) := HB1.out.trans (h2.out.2.mono HB1.out.size)
  have HCLO := Lib.hid h2.out.1
  have HBW2 : Hid (Below w.heap.size w w2) := HX.out.below.trans (HB2.out.mono HX.out.below.size)
  have hsq := all_seqF HCLO.out
  rw [← HCS.out] at hsq
  have HSQ := Lib.hid hsq
  clear h2 hsq
  refine ⟨_, rfl, hK.out _ _ HB2.out (fun hHeld => ?_)⟩
  simp only [Act.put, List.setIfInBounds_toArray, List.set_cons_zero, List.set_cons_succ]
  refine one_ (i := 6) (N := some 15) #[true, true, true, true, true, true, true, false] rfl rfl (by kernel_rfl) (by decide) (fun K hK => ?_)
  refine goes_ Tryz.func47 (by kernel_rfl) rfl #[.func (.func 62) #[] #[.pointer (some ⟨w1.heap.size, 0, none⟩), .pointer (some ⟨w1.heap.size + 1, 0, none⟩)], .int .i64 sk, .int .i64 mo] (by rfl) rfl rfl (by simp only [List.map_toArray, List.map_cons, List.map_nil]; rfl) ?_
  refine (some_any sk mo (cutM T.list f t cl true) w2 HSQ.out (enters_of Tryz.func62 (by kernel_rfl) rfl) HCLO.out.dom (fun g pre x V W h => ?_) HC5.out HSK.out).mono ?_
  · obtain ⟨h1, h2, h3⟩ := h
    simp only [] at h2
    have hj : pre.length < (cutM T.list f t cl true).length := by rw [HCS.out]; exact h1
    refine ⟨hj, ?_⟩
    rw [HCA.out _ hj, ← h2]
    exact h3
  rintro e w3 hg
  have HBW3 : Hid (GotL w w3 e (sm sk mo (cutM T.list f t cl true)) ∧ Below X.heap.size X w3) := ⟨hg.up HBW2.out, HB2.out.trans ((by obtain ⟨_, _, _, _, _, hb⟩ := hg; exact hb : Below w2.heap.size w2 w3).mono HB2.out.size)⟩
  obtain ⟨A3, c3, rfl, _⟩ := hg
  refine ⟨_, rfl, hK.out _ _ HBW3.out.2 (fun hHeld => ?_)⟩
  simp only [Act.put, List.setIfInBounds_toArray, List.set_cons_zero, List.set_cons_succ]
  refine pure_ (i := 7) (N := some 8) (v := ?vv5) (a' := ?aa5) #[true, true, true, true, true, true, true, true] rfl rfl (by kernel_rfl) (fun _ _ _ h => h) (Or.inl ⟨by rfl, ?hy5⟩) ?ha5 ?hn5
  case hy5 =>
    intro w'
    go_simp
    with_reducible rfl
  case ha5 =>
    simp only [Act.put, List.setIfInBounds_toArray, List.set_cons_zero, List.set_cons_succ]
    rfl
  refine done_ (by kernel_rfl) ?_
  go_wp2_with fail
  go_ret
  exact HBW3.out.1

set_option maxRecDepth 100000 in
set_option maxHeartbeats 1600000 in
theorem back_any {sd : Array Value} {u : Value} {tu : Option Addr} {T : PT} {A A' : Option Addr} {n n' c c' : Nat} {f t : Bytes} {cl : Bool} (sk mo : Int) (w : World) (h : Sc w sd u tu T) (hs : SIn (fun _ => True) w (.agg #[.slice A n c, .slice A' n' c', .bool cl]) f t cl) (hsk : (Lit.int .i64 sk).wf = true) :
    Calls Tryz.prog 27 #[.agg (chA sd u (.pointer tu)), .agg #[.slice A n c, .slice A' n' c', .bool cl], .int .i64 sk, .int .i64 mo] w fun e w' => GotL w w' e (sm sk mo (cutM T.list f t cl true).reverse) := by
  have HS := Lib.hid h
  have HSP := Lib.hid hs
  have HX := Lib.hid (bx2 w sd u tu (.slice A n c) (.slice A' n' c') (.bool cl))
  have HCS := Lib.hid (cut_size T f t cl h.asc)
  have HCA := Lib.hid (cut_at T f t cl h.asc)
  have HC5 : Hid ((cutM T.list f t cl true).length ≤ 100000) := (Nat.le_trans (cutM_len _ _ _ _ _) (by have := h.sz; have := T.size_list; omega) : (cutM T.list f t cl true).length ≤ 100000)
  have HSK := Lib.hid hsk
  have HTD : Hid (TIn (fun b => b < w.heap.size) w (.pointer tu) T) := h.tin.imp fun b hb _ => hb
  clear h hs hsk
  go_enter Tryz.func27, Tryz.ntmps27
  go_upto_region 1 with fail
  generalize (w.alloc (.cells (chA sd u (.pointer tu)) 38)).alloc (.cells #[.slice A n c, .slice A' n' c', .bool cl] 25) = X at *
  have in38 := in38' (u := u) (p := .pointer tu) HS.out.seed
  have ul38 := Tryz.underlying38
  refine start_ (n := 8) (S := fun w' => Below X.heap.size X w') (ds := []) #[false, false, false, false, false, false, false, false] (by kernel_rfl) rfl rfl (below_drew2 (Below.refl _ _)) (fun hHeld => ?_)
  refine take_ (i := 0) (N := some 9) (v := .agg (chA sd u (.pointer tu))) (a' := ?aa6) #[true, false, false, false, false, false, false, false] rfl rfl (by kernel_rfl) (fun _ _ _ h => h) (yieldsIf_load_mid rfl 38 (.tmp 4) rfl w.heap.size 0 rfl (chA sd u (.pointer tu)).toList _ (fun _ h => HX.out.ra h) ul38 rfl in38) hHeld ?ha6 ?_
  case ha6 =>
    simp only [Act.put, List.setIfInBounds_toArray, List.set_cons_zero, List.set_cons_succ]
    rfl
  clear ul38 in38
  refine take_ (i := 2) (N := some 11) (v := .agg #[.slice A n c, .slice A' n' c', .bool cl]) (a' := ?aa7) #[true, false, true, false, false, false, false, false] rfl rfl (by kernel_rfl) (fun _ _ _ h => h) (Or.inl ⟨by rfl, ?hy7⟩) hHeld ?ha7 ?hn7
  case hy7 =>
    rintro w' hw'
    obtain ⟨d0, d1, d2⟩ := (HX.out.tri w' hw').cells
    go_simp
  case ha7 =>
    simp only [Act.put, List.setIfInBounds_toArray, List.set_cons_zero, List.set_cons_succ]
    rfl
  refine pure_ (i := 4) (N := some 13) (v := ?vv8) (a' := ?aa8) #[true, false, true, false, true, false, false, false] rfl rfl (by kernel_rfl) (fun _ _ _ h => h) (Or.inl ⟨by rfl, ?hy8⟩) ?ha8 ?hn8
  case hy8 =>
    intro w'
    go_simp
    with_reducible rfl
  case ha8 =>
    simp only [Act.put, List.setIfInBounds_toArray, List.set_cons_zero, List.set_cons_succ]
    rfl
  refine pure_ (i := 5) (N := some 14) (v := ?vv9) (a' := ?aa9) #[true, false, true, false, true, true, false, false] rfl rfl (by kernel_rfl) (fun _ _ _ h => h) (Or.inl ⟨by rfl, ?hy9⟩) ?ha9 ?hn9
  case hy9 =>
    intro w'
    go_simp
    with_reducible rfl
  case ha9 =>
    simp only [Act.put, List.setIfInBounds_toArray, List.set_cons_zero, List.set_cons_succ]
    rfl
  refine one_ (i := 1) (N := some 10) #[true, true, true, false, true, true, false, false] rfl rfl (by kernel_rfl) (by decide) (fun K hK => ?_)
  refine goes_ Tryz.func37 (by kernel_rfl) rfl #[.agg (chA sd u (.pointer tu))] (by rfl) rfl rfl (by simp only [List.map_toArray, List.map_cons, List.map_nil]; rfl) ?_
  refine (chIndex_any sd HS.out.seed u (.pointer tu) X.drew).mono ?_
  rintro e w1 ⟨rfl, hb1⟩
  have HB1 : Hid (Below X.heap.size X w1) := below_drew1 hb1
  clear hb1
  refine ⟨_, rfl, hK.out _ _ HB1.out (fun hHeld => ?_)⟩
  simp only [Act.put, List.setIfInBounds_toArray, List.set_cons_zero, List.set_cons_succ]
  refine one_ (i := 3) (N := some 12) #[true, true, true, true, true, true, false, false] rfl rfl (by kernel_rfl) (by decide) (fun K hK => ?_)
  refine goes_ Tryz.func48 (by kernel_rfl) rfl #[.pointer tu, .agg #[.slice A n c, .slice A' n' c', .bool cl]] (by rfl) rfl rfl (by simp only [List.map_toArray, List.map_cons, List.map_nil]; rfl) ?_
  have HBW1 : Hid (Below w.heap.size w w1) := HX.out.below.trans (HB1.out.mono HX.out.below.size)
  refine (Down_any (D := fun b => b < w.heap.size) (S' := fun _ => True) T tu A A' n n' c c' f t cl w1 (HTD.out.below HBW1.out) (HSP.out.below HBW1.out) (by have := HS.out.sz; omega) (fun b hb => Nat.lt_of_lt_of_le hb HBW1.out.size)).mono ?_
  rintro e w2 ⟨rfl, h2⟩
  have HB2 : Hid (Below X.heap.size X w2) := HB1.out.trans (h2.out.2.mono HB1.out.size)
  have HCLO := Lib.hid h2.out.1
  have HBW2 : Hid (Below w.heap.size w w2) := HX.out.below.trans (HB2.out.mono HX.out.below.size)
  have hsq := down_seqF HCLO.out
  rw [← HCS.out] at hsq
  have HSQ := Lib.hid hsq
  clear h2 hsq
  refine ⟨_, rfl, hK.out _ _ HB2.out (fun hHeld => ?_)⟩
  simp only [Act.put, List.setIfInBounds_toArray, List.set_cons_zero, List.set_cons_succ]
  refine one_ (i := 6) (N := some 15) #[true, true, true, true, true, true, true, false] rfl rfl (by kernel_rfl) (by decide) (fun K hK => ?_)
  refine goes_ Tryz.func47 (by kernel_rfl) rfl #[.func (.func 72) #[] #[.pointer (some ⟨w1.heap.size, 0, none⟩), .pointer (some ⟨w1.heap.size + 1, 0, none⟩)], .int .i64 sk, .int .i64 mo] (by rfl) rfl rfl (by simp only [List.map_toArray, List.map_cons, List.map_nil]; rfl) ?_
  refine (some_any sk mo (cutM T.list f t cl true).reverse w2 (by simpa only [List.length_reverse] using HSQ.out) (enters_of Tryz.func72 (by kernel_rfl) rfl) HCLO.out.dom (fun g pre x V W h => ?_) (by rw [List.length_reverse]; exact HC5.out) HSK.out).mono ?_
  · obtain ⟨h1, h2, h3⟩ := h
    simp only [] at h2
    have hj : pre.length < (cutM T.list f t cl true).length := by rw [HCS.out]; exact h1
    refine ⟨by rw [List.length_reverse]; exact hj, ?_⟩
    rw [getD_reverse hj, HCA.out _ (by omega), show T.belowT (fun k => decide (cmp k f = -1)) + ((cutM T.list f t cl true).length - 1 - pre.length) = x.1 by have := HCS.out; omega]
    exact h3
  rintro e w3 hg
  have HBW3 : Hid (GotL w w3 e (sm sk mo (cutM T.list f t cl true).reverse) ∧ Below X.heap.size X w3) := ⟨hg.up HBW2.out, HB2.out.trans ((by obtain ⟨_, _, _, _, _, hb⟩ := hg; exact hb : Below w2.heap.size w2 w3).mono HB2.out.size)⟩
  obtain ⟨A3, c3, rfl, _⟩ := hg
  refine ⟨_, rfl, hK.out _ _ HBW3.out.2 (fun hHeld => ?_)⟩
  simp only [Act.put, List.setIfInBounds_toArray, List.set_cons_zero, List.set_cons_succ]
  refine pure_ (i := 7) (N := some 8) (v := ?vv10) (a' := ?aa10) #[true, true, true, true, true, true, true, true] rfl rfl (by kernel_rfl) (fun _ _ _ h => h) (Or.inl ⟨by rfl, ?hy10⟩) ?ha10 ?hn10
  case hy10 =>
    intro w'
    go_simp
    with_reducible rfl
  case ha10 =>
    simp only [Act.put, List.setIfInBounds_toArray, List.set_cons_zero, List.set_cons_succ]
    rfl
  refine done_ (by kernel_rfl) ?_
  go_wp2_with fail
  go_ret
  exact HBW3.out.1


end Go.Proofs.YtphjaebkcimklaaGreatDoor

/- scan.Ends. -/
set_option linter.unusedVariables false
set_option linter.unusedSimpArgs false
namespace Go.Proofs.YtphjaebkcimklaaGreatDoor
open Go.RowKit Go.Shelf Go.Proofs.YtphjaebkcimklaaGreatDoorW.PrintLast
attribute [local go_sem] Oper.semAt_some

/-- What At told, and its box. -/
structure Told (Y : World) (g : Nat) (A : Option Addr) (n c : Nat) (A' : Option Addr) (n' c' : Nat) (L : Pairs) (i : Int) : Prop where
  two : Two Y g (.slice A n c) (.slice A' n' c')
  pin : PIn (fun _ => True) Y (.agg #[.slice A n c, .slice A' n' c']) (if 0 ≤ i ∧ i < (L.length : Int) then L.getD i.toNat ([], []) else ([], [])).1 (if 0 ≤ i ∧ i < (L.length : Int) then L.getD i.toNat ([], []) else ([], [])).2
theorem Told.below {Y Z : World} {g : Nat} {A : Option Addr} {n c : Nat} {A' : Option Addr} {n' c' : Nat} {L : Pairs} {i : Int} (h : Told Y g A n c A' n' c' L i) (hb : Below Y.heap.size Y Z) : Told Z g A n c A' n' c' L i :=
  ⟨h.two.below hb h.two.lt, h.pin.below hb⟩
theorem AtR.told {w w' : World} {e : Ending} {L : Pairs} {i : Int} (h : AtR w w' e L i) :
    ∃ A n c A' n' c' ok, e = .returned (.tuple #[.agg #[.slice A n c, .slice A' n' c'], .bool ok]) ∧ Hid (ok = decide (0 ≤ i ∧ i < (L.length : Int))) ∧
      Hid (Told (w'.alloc (.cells #[.slice A n c, .slice A' n' c'] 60)) w'.heap.size A n c A' n' c' L i) ∧ Hid (Below w.heap.size w (w'.alloc (.cells #[.slice A n c, .slice A' n' c'] 60))) := by
  obtain ⟨A, n, c, A', n', c', rfl, hp, hb⟩ := h
  refine ⟨A, n, c, A', n', c', _, rfl, Lib.hid rfl, Lib.hid ⟨heap_new w' _, ?_⟩, Lib.hid (hb.alloc hb.size _)⟩
  exact (hp.below ((Below.refl _ w').alloc (Nat.le_refl _) _)).imp (fun _ _ _ => trivial)

theorem AtR.size {w w' : World} {e : Ending} {L : Pairs} {i : Int} (h : AtR w w' e L i) : w.heap.size ≤ w'.heap.size := by
  obtain ⟨_, _, _, _, _, _, _, _, hb⟩ := h
  exact hb.size

/-- Bytes do not lie in an empty pair. -/
theorem BIn.notPair {S : Nat → Prop} {w : World} {v : Value} {l : Bytes} {g g' : Nat} (h : BIn S w v l) (hg : Two w g (.slice none 0 0) (.slice none 0 0)) (hg' : Two w g' (.slice none 0 0) (.slice none 0 0)) : BIn (fun x => x ≠ g ∧ x ≠ g') w v l := by
  obtain ⟨A, n, c, rfl, hc, hr, hs⟩ := h
  have one : ∀ g, Two w g (.slice none 0 0) (.slice none 0 0) → ∀ b o, 0 < n → A = some ⟨b, o, none⟩ → b ≠ g := fun g hg b o hn e hbg => by
    obtain ⟨b1, o1, e1, hlt, hcell⟩ := hr.cell hn
    rw [e] at e1
    cases e1
    subst hbg
    have h0 := hcell 0 hn
    have hg2 : w.heap[b]? = some (.cells #[.slice none 0 0, .slice none 0 0] 60 (0, 0)) := hg
    simp [World.cell?, hg2] at h0
    rcases o with _ | _ | o
    · simp at h0
    · simp at h0
    · simp at h0
  exact ⟨A, n, c, rfl, hc, hr, fun b' o hn e => ⟨one g hg b' o hn e, one g' hg' b' o hn e⟩⟩

/-- The first and the last pair of a list. -/
def EndsR (w w' : World) (e : Ending) (C : Pairs) : Prop :=
  ∃ A1 n1 c1 A2 n2 c2 A3 n3 c3 A4 n4 c4, e = .returned (.tuple #[.agg #[.slice A1 n1 c1, .slice A2 n2 c2], .agg #[.slice A3 n3 c3, .slice A4 n4 c4], .bool (decide (0 < C.length))]) ∧
    PIn (fun _ => True) w' (.agg #[.slice A1 n1 c1, .slice A2 n2 c2]) (C.getD 0 ([], [])).1 (C.getD 0 ([], [])).2 ∧ PIn (fun _ => True) w' (.agg #[.slice A3 n3 c3, .slice A4 n4 c4]) (C.getD (C.length - 1) ([], [])).1 (C.getD (C.length - 1) ([], [])).2 ∧ Below w.heap.size w w'
theorem results_cct {fn : Func} {p q r : Tmp} (h : fn.results = #[.cell p 60, .cell q 60, .tmp r]) (tmps : Array Value) (w : World) (g1 g2 : Nat) (x y x' y' : Value) (hp : tmps.getD p undef = .pointer (some ⟨g1, 0, none⟩)) (hq : tmps.getD q undef = .pointer (some ⟨g2, 0, none⟩)) (h1 : Two w g1 x y) (h2 : Two w g2 x' y') :
    (results fn tmps).run Tryz.prog w = .ok (.tuple #[.agg #[x, y], .agg #[x', y'], tmps.getD r undef]) w := by
  have hp' : tmps[p]?.getD undef = .pointer (some ⟨g1, 0, none⟩) := by simpa using hp
  have hq' : tmps[q]?.getD undef = .pointer (some ⟨g2, 0, none⟩) := by simpa using hq
  have r1 := run_loadVar_row (P := Tryz.prog) w g1 60 60 #[x, y] (0, 0) _ h1 Tryz.underlying60 rfl info39
  have r2 := run_loadVar_row (P := Tryz.prog) w g2 60 60 #[x', y'] (0, 0) _ h2 Tryz.underlying60 rfl info39
  simp [results, h, hp', hq', asAddr, r1, r2]
/-- Ends' four boxes. -/
structure Bx4 (w X : World) (sd : Array Value) (u : Value) (tu : Option Addr) (x y z : Value) : Prop where
  row : ∀ V, Below X.heap.size X V → V.heap[w.heap.size]? = some (.cells (chA sd u (.pointer tu)) 38 (0, 0))
  tri : ∀ V, Below X.heap.size X V → Tri 25 V (w.heap.size + 1) x y z
  p1 : ∀ V, Below X.heap.size X V → Two V (w.heap.size + 1 + 1) (.slice none 0 0) (.slice none 0 0)
  p2 : ∀ V, Below X.heap.size X V → Two V (w.heap.size + 1 + 1 + 1) (.slice none 0 0) (.slice none 0 0)
  below : Below w.heap.size w X
  size : X.heap.size = w.heap.size + 1 + 1 + 1 + 1
theorem bx4 (w : World) (sd : Array Value) (u : Value) (tu : Option Addr) (x y z : Value) : Bx4 w ((((w.alloc (.cells (chA sd u (.pointer tu)) 38)).alloc (.cells #[x, y, z] 25)).alloc (.cells #[.slice none 0 0, .slice none 0 0] 60)).alloc (.cells #[.slice none 0 0, .slice none 0 0] 60)) sd u tu x y z := by
  have h := bx2 w sd u tu x y z
  have hs2 : ((w.alloc (.cells (chA sd u (.pointer tu)) 38)).alloc (.cells #[x, y, z] 25)).heap.size = w.heap.size + 1 + 1 := by simp
  generalize (w.alloc (.cells (chA sd u (.pointer tu)) 38)).alloc (.cells #[x, y, z] 25) = X at *
  have hb1 : Below X.heap.size X (X.alloc (.cells #[.slice none 0 0, .slice none 0 0] 60)) := (Below.refl _ _).alloc (Nat.le_refl _) _
  have hb2 : Below X.heap.size X ((X.alloc (.cells #[.slice none 0 0, .slice none 0 0] 60)).alloc (.cells #[.slice none 0 0, .slice none 0 0] 60)) := hb1.alloc hb1.size _
  have h1 : Two ((X.alloc (.cells #[.slice none 0 0, .slice none 0 0] 60)).alloc (.cells #[.slice none 0 0, .slice none 0 0] 60)) (w.heap.size + 1 + 1) (.slice none 0 0) (.slice none 0 0) := by
    have := heap_new X (.cells #[.slice none 0 0, .slice none 0 0] 60)
    rw [hs2] at this
    exact heap_old _ this
  have h2 : Two ((X.alloc (.cells #[.slice none 0 0, .slice none 0 0] 60)).alloc (.cells #[.slice none 0 0, .slice none 0 0] 60)) (w.heap.size + 1 + 1 + 1) (.slice none 0 0) (.slice none 0 0) := by
    have := heap_new (X.alloc (.cells #[.slice none 0 0, .slice none 0 0] 60)) (.cells #[.slice none 0 0, .slice none 0 0] 60)
    rw [World.size_alloc, hs2] at this
    exact this
  exact ⟨fun V hV => h.row V (hb2.trans (hV.mono hb2.size)), fun V hV => h.tri V (hb2.trans (hV.mono hb2.size)), fun V hV => h1.below hV h1.lt, fun V hV => h2.below hV h2.lt, h.below.trans (hb2.mono h.below.size), by simp [hs2]⟩

set_option maxRecDepth 100000 in
set_option maxHeartbeats 800000 in
theorem ends23_any {sd : Array Value} {u : Value} {tu : Option Addr} {T : PT} {A A' : Option Addr} {n n' c c' : Nat} {f t : Bytes} {cl : Bool} (w : World) (h : Sc w sd u tu T) (hs : SIn (fun _ => True) w (.agg #[.slice A n c, .slice A' n' c', .bool cl]) f t cl) :
    Calls Tryz.prog 18 #[.agg (chA sd u (.pointer tu)), .agg #[.slice A n c, .slice A' n' c', .bool cl]] w fun e w' => EndsR w w' e (cutM T.list f t cl true) := by
  have HS := Lib.hid h
  have HSP := Lib.hid hs
  have HX := Lib.hid (bx4 w sd u tu (.slice A n c) (.slice A' n' c') (.bool cl))
  have HCS := Lib.hid (cut_size T f t cl h.asc)
  have HCA := Lib.hid (cut_at T f t cl h.asc)
  have HCL : Hid ((cutM T.list f t cl true).length ≤ T.list.length ∧ T.list.length ≤ 1000 ∧ endT T t cl ≤ T.list.length) := ⟨cutM_len _ _ _ _ _, by have := h.sz; have := T.size_list; omega, by
    have h1 : endT T t cl ≤ T.size := by unfold endT; split; exact T.belowT_le _; exact Nat.le_refl _
    have := T.size_list; omega⟩
  have HCT := Lib.hid (fun (V : World) (h1 : Sc V sd u tu T) (h2 : SIn (fun _ => True) V (.agg #[.slice A n c, .slice A' n' c', .bool cl]) f t cl) => count_any V h1 h2)
  clear h hs
  generalize cutM T.list f t cl true = C at *
  obtain ⟨q, hq⟩ : ∃ q, C.length = q := ⟨_, rfl⟩
  have HQ := Lib.hid hq
  rw [hq] at HCS HCA HCL HCT
  clear hq
  go_enter Tryz.func18, Tryz.ntmps18
  go_upto_region 1 with fail
  generalize (((w.alloc (.cells (chA sd u (.pointer tu)) 38)).alloc (.cells #[.slice A n c, .slice A' n' c', .bool cl] 25)).alloc (.cells #[.slice none 0 0, .slice none 0 0] 60)).alloc (.cells #[.slice none 0 0, .slice none 0 0] 60) = X at *
  have HRA : Hid (∀ V, Below X.heap.size X V → V.rangeAt w.heap.size 0 (chA sd u (.pointer tu)).toList) := fun V hV => range_row 0 (HX.out.row V hV) fun j _ => by rw [Nat.zero_add]
  have in38 := in38' (u := u) (p := .pointer tu) HS.out.seed
  have HSC : Hid (∀ V, Below X.heap.size X V → Sc V sd u tu T ∧ SIn (fun _ => True) V (.agg #[.slice A n c, .slice A' n' c', .bool cl]) f t cl) := fun V hV => by
    have h2 := HX.out.below.trans (hV.mono HX.out.below.size)
    exact ⟨HS.out.below h2, HSP.out.below h2⟩
  have ra38 := HRA.out X (Below.refl _ _)
  obtain ⟨d0, d1, d2⟩ := (HX.out.tri X (Below.refl _ _)).cells
  go_wp2_with (refine wpList_load_mid rfl 38 _ rfl w.heap.size 0 (by rfl) (chA sd u (.pointer tu)).toList _ ra38 Tryz.underlying38 rfl in38 ?_)
  refine (HCT.out X (HSC.out X (Below.refl _ _)).1 (HSC.out X (Below.refl _ _)).2).mono ?_
  rintro e w1 ⟨rfl, hb1⟩
  have HB1 : Hid (Below X.heap.size X w1) := hb1
  clear hb1 d0 d1 d2 ra38
  have ra38 := HRA.out w1 HB1.out
  obtain ⟨d0, d1, d2⟩ := (HX.out.tri w1 HB1.out).cells
  by_cases h0 : q = 0
  · subst h0
    obtain rfl : C = [] := List.eq_nil_of_length_eq_zero HQ.out
    have t1 := HX.out.p1 w1 HB1.out
    have t2 := HX.out.p2 w1 HB1.out
    have f0 := frozen_of_row _ _ 0 _ _ t1
    have f1 := frozen_of_row _ _ 1 _ _ t1
    have f2 := frozen_of_row _ _ 0 _ _ t2
    have f3 := frozen_of_row _ _ 1 _ _ t2
    obtain ⟨z0, z1⟩ := t1.cells
    obtain ⟨z2, z3⟩ := t2.cells
    have T1 := Lib.hid t1
    have T2 := Lib.hid t2
    have hfin : Two ((((w1.setCell ⟨w.heap.size + 1 + 1, 0, none⟩ (.slice none 0 0)).setCell ⟨w.heap.size + 1 + 1, 1, none⟩ (.slice none 0 0)).setCell ⟨w.heap.size + 1 + 1 + 1, 0, none⟩ (.slice none 0 0)).setCell ⟨w.heap.size + 1 + 1 + 1, 1, none⟩ (.slice none 0 0)) (w.heap.size + 1 + 1) (.slice none 0 0) (.slice none 0 0) := by
      have h2 := Two.set t1 (.slice none 0 0) (.slice none 0 0)
      exact (heap_setCell_other _ _ _ _ (by simp only; omega)).trans ((heap_setCell_other _ _ _ _ (by simp only; omega)).trans h2)
    have hfin2 : Two ((((w1.setCell ⟨w.heap.size + 1 + 1, 0, none⟩ (.slice none 0 0)).setCell ⟨w.heap.size + 1 + 1, 1, none⟩ (.slice none 0 0)).setCell ⟨w.heap.size + 1 + 1 + 1, 0, none⟩ (.slice none 0 0)).setCell ⟨w.heap.size + 1 + 1 + 1, 1, none⟩ (.slice none 0 0)) (w.heap.size + 1 + 1 + 1) (.slice none 0 0) (.slice none 0 0) :=
      Two.set (u := .slice none 0 0) (v := .slice none 0 0) ((heap_setCell_other _ _ _ _ (by simp only; omega)).trans ((heap_setCell_other _ _ _ _ (by simp only; omega)).trans t2)) _ _
    have hbf : Below w.heap.size w ((((w1.setCell ⟨w.heap.size + 1 + 1, 0, none⟩ (.slice none 0 0)).setCell ⟨w.heap.size + 1 + 1, 1, none⟩ (.slice none 0 0)).setCell ⟨w.heap.size + 1 + 1 + 1, 0, none⟩ (.slice none 0 0)).setCell ⟨w.heap.size + 1 + 1 + 1, 1, none⟩ (.slice none 0 0)) := by
      have h1 := HX.out.below.trans (HB1.out.mono HX.out.below.size)
      have h2 : Below w.heap.size w (w1.setCell ⟨w.heap.size + 1 + 1, 0, none⟩ (.slice none 0 0)) := h1.setCell (p := ⟨w.heap.size + 1 + 1, 0, none⟩) (by show w.heap.size ≤ w.heap.size + 1 + 1; omega) _
      have h3 : Below w.heap.size w ((w1.setCell ⟨w.heap.size + 1 + 1, 0, none⟩ (.slice none 0 0)).setCell ⟨w.heap.size + 1 + 1, 1, none⟩ (.slice none 0 0)) := h2.setCell (p := ⟨w.heap.size + 1 + 1, 1, none⟩) (by show w.heap.size ≤ w.heap.size + 1 + 1; omega) _
      have h4 := h3.setCell (p := ⟨w.heap.size + 1 + 1 + 1, 0, none⟩) (by show w.heap.size ≤ w.heap.size + 1 + 1 + 1; omega) (.slice none 0 0)
      exact h4.setCell (p := ⟨w.heap.size + 1 + 1 + 1, 1, none⟩) (by show w.heap.size ≤ w.heap.size + 1 + 1 + 1; omega) _
    have HFIN := Lib.hid (And.intro hfin (And.intro hfin2 hbf))
    clear t1 t2 hfin hfin2 hbf
    go_wp2_with fail
    exact bodyPost_ret (results_cct rfl _ _ (w.heap.size + 1 + 1) (w.heap.size + 1 + 1 + 1) _ _ _ _ (by rfl) (by rfl) HFIN.out.1 HFIN.out.2.1) rfl ⟨_, _, _, _, _, _, _, _, _, _, _, _, rfl, ⟨_, _, rfl, BIn.nil _ _, BIn.nil _ _⟩, ⟨_, _, rfl, BIn.nil _ _, BIn.nil _ _⟩, HFIN.out.2.2⟩
  · have hne : ¬ (q : Int) = 0 := by omega
    have HRK := Lib.hid (fun V hV => crank_any A n c f V (HSC.out V hV).1 (by obtain ⟨_, _, e, h1, _⟩ := (HSC.out V hV).2; cases e; exact h1))
    go_wp2_with (refine wpList_load_mid rfl 38 _ rfl w.heap.size 0 (by rfl) (chA sd u (.pointer tu)).toList _ ra38 Tryz.underlying38 rfl in38 ?_)
    refine (HRK.out w1 HB1.out).mono ?_
    rintro e w2 ⟨rfl, hb2⟩
    have HB2 : Hid (Below X.heap.size X w2) := HB1.out.trans (hb2.mono HB1.out.size)
    clear hb2 d0 d1 d2 ra38
    have ra38 := HRA.out w2 HB2.out
    obtain ⟨lo, hlo⟩ : ∃ lo, T.belowT (fun k => decide (cmp k f = -1)) = lo := ⟨_, rfl⟩
    rw [hlo]
    rw [hlo] at HCS HCA
    have HLO : Hid (lo + q ≤ 1000) := (by have := HCS.out; have := HCL.out; omega : lo + q ≤ 1000)
    have hlq := HLO.out
    have HAT := Lib.hid (fun (i : Nat) V hV (hi : i ≤ 10000) => cat_any (i : Int) V (HSC.out V hV).1 (WalkArith.wf_i64 (by omega)))
    go_wp2_with (refine wpList_load_mid rfl 38 _ rfl w.heap.size 0 (by rfl) (chA sd u (.pointer tu)).toList _ ra38 Tryz.underlying38 rfl in38 ?_)
    refine (HAT.out lo w2 HB2.out (by omega)).mono ?_
    rintro e w3 hr
    have HG3 : Hid (w.heap.size + 1 + 1 + 1 < w3.heap.size) := (by have h1 := hr.size; have h2 := HB2.out.size; have h3 := HX.out.size; omega : w.heap.size + 1 + 1 + 1 < w3.heap.size)
    obtain ⟨A1, n1, c1, A2, n2, c2, ok3, rfl, o3, t3, b3⟩ := hr.told
    clear hr ra38
    go_upto_region 6 with fail
    generalize w3.heap.size = g3 at *
    generalize w3.alloc (.cells #[.slice A1 n1 c1, .slice A2 n2 c2] 60) = Y at *
    have HBY : Hid (Below X.heap.size X Y) := HB2.out.trans (b3.out.mono HB2.out.size)
    have ra38 := HRA.out Y HBY.out
    obtain ⟨hi, hhi⟩ : ∃ hi : Nat, lo + q - 1 = hi := ⟨_, rfl⟩
    have HHI := Lib.hid hhi
    have w1_ : IntKind.i64.wrap ((lo : Int) + (q : Int)) = (lo : Int) + (q : Int) := wsm _ (by omega)
    have w2_ : IntKind.i64.wrap ((lo : Int) + (q : Int) - 1) = (hi : Int) := (wsm _ (by omega)).trans (by omega)
    clear hhi hlq
    go_wp2_with (refine wpList_load_mid rfl 38 _ rfl w.heap.size 0 (by rfl) (chA sd u (.pointer tu)).toList _ ra38 Tryz.underlying38 rfl in38 ?_)
    refine (HAT.out hi Y HBY.out (by have := HLO.out; have := HHI.out; omega)).mono ?_
    rintro e w4 hr
    have HG4 : Hid (w.heap.size + 1 + 1 + 1 < w4.heap.size) := (by have h1 := hr.size; have h2 := HBY.out.size; have h3 := HX.out.size; omega : w.heap.size + 1 + 1 + 1 < w4.heap.size)
    obtain ⟨A3, n3, c3, A4, n4, c4, ok4, rfl, o4, t4, b4⟩ := hr.told
    clear hr ra38
    go_upto_region 7 with fail
    generalize w4.heap.size = g4 at *
    generalize w4.alloc (.cells #[.slice A3 n3 c3, .slice A4 n4 c4] 60) = Z at *
    have HBZ : Hid (Below X.heap.size X Z) := HBY.out.trans (b4.out.mono HBY.out.size)
    have T3 := Lib.hid (t3.out.below b4.out)
    have HPZ : Hid (∀ V, Below Z.heap.size Z V → Two V g3 (.slice A1 n1 c1) (.slice A2 n2 c2) ∧ Two V g4 (.slice A3 n3 c3) (.slice A4 n4 c4) ∧ Two V (w.heap.size + 1 + 1) (.slice none 0 0) (.slice none 0 0) ∧ Two V (w.heap.size + 1 + 1 + 1) (.slice none 0 0) (.slice none 0 0)) := fun V hV => by
      have h2 : Below X.heap.size X V := HBZ.out.trans (hV.mono HBZ.out.size)
      exact ⟨(T3.out.below hV).two, (t4.out.below hV).two, HX.out.p1 V h2, HX.out.p2 V h2⟩
    have HZ1 := Lib.hid (HPZ.out Z.drew (below_drew2 (Below.refl _ _)))
    obtain ⟨e0, e1⟩ := (HPZ.out Z (Below.refl _ _)).1.cells
    obtain ⟨e2, e3⟩ := (HPZ.out Z (Below.refl _ _)).2.1.cells
    have P1 := Lib.hid (HPZ.out Z (Below.refl _ _)).2.2.1
    have P2 := Lib.hid (HPZ.out Z (Below.refl _ _)).2.2.2
    have f0 := frozen_of_row _ _ 0 _ _ P1.out
    have f1 := frozen_of_row _ _ 1 _ _ P1.out
    have f2 := frozen_of_row _ _ 0 _ _ P2.out
    have f3 := frozen_of_row _ _ 1 _ _ P2.out
    obtain ⟨z0, z1⟩ := P1.out.cells
    obtain ⟨z2, z3⟩ := P2.out.cells
    have q1 : ¬ g3 = w.heap.size + 1 + 1 := by have := HG3.out; omega
    have q2 : ¬ g4 = w.heap.size + 1 + 1 := by have := HG4.out; omega
    have q3 : ¬ w.heap.size + 1 + 1 = g3 := by have := HG3.out; omega
    have q4 : ¬ w.heap.size + 1 + 1 = g4 := by have := HG4.out; omega
    have hmx : Tryz.prog.follows .mixedOrders = true := by kernel_rfl
    have hls : Tryz.prog.follows .lateStores = true := by kernel_rfl
    have hset : ∀ b, b ≠ w.heap.size + 1 + 1 → b ≠ w.heap.size + 1 + 1 + 1 → ((((Z.setCell ⟨w.heap.size + 1 + 1, 0, none⟩ (.slice A1 n1 c1)).setCell ⟨w.heap.size + 1 + 1, 1, none⟩ (.slice A2 n2 c2)).setCell ⟨w.heap.size + 1 + 1 + 1, 0, none⟩ (.slice A3 n3 c3)).setCell ⟨w.heap.size + 1 + 1 + 1, 1, none⟩ (.slice A4 n4 c4)).drew.heap[b]? = Z.heap[b]? := fun b h1 h2 => by
      show ((((Z.setCell ⟨w.heap.size + 1 + 1, 0, none⟩ (.slice A1 n1 c1)).setCell ⟨w.heap.size + 1 + 1, 1, none⟩ (.slice A2 n2 c2)).setCell ⟨w.heap.size + 1 + 1 + 1, 0, none⟩ (.slice A3 n3 c3)).setCell ⟨w.heap.size + 1 + 1 + 1, 1, none⟩ (.slice A4 n4 c4)).heap[b]? = _
      rw [heap_setCell_other _ _ _ _ (by simpa using h2), heap_setCell_other _ _ _ _ (by simpa using h2), heap_setCell_other _ _ _ _ (by simpa using h1), heap_setCell_other _ _ _ _ (by simpa using h1)]
    have hsz : ((((Z.setCell ⟨w.heap.size + 1 + 1, 0, none⟩ (.slice A1 n1 c1)).setCell ⟨w.heap.size + 1 + 1, 1, none⟩ (.slice A2 n2 c2)).setCell ⟨w.heap.size + 1 + 1 + 1, 0, none⟩ (.slice A3 n3 c3)).setCell ⟨w.heap.size + 1 + 1 + 1, 1, none⟩ (.slice A4 n4 c4)).drew.heap.size = Z.heap.size := by
      show ((((Z.setCell ⟨w.heap.size + 1 + 1, 0, none⟩ (.slice A1 n1 c1)).setCell ⟨w.heap.size + 1 + 1, 1, none⟩ (.slice A2 n2 c2)).setCell ⟨w.heap.size + 1 + 1 + 1, 0, none⟩ (.slice A3 n3 c3)).setCell ⟨w.heap.size + 1 + 1 + 1, 1, none⟩ (.slice A4 n4 c4)).heap.size = _
      simp
    have hw1 : Two ((((Z.setCell ⟨w.heap.size + 1 + 1, 0, none⟩ (.slice A1 n1 c1)).setCell ⟨w.heap.size + 1 + 1, 1, none⟩ (.slice A2 n2 c2)).setCell ⟨w.heap.size + 1 + 1 + 1, 0, none⟩ (.slice A3 n3 c3)).setCell ⟨w.heap.size + 1 + 1 + 1, 1, none⟩ (.slice A4 n4 c4)).drew (w.heap.size + 1 + 1) (.slice A1 n1 c1) (.slice A2 n2 c2) :=
      (heap_setCell_other _ _ _ _ (by simp only; omega)).trans ((heap_setCell_other _ _ _ _ (by simp only; omega)).trans (Two.set P1.out (.slice A1 n1 c1) (.slice A2 n2 c2)))
    have hw2 : Two ((((Z.setCell ⟨w.heap.size + 1 + 1, 0, none⟩ (.slice A1 n1 c1)).setCell ⟨w.heap.size + 1 + 1, 1, none⟩ (.slice A2 n2 c2)).setCell ⟨w.heap.size + 1 + 1 + 1, 0, none⟩ (.slice A3 n3 c3)).setCell ⟨w.heap.size + 1 + 1 + 1, 1, none⟩ (.slice A4 n4 c4)).drew (w.heap.size + 1 + 1 + 1) (.slice A3 n3 c3) (.slice A4 n4 c4) :=
      Two.set (u := .slice none 0 0) (v := .slice none 0 0) ((heap_setCell_other _ _ _ _ (by simp only; omega)).trans ((heap_setCell_other _ _ _ _ (by simp only; omega)).trans P2.out)) (.slice A3 n3 c3) (.slice A4 n4 c4)
    have hmv : ∀ {v : Value} {l : Bytes}, BIn (fun b => b ≠ w.heap.size + 1 + 1 ∧ b ≠ w.heap.size + 1 + 1 + 1) Z v l → BIn (fun _ => True) ((((Z.setCell ⟨w.heap.size + 1 + 1, 0, none⟩ (.slice A1 n1 c1)).setCell ⟨w.heap.size + 1 + 1, 1, none⟩ (.slice A2 n2 c2)).setCell ⟨w.heap.size + 1 + 1 + 1, 0, none⟩ (.slice A3 n3 c3)).setCell ⟨w.heap.size + 1 + 1 + 1, 1, none⟩ (.slice A4 n4 c4)).drew v l := fun hb => (hb.carry (by rw [hsz]; exact Nat.le_refl _) fun b h _ => hset b h.1 h.2).imp fun _ _ _ => trivial
    have hbz : Below w.heap.size w ((((Z.setCell ⟨w.heap.size + 1 + 1, 0, none⟩ (.slice A1 n1 c1)).setCell ⟨w.heap.size + 1 + 1, 1, none⟩ (.slice A2 n2 c2)).setCell ⟨w.heap.size + 1 + 1 + 1, 0, none⟩ (.slice A3 n3 c3)).setCell ⟨w.heap.size + 1 + 1 + 1, 1, none⟩ (.slice A4 n4 c4)).drew := by
      have h1 := HX.out.below.trans (HBZ.out.mono HX.out.below.size)
      have hs1 := h1.size
      exact ⟨h1.os, h1.tape, h1.output, by rw [hsz]; exact hs1, fun b hb => (hset b (by omega) (by omega)).trans (h1.block b hb)⟩
    have hhi := HHI.out
    have hlq := HLO.out
    have hct := HCL.out
    have hcs := HCS.out
    have g0 := HCA.out 0 (by omega)
    have g1 := HCA.out (q - 1) (by omega)
    rw [Nat.add_zero] at g0
    rw [show lo + (q - 1) = hi by omega] at g1
    have hp3 := T3.out.pin
    have hp4 := t4.out.pin
    rw [if_pos ⟨by omega, by omega⟩, Int.toNat_natCast, ← g0] at hp3
    rw [if_pos ⟨by omega, by omega⟩, Int.toNat_natCast, ← g1] at hp4
    have HFIN : Hid (PIn (fun _ => True) ((((Z.setCell ⟨w.heap.size + 1 + 1, 0, none⟩ (.slice A1 n1 c1)).setCell ⟨w.heap.size + 1 + 1, 1, none⟩ (.slice A2 n2 c2)).setCell ⟨w.heap.size + 1 + 1 + 1, 0, none⟩ (.slice A3 n3 c3)).setCell ⟨w.heap.size + 1 + 1 + 1, 1, none⟩ (.slice A4 n4 c4)).drew (.agg #[.slice A1 n1 c1, .slice A2 n2 c2]) (C.getD 0 ([], [])).1 (C.getD 0 ([], [])).2 ∧ PIn (fun _ => True) ((((Z.setCell ⟨w.heap.size + 1 + 1, 0, none⟩ (.slice A1 n1 c1)).setCell ⟨w.heap.size + 1 + 1, 1, none⟩ (.slice A2 n2 c2)).setCell ⟨w.heap.size + 1 + 1 + 1, 0, none⟩ (.slice A3 n3 c3)).setCell ⟨w.heap.size + 1 + 1 + 1, 1, none⟩ (.slice A4 n4 c4)).drew (.agg #[.slice A3 n3 c3, .slice A4 n4 c4]) (C.getD (C.length - 1) ([], [])).1 (C.getD (C.length - 1) ([], [])).2 ∧ Below w.heap.size w ((((Z.setCell ⟨w.heap.size + 1 + 1, 0, none⟩ (.slice A1 n1 c1)).setCell ⟨w.heap.size + 1 + 1, 1, none⟩ (.slice A2 n2 c2)).setCell ⟨w.heap.size + 1 + 1 + 1, 0, none⟩ (.slice A3 n3 c3)).setCell ⟨w.heap.size + 1 + 1 + 1, 1, none⟩ (.slice A4 n4 c4)).drew ∧ Two ((((Z.setCell ⟨w.heap.size + 1 + 1, 0, none⟩ (.slice A1 n1 c1)).setCell ⟨w.heap.size + 1 + 1, 1, none⟩ (.slice A2 n2 c2)).setCell ⟨w.heap.size + 1 + 1 + 1, 0, none⟩ (.slice A3 n3 c3)).setCell ⟨w.heap.size + 1 + 1 + 1, 1, none⟩ (.slice A4 n4 c4)).drew (w.heap.size + 1 + 1) (.slice A1 n1 c1) (.slice A2 n2 c2) ∧ Two ((((Z.setCell ⟨w.heap.size + 1 + 1, 0, none⟩ (.slice A1 n1 c1)).setCell ⟨w.heap.size + 1 + 1, 1, none⟩ (.slice A2 n2 c2)).setCell ⟨w.heap.size + 1 + 1 + 1, 0, none⟩ (.slice A3 n3 c3)).setCell ⟨w.heap.size + 1 + 1 + 1, 1, none⟩ (.slice A4 n4 c4)).drew (w.heap.size + 1 + 1 + 1) (.slice A3 n3 c3) (.slice A4 n4 c4) ∧ decide (0 < C.length) = true) := by
      rw [HQ.out]
      obtain ⟨k3, x3⟩ := hp3.kx
      obtain ⟨k4, x4⟩ := hp4.kx
      exact ⟨⟨_, _, rfl, hmv (k3.notPair P1.out P2.out), hmv (x3.notPair P1.out P2.out)⟩, ⟨_, _, rfl, hmv (k4.notPair P1.out P2.out), hmv (x4.notPair P1.out P2.out)⟩, hbz, hw1, hw2, decide_eq_true (by omega)⟩
    clear in38 hset hsz hw1 hw2 hmv hbz hhi hlq hct hcs g0 g1 hp3 hp4
    go_region_with (fail)
    all_goals
      go_wp2_with fail
      exact bodyPost_ret (results_cct rfl _ _ (w.heap.size + 1 + 1) (w.heap.size + 1 + 1 + 1) _ _ _ _ (by rfl) (by rfl) HFIN.out.2.2.2.1 HFIN.out.2.2.2.2.1) rfl ⟨_, _, _, _, _, _, _, _, _, _, _, _, by rw [HFIN.out.2.2.2.2.2]; rfl, HFIN.out.1, HFIN.out.2.1, HFIN.out.2.2.1⟩

end Go.Proofs.YtphjaebkcimklaaGreatDoor
