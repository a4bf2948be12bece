/- Texts put together: FGroups. -/
import Derived.Test.YtphjaebkcimklaaGreatDoorMr
import Derived.Test.YtphjaebkcimklaaGreatDoorWLast
import Derived.Test.YtphjaebkcimklaaGreatDoorMf5
/- scan.Groups: the iterator's contract. -/
set_option linter.unusedVariables false
set_option linter.unusedSimpArgs false
namespace Go.Proofs.YtphjaebkcimklaaGreatDoor
open Go.RowKit Go.Shelf Go.Proofs.YtphjaebkcimklaaGreatDoorW.PrintLast
attribute [local go_sem] Oper.semAt_some

/-- A block of one cell. -/
def One (T : TypeId) (W : World) (g : Nat) (v : Value) : Prop := W.heap[g]? = some (.cells #[v] T (0, 0))
theorem One.cell {T : TypeId} {W : World} {g : Nat} {v : Value} (h : One T W g v) : W.cell? ⟨g, 0, none⟩ = some v := by
  have := cell_of_row W g 0 _ _ _ h
  simpa using this
theorem One.frozen {T : TypeId} {W : World} {g : Nat} {v : Value} (h : One T W g v) : W.frozen? ⟨g, 0, none⟩ = false := frozen_of_row _ _ 0 _ _ h
theorem One.lt {T : TypeId} {W : World} {g : Nat} {v : Value} (h : One T W g v) : g < W.heap.size := (Array.getElem?_eq_some_iff.1 h).1
theorem One.block {T : TypeId} {W W' : World} {g : Nat} {v : Value} (h : One T W g v) (hb : W'.heap[g]? = W.heap[g]?) : One T W' g v := hb.trans h
theorem One.below {T : TypeId} {W W' : World} {g n : Nat} {v : Value} (h : One T W g v) (hb : Below n W W') (hn : g < n) : One T W' g v := (hb.block g hn).trans h
theorem One.set {T : TypeId} {W : World} {g : Nat} {v : Value} (h : One T W g v) (x : Value) : One T (W.setCell ⟨g, 0, none⟩ x) g x := by
  simp [One, World.setCell, Array.getElem?_modify, show W.heap[g]? = _ from h]
theorem One.other {T : TypeId} {W : World} {g b i : Nat} {v x : Value} (h : One T W g v) (hb : b ≠ g) : One T (W.setCell ⟨b, i, none⟩ x) g v := by
  unfold One
  rw [heap_setCell_other _ _ _ _ (by simpa using hb.symm)]
  exact h
theorem results_one {fn : Func} {p : Tmp} (h : fn.results = #[.cell p 4]) (tmps : Array Value) (w : World) (g : Nat) (v : Value) (hp : tmps.getD p undef = .pointer (some ⟨g, 0, none⟩)) (hc : One 4 w g v) :
    (results fn tmps).run Tryz.prog w = .ok v w := by
  have hc2 := hc.cell
  have hp2 : tmps[p]?.getD undef = .pointer (some ⟨g, 0, none⟩) := by simpa using hp
  simp [results, h, hp2, asAddr, go_sem, hc2]

theorem func_nil (W : World) (k : Nat) (lb : Array Value) : (binOp .eql 49 (.func (.func k) #[] lb) Value.nilFunc).run Tryz.prog W = .ok (.bool false) W := by
  kernel_rfl
theorem leave_one {F : Fence} {n : Nat} {fn : Func} {R : Ending → World → Prop} {tmps : Array Value} {w : World} {g : Nat} {p : Tmp} (h : fn.results = #[.cell p 4]) (hp : tmps.getD p undef = .pointer (some ⟨g, 0, none⟩)) (hc : One 4 w g (.bool true)) (hR : R (.returned (.bool true)) w) :
    bodyPostM F n Tryz.prog fn R .ret { tmps := tmps, defers := [] } w := ⟨_, results_one h _ _ g _ hp hc, hR⟩
theorem leave_mark {F : Fence} {n : Nat} {fn : Func} {R : Ending → World → Prop} {tmps : Array Value} {w : World} {g D : Nat} {p : Tmp} (h : fn.results = #[.cell p 4]) (hp : tmps.getD p undef = .pointer (some ⟨g, 0, none⟩)) (hc : One 4 w g (.bool true)) (hD : w.heap[D]? = some (.deferred (some []))) (hR : R (.returned (.bool true)) (w.putObj D (.deferred none))) :
    bodyPostM F n Tryz.prog fn R .ret { tmps := tmps, defers := [{ target := .collected D, args := #[] }] } w := by
  have hne : g ≠ D := by intro e; subst e; rw [show w.heap[g]? = _ from hc] at hD; cases hD
  exact ⟨by simp, .inl ⟨_, _, rfl, run_takeDeferred hD, _, results_one h _ _ g _ hp (hc.block (World.putObj_heap_other hne)), hR⟩⟩


/-- What Groups has captured: the chart, the stretch, the width. -/
structure GClo (D : Nat → Prop) (w : World) (b1 b2 b3 : Nat) (sd : Array Value) (u : Value) (tu : Option Addr) (T : PT) (A A' : Option Addr) (n n' c c' : Nat) (f t : Bytes) (cl : Bool) (wd : Int) : Prop where
  one : w.heap[b1]? = some (.cells (chA sd u (.pointer tu)) 38 (0, 0))
  two : Tri 25 w b2 (.slice A n c) (.slice A' n' c') (.bool cl)
  three : One 3 w b3 (.int .i64 wd)
  tin : TIn D w (.pointer tu) T
  sin : SIn (fun _ => True) w (.agg #[.slice A n c, .slice A' n' c', .bool cl]) f t cl
  asc : Asc T.list
  sz : T.size ≤ 100000
  dom : ∀ b, D b → b < w.heap.size
theorem GClo.below {D : Nat → Prop} {w W : World} {b1 b2 b3 : Nat} {sd : Array Value} {u : Value} {tu : Option Addr} {T : PT} {A A' : Option Addr} {n n' c c' : Nat} {f t : Bytes} {cl : Bool} {wd : Int} (h : GClo D w b1 b2 b3 sd u tu T A A' n n' c c' f t cl wd) (hb : Below w.heap.size w W) : GClo D W b1 b2 b3 sd u tu T A A' n n' c c' f t cl wd :=
  ⟨(hb.block b1 (Array.getElem?_eq_some_iff.1 h.one).1).trans h.one, h.two.below hb h.two.lt, h.three.below hb h.three.lt, h.tin.below hb, h.sin.below hb, h.asc, h.sz, fun b hD => Nat.lt_of_lt_of_le (h.dom b hD) hb.size⟩

/-- What is told of a group. -/
def OkG (G : Grps) (p : Nat) (pre : List (Value × Nat)) (x : Value × Nat) (W : World) : Prop :=
  ∃ g, G[pre.length]? = some g ∧ x.2 = g.2 ∧ BIn (fun b => p ≤ b) W x.1 g.1

/-- What is counted now. -/
def GCur (k : Nat) (V : World) (last : Value) (m : Nat) : Option (Bytes × Nat) → Prop
  | none => m = 0
  | some (l, n) => m = n ∧ BIn (fun b => k < b) V last l
/-- Groups behind some pairs. -/
structure GI (Dk : Nat → Prop) (X0 : World) (q5 q6 : Nat) (J : Nat → List (Value × Nat) → World → Prop) (wd : Nat) (C : Pairs) (k i : Nat) (V : World) (xs : List (Value × Nat)) (last : Value) (m : Nat) : Prop where
  keep : KD Dk X0 V
  lastv : One 23 V q5 last
  num : One 3 V q6 (.int .i64 (m : Int))
  j : J (k + 1) xs V
  len : xs.length = (gRun wd (C.take i)).1.length
  cur : GCur k V last m (gRun wd (C.take i)).2
  le : i ≤ C.length
  far : X0.heap.size + 2 ≤ k
  lt : k < V.heap.size
theorem leave_mark0 {F : Fence} {n : Nat} {fn : Func} {R : Ending → World → Prop} {tmps : Array Value} {w : World} {D : Nat} (e : Exit) (he : e = .ret ∨ e = .normal) (h : fn.results = #[]) (hD : w.heap[D]? = some (.deferred (some []))) (hR : ∀ v, R (.returned v) (w.putObj D (.deferred none))) :
    bodyPostM F n Tryz.prog fn R e { tmps := tmps, defers := [{ target := .collected D, args := #[] }] } w := by
  rcases he with rfl | rfl
  · exact ⟨by simp, .inl ⟨_, _, rfl, run_takeDeferred hD, _, results_none h _ _ _, hR _⟩⟩
  · exact ⟨by simp, .inl ⟨_, _, rfl, run_takeDeferred hD, _, results_none h _ _ _, hR _⟩⟩

/-- The two variables are written: the last beginning, and how many. -/
theorem GI.make {Dk : Nat → Prop} {X0 V : World} {lo q5 q6 : Nat} {J : Nat → List (Value × Nat) → World → Prop} {wd : Nat} {C : Pairs} {k i m m' : Nat} {xs : List (Value × Nat)} {a lv : Value} {lk : Bytes}
    (keep : KD Dk X0 V) (h5 : One 23 V q5 a) (h6 : One 3 V q6 (.int .i64 (m : Int))) (j : J (k + 1) xs V) (hout : ∀ A B, J (k + 1) xs A → Outs lo (k + 1) A B → J (k + 1) xs B)
    (hlo : lo ≤ q5 ∧ lo ≤ q6 ∧ q5 ≠ q6 ∧ q5 ≤ k ∧ q6 ≤ k) (hD : ¬ Dk q5 ∧ ¬ Dk q6) (hst : (gRun wd (C.take (i + 1))).1.length = xs.length ∧ (gRun wd (C.take (i + 1))).2 = some (lk, m')) (hb : BIn (fun b => k < b) V lv lk) (hi : i + 1 ≤ C.length) (far : X0.heap.size + 2 ≤ k) (lt : k < V.heap.size) :
    GI Dk X0 q5 q6 J wd C k (i + 1) ((V.drew.setCell ⟨q5, 0, none⟩ lv).setCell ⟨q6, 0, none⟩ (.int .i64 (m' : Int))) xs lv m' := by
  have hset : ∀ b, b ≠ q5 → b ≠ q6 → ((V.drew.setCell ⟨q5, 0, none⟩ lv).setCell ⟨q6, 0, none⟩ (.int .i64 (m' : Int))).heap[b]? = V.heap[b]? := fun b h1 h2 => by
    rw [heap_setCell_other _ _ _ _ (by simpa using h2), heap_setCell_other _ _ _ _ (by simpa using h1)]
    rfl
  have hs : ((V.drew.setCell ⟨q5, 0, none⟩ lv).setCell ⟨q6, 0, none⟩ (.int .i64 (m' : Int))).heap.size = V.heap.size := by simp
  have h5' : One 23 V.drew q5 a := h5
  have h6' : One 3 V.drew q6 (.int .i64 (m : Int)) := h6
  have k1 : KD Dk V ((V.drew.setCell ⟨q5, 0, none⟩ lv).setCell ⟨q6, 0, none⟩ (.int .i64 (m' : Int))) := ⟨rfl, rfl, rfl, by rw [hs]; exact Nat.le_refl _, fun b hb _ => hset b (fun e => hD.1 (e ▸ hb)) (fun e => hD.2 (e ▸ hb))⟩
  refine ⟨keep.trans k1, (h5'.set lv).other hlo.2.2.1.symm, (h6'.other hlo.2.2.1).set _, hout _ _ j ⟨rfl, rfl, rfl, by rw [hs]; exact Nat.le_refl _, fun b hb hn => hset b (fun e => hn (by omega)) (fun e => hn (by omega))⟩, hst.1.symm, ?_, hi, far, by rw [hs]; exact lt⟩
  rw [hst.2]
  exact ⟨rfl, hb.carry (by rw [hs]; exact Nat.le_refl _) fun b hb _ => hset b (by have : k < b := hb; omega) (by have : k < b := hb; omega)⟩
theorem RK.two {D : Nat → Prop} {V V' : World} {B k q5 q6 : Nat} {x y : Value} (h : RK B D k V V') (hq : q5 ≠ k ∧ q6 ≠ k ∧ q5 < B ∧ q6 < B ∧ ¬ D q5 ∧ ¬ D q6) : RK B D k V ((V'.drew.setCell ⟨q5, 0, none⟩ x).setCell ⟨q6, 0, none⟩ y) := by
  have hset : ∀ b, b ≠ q5 → b ≠ q6 → ((V'.drew.setCell ⟨q5, 0, none⟩ x).setCell ⟨q6, 0, none⟩ y).heap[b]? = V'.heap[b]? := fun b h1 h2 => by
    rw [heap_setCell_other _ _ _ _ (by simpa using h2), heap_setCell_other _ _ _ _ (by simpa using h1)]
    rfl
  refine h.trans ⟨⟨rfl, rfl, rfl, by simp, fun b hb _ => hset b (fun e => hq.2.2.2.2.1 (e ▸ hb)) (fun e => hq.2.2.2.2.2 (e ▸ hb))⟩, hset _ hq.1.symm hq.2.1.symm, hset _ (by omega) (by omega), hset _ (by omega) (by omega)⟩

/-- A round of the caller's, where the iterator goes on. -/
theorem GI.gone {Dk Own D : Nat → Prop} {X0 V V3 : World} {lo q5 q6 : Nat} {J : Nat → List (Value × Nat) → World → Prop} {wd : Nat} {C : Pairs} {k i m : Nat} {xs xs' : List (Value × Nat)} {last lv : Value} {lk : Bytes}
    (h : GI Dk X0 q5 q6 J wd C k i V xs last m) (hk : KD (fun b => ¬ Own b) V V3) (hj : J (k + 1) xs' V3) (hout : ∀ A B, J (k + 1) xs' A → Outs lo (k + 1) A B → J (k + 1) xs' B)
    (hown : ∀ b, lo ≤ b → ¬ Own b) (hDo : ∀ b, D b → ¬ Own b) (hDko : ∀ b, Dk b → ¬ Own b) (hlo : lo ≤ q5 ∧ lo ≤ q6 ∧ q5 ≠ q6 ∧ q5 ≤ k ∧ q6 ≤ k) (hX : lo ≤ X0.heap.size ∧ q6 < X0.heap.size) (hD : ¬ Dk q5 ∧ ¬ Dk q6) (hDq : ¬ D q6)
    (hb : BIn (fun b => k < b) V lv lk) (hl : X0.heap.size + 1 < V.heap.size) :
    (KD Dk X0 (V3.setCell ⟨q6, 0, none⟩ (.int .i64 0)) ∧ One 23 (V3.setCell ⟨q6, 0, none⟩ (.int .i64 0)) q5 last ∧ One 3 (V3.setCell ⟨q6, 0, none⟩ (.int .i64 0)) q6 (.int .i64 ((0 : Nat) : Int)) ∧ J (k + 1) xs' (V3.setCell ⟨q6, 0, none⟩ (.int .i64 0)) ∧ BIn (fun b => k < b) (V3.setCell ⟨q6, 0, none⟩ (.int .i64 0)) lv lk ∧ k < (V3.setCell ⟨q6, 0, none⟩ (.int .i64 0)).heap.size) ∧ RK X0.heap.size D k V (V3.setCell ⟨q6, 0, none⟩ (.int .i64 0)) ∧ One 3 V3 q6 (.int .i64 (m : Int)) ∧ One 23 V3 q5 last := by
  have hset : ∀ b, b ≠ q6 → (V3.setCell ⟨q6, 0, none⟩ (.int .i64 0)).heap[b]? = V3.heap[b]? := fun b h2 => heap_setCell_other _ _ _ _ (by simpa using h2)
  have hs : (V3.setCell ⟨q6, 0, none⟩ (.int .i64 0)).heap.size = V3.heap.size := by simp
  have h5 : One 23 V3 q5 last := h.lastv.block (hk.block q5 (hown _ hlo.1) h.lastv.lt)
  have h6 : One 3 V3 q6 (.int .i64 (m : Int)) := h.num.block (hk.block q6 (hown _ hlo.2.1) h.num.lt)
  have hlt := h.lt
  have hfar := h.far
  refine ⟨⟨?_, h5.other hlo.2.2.1.symm, h6.set _, hout _ _ hj ⟨rfl, rfl, rfl, by rw [hs]; exact Nat.le_refl _, fun b hb hn => hset b (fun e => hn (by omega))⟩, ?_, by rw [hs]; exact Nat.lt_of_lt_of_le h.lt hk.size⟩, ?_, h6, h5⟩
  · have hkk := h.keep
    exact ⟨hk.os.trans hkk.os, hk.tape.trans hkk.tape, hk.output.trans hkk.output, by rw [hs]; exact Nat.le_trans hkk.size hk.size, fun b hb hl' => (hset b (fun e => hD.2 (e ▸ hb))).trans ((hk.block b (hDko b hb) (Nat.lt_of_lt_of_le hl' hkk.size)).trans (hkk.block b hb hl'))⟩
  · exact hb.carry (by rw [hs]; exact hk.size) fun b hb hl' => (hset b (by have : k < b := hb; omega)).trans (hk.block b (hown b (by have : k < b := hb; omega)) hl')
  · exact ⟨⟨hk.os, hk.tape, hk.output, by rw [hs]; exact hk.size, fun b hb hl' => (hset b (fun e => hDq (e ▸ hb))).trans (hk.block b (hDo b hb) hl')⟩, (hset _ (by omega)).trans (hk.block k (hown k (by omega)) hlt), (hset _ (by omega)).trans (hk.block _ (hown _ (by omega)) (by omega)), (hset _ (by omega)).trans (hk.block _ (hown _ (by omega)) (by omega))⟩

set_option maxRecDepth 100000 in
set_option maxHeartbeats 12800000 in
theorem groups_seq {D Own : Nat → Prop} {w0 : World} {b1 b2 b3 : Nat} {sd : Array Value} {u : Value} {tu : Option Addr} {T : PT} {A A' : Option Addr} {n n' c c' : Nat} {f t : Bytes} {cl : Bool} {wd : Int} (hs : Seed sd) (h : GClo D w0 b1 b2 b3 sd u tu T A A' n n' c c' f t cl wd)
    (hD : ∀ b, D b → ¬ Own b) (hO : ∀ b, Own b → b < w0.heap.size) (hb3 : ¬ Own b3) :
    SeqO Tryz.prog 35 #[.pointer (some ⟨b1, 0, none⟩), .pointer (some ⟨b2, 0, none⟩), .pointer (some ⟨b3, 0, none⟩)] (fun x : Value × Nat => #[x.1, .int .i64 (x.2 : Int)])
      (OkG (grps wd.toNat (cutM T.list f t cl true))) Own
      (fun xs => xs.length = (grps wd.toNat (cutM T.list f t cl true)).length) (fun pre => 0 < pre.length ∧ pre.length ≤ (grps wd.toNat (cutM T.list f t cl true)).length) w0 := fun l J Jx W hW hll hJ hJx hY h0 => by
  have HLL : Hid (l < W.heap.size ∧ ∀ b, D b → b ≠ l) := ⟨hll.2, fun b hb e => by have := h.dom b hb; omega⟩
  have hC := h.below hW
  have HS := Lib.hid hs
  have HY := Lib.hid hY
  have HJ := Lib.hid hJ
  have HJX := Lib.hid hJx
  have H0 := Lib.hid h0
  have hOW : ∀ b, Own b → b < W.heap.size := fun b hb => Nat.lt_of_lt_of_le (hO b hb) hW.size
  have HOW := Lib.hid hOW
  have HDN := Lib.hid (And.intro hD hb3)
  have hb : Below W.heap.size W (((W.alloc (.cells #[.func (.yield l) #[] #[]] 85)).alloc (.cells #[.slice none 0 0] 23)).alloc (.cells #[.int .i64 0] 3)) := (((Below.refl _ _).alloc (Nat.le_refl _) _).alloc (by simp) _).alloc (by simp; omega) _
  have y4 : One 85 (((W.alloc (.cells #[.func (.yield l) #[] #[]] 85)).alloc (.cells #[.slice none 0 0] 23)).alloc (.cells #[.int .i64 0] 3)) W.heap.size (.func (.yield l) #[] #[]) := heap_old _ (heap_old _ (heap_new W _))
  have y5 : One 23 (((W.alloc (.cells #[.func (.yield l) #[] #[]] 85)).alloc (.cells #[.slice none 0 0] 23)).alloc (.cells #[.int .i64 0] 3)) (W.heap.size + 1) (.slice none 0 0) := by
    have := heap_new (W.alloc (.cells #[.func (.yield l) #[] #[]] 85)) (.cells #[.slice none 0 0] 23)
    rw [World.size_alloc] at this
    exact heap_old _ this
  have y6 : One 3 (((W.alloc (.cells #[.func (.yield l) #[] #[]] 85)).alloc (.cells #[.slice none 0 0] 23)).alloc (.cells #[.int .i64 0] 3)) (W.heap.size + 1 + 1) (.int .i64 0) := by
    have := heap_new ((W.alloc (.cells #[.func (.yield l) #[] #[]] 85)).alloc (.cells #[.slice none 0 0] 23)) (.cells #[.int .i64 0] 3)
    rw [World.size_alloc, World.size_alloc] at this
    exact this
  have HCL := Lib.hid hC
  have HB := Lib.hid hb
  have HY0 := Lib.hid (And.intro y4 (And.intro y5 y6))
  clear h hC hY hJ hJx h0 hW hll hD hO hs hb hb3 hOW y4 y5 y6
  refine (callsIn_wide (n := 1)).1 (callsIn_of_wp_marks Tryz.func35 rfl trivial ((wpIn_wide (n := 1)).2 ?_) rfl)
  simp only [Tryz.ntmps35, List.size_toArray, List.length_cons, List.length_nil, Nat.reduceAdd, Nat.reduceSub, Array.replicate_succ, Array.replicate_zero, List.push_toArray, List.append_toArray, List.nil_append, List.cons_append]
  go_upto_region 3 with fail
  generalize ((W.alloc (.cells #[.func (.yield l) #[] #[]] 85)).alloc (.cells #[.slice none 0 0] 23)).alloc (.cells #[.int .i64 0] 3) = X at *
  have HCX := Lib.hid (HCL.out.below HB.out)
  have in38 : (Tryz.prog.info? 38).map (·.size) = some (chA sd u (.pointer tu)).toList.length := by rw [info38, Array.length_toList, chA_size HS.out.1]
  have ul38 := Tryz.underlying38
  have HSX : Hid (∀ V, Below X.heap.size X V → V.rangeAt b1 0 (chA sd u (.pointer tu)).toList ∧ V.cell? ⟨b2, 0, none⟩ = some (.slice A n c) ∧ V.cell? ⟨b2, 1, none⟩ = some (.slice A' n' c') ∧ V.cell? ⟨b2, 2, none⟩ = some (.bool cl)) := fun V hV => by
    have h2 := HCX.out.below hV
    exact ⟨range_row 0 h2.one fun j _ => by rw [Nat.zero_add], h2.two.cells⟩
  refine wp_region_noPanic ?_
  refine start_ (n := 4) (S := fun w' => w'.rangeAt b1 0 (chA sd u (.pointer tu)).toList ∧ w'.cell? ⟨b2, 0, none⟩ = some (.slice A n c) ∧ w'.cell? ⟨b2, 1, none⟩ = some (.slice A' n' c') ∧ w'.cell? ⟨b2, 2, none⟩ = some (.bool cl)) (ds := []) #[false, false, false, false] (by kernel_rfl) rfl rfl (HSX.out _ (below_drew2 (Below.refl _ _))) (fun hHeld => ?_)
  refine take_ (i := 0) (N := some 10) (v := .agg (chA sd u (.pointer tu))) (a' := ?aa1) #[true, false, false, false] rfl rfl (by kernel_rfl) (fun _ _ _ h => h) (yieldsIf_load_mid rfl 38 (.tmp 1) rfl b1 0 rfl (chA sd u (.pointer tu)).toList _ (fun _ h => h.1) ul38 rfl in38) hHeld ?ha1 ?_
  case ha1 =>
    simp only [Act.put, List.setIfInBounds_toArray, List.set_cons_zero, List.set_cons_succ]
    rfl
  clear ul38 in38
  refine take_ (i := 2) (N := some 12) (v := .agg #[.slice A n c, .slice A' n' c', .bool cl]) (a' := ?aa2) #[true, false, true, false] rfl rfl (by kernel_rfl) (fun _ _ _ h => h) (Or.inl ⟨by rfl, ?hy2⟩) hHeld ?ha2 ?hn2
  case hy2 =>
    rintro w' ⟨h1_, h2_, h3_, h4_⟩
    go_simp
  case ha2 =>
    simp only [Act.put, List.setIfInBounds_toArray, List.set_cons_zero, List.set_cons_succ]
    rfl
  refine one_ (i := 1) (N := some 11) #[true, true, true, false] rfl rfl (by kernel_rfl) (by decide) (fun K hK => ?_)
  refine goes_ Tryz.func37 (by kernel_rfl) rfl #[.agg (chA sd u (.pointer tu))] (by rfl) rfl rfl (by simp only [List.map_toArray, List.map_cons, List.map_nil]; rfl) ?_
  refine (chIndex_any sd HS.out u (.pointer tu) X.drew).mono ?_
  rintro e w1 ⟨rfl, hb1⟩
  have HB1 : Hid (Below X.heap.size X w1) := below_drew1 hb1
  clear hb1
  refine ⟨_, rfl, hK.out _ _ (HSX.out _ HB1.out) (fun hHeld => ?_)⟩
  simp only [Act.put, List.setIfInBounds_toArray, List.set_cons_zero, List.set_cons_succ]
  refine one_ (i := 3) (N := some 13) #[true, true, true, true] rfl rfl (by kernel_rfl) (by decide) (fun K hK => ?_)
  refine goes_ Tryz.func36 (by kernel_rfl) rfl #[.pointer tu, .agg #[.slice A n c, .slice A' n' c', .bool cl]] (by rfl) rfl rfl (by simp only [List.map_toArray, List.map_cons, List.map_nil]; rfl) ?_
  refine (All_any (D := D) (S' := fun _ => True) T tu A A' n n' c c' f t cl w1 (HCX.out.below HB1.out).tin (HCX.out.below HB1.out).sin HCX.out.sz (HCX.out.below HB1.out).dom).mono ?_
  rintro e w2 ⟨rfl, h2⟩
  have HB2 : Hid (Below X.heap.size X w2) := HB1.out.trans (h2.out.2.mono HB1.out.size)
  have HCLO := Lib.hid h2.out.1
  clear h2
  refine ⟨_, rfl, hK.out _ _ (HSX.out _ HB2.out) (fun hHeld => ?_)⟩
  simp only [Act.put, List.setIfInBounds_toArray, List.set_cons_zero, List.set_cons_succ]
  refine done_ (by kernel_rfl) (NoPanic.normal ?_)

  go_wp2_with fail
  have hcs := cut_size T f t cl HCX.out.asc
  have HCS := Lib.hid hcs
  have HCA := Lib.hid (cut_at T f t cl HCX.out.asc)
  have HC5 : Hid ((cutM T.list f t cl true).length ≤ 100000) := (Nat.le_trans (cutM_len _ _ _ _ _) (by have := HCX.out.sz; have := T.size_list; omega) : (cutM T.list f t cl true).length ≤ 100000)
  have HSZ : Hid (W.heap.size + 1 + 1 < X.heap.size ∧ X.heap.size ≤ w2.heap.size) := ⟨HY0.out.2.2.lt, HB2.out.size⟩
  have H2 : Hid (One 85 w2 W.heap.size (.func (.yield l) #[] #[]) ∧ One 23 w2 (W.heap.size + 1) (.slice none 0 0) ∧ One 3 w2 (W.heap.size + 1 + 1) (.int .i64 0) ∧ One 3 w2 b3 (.int .i64 wd)) :=
    ⟨HY0.out.1.below HB2.out HY0.out.1.lt, HY0.out.2.1.below HB2.out HY0.out.2.1.lt, HY0.out.2.2.below HB2.out HY0.out.2.2.lt, HCX.out.three.below HB2.out HCX.out.three.lt⟩
  have HW2 : Hid (Below W.heap.size W w2) := HB.out.trans (HB2.out.mono HB.out.size)
  have HDL : Hid (∀ b, D b → b < W.heap.size) := HCL.out.dom
  have H3L : Hid (b3 < W.heap.size) := HCL.out.three.lt
  clear hcs
  generalize hCC : cutM T.list f t cl true = C at *
  have HCC := Lib.hid hCC
  obtain ⟨wdn, hwdn⟩ : ∃ k, wd.toNat = k := ⟨_, rfl⟩
  rw [hwdn] at HY
  -- a change of the blocks of its own
  have HOU : Hid (∀ (A B : World) (k : Nat) (row : Option Nat), w2.heap.size + 2 ≤ k → A.grownBy B row → (∀ r, row = some r → r = k ∨ r = w2.heap.size ∨ r = w2.heap.size + 1) → Outs W.heap.size (k + 1) A B) := fun A B k row hk hg hr =>
    Outs.grown hg fun r e => by have h1 := HSZ.out; rcases hr r e with e | e | e <;> omega
  refine wp_rangeFunc_priv (gf := 62) (lb := #[.pointer (some ⟨w1.heap.size, 0, none⟩), .pointer (some ⟨w1.heap.size + 1, 0, none⟩)]) (by rfl) (enters_of Tryz.func62 (by kernel_rfl) rfl) (all_seq HCLO.out) (Below.refl _ _) (fun b hb => by have h1 := HSZ.out; have h2 := HDL.out b hb; omega) (fun _ => rfl)
    (fun k s V => ∃ xs last m, GI (fun b => b ≠ W.heap.size + 1 ∧ b ≠ W.heap.size + 1 + 1 ∧ b < w2.heap.size ∧ ¬ Own b) w2 (W.heap.size + 1) (W.heap.size + 1 + 1) J wdn C k s.length V xs last m)
    (fun k cd s V => cd = .ret ∧ w2.heap.size + 2 ≤ k ∧ ∃ xs, 0 < xs.length ∧ xs.length ≤ (grps wdn C).length ∧ Jx (k + 1) xs V)
    ?hI ?hIx ?h0 ?round ?done ?stop
  case hI =>
    rintro k s A0 B0 row ⟨xs, last, m, h⟩ hg hr
    have hz := HSZ.out
    have hs := h.keep.size
    have hf := h.far
    have hne : ∀ b, b < w2.heap.size → some b ≠ row := fun b hb e => by rcases hr b e.symm with e | e | e <;> omega
    refine ⟨xs, last, m, h.keep.trans (KD.grown hg (fun r e hE => hne r hE.2.2.1 e.symm)), h.lastv.block (hg.block _ (by omega) (hne _ (by omega))), h.num.block (hg.block _ (by omega) (hne _ (by omega))), HJ.out _ _ _ _ h.j (HOU.out _ _ _ _ h.far hg hr), h.len, ?_, h.le, h.far, Nat.lt_of_lt_of_le h.lt hg.size⟩
    have hc := h.cur
    generalize (gRun wdn (C.take s.length)).2 = o at hc ⊢
    cases o with
    | none => exact hc
    | some q => exact ⟨hc.1, hc.2.carry hg.size fun b hb hl => hg.block b hl (fun e => by rcases hr b e.symm with e | e | e <;> omega)⟩
  case hIx =>
    rintro cd k s A0 B0 row ⟨h0, hk, xs, h1, h2, h3⟩ hg hr
    exact ⟨h0, hk, xs, h1, h2, HJX.out _ _ _ _ h3 (HOU.out _ _ _ _ hk hg hr)⟩
  case h0 =>
    intro k V hV hk hkl
    have hz := HSZ.out
    exact ⟨[], _, 0, KD.of hV, H2.out.2.1.below hV H2.out.2.1.lt, H2.out.2.2.1.below hV H2.out.2.2.1.lt, H0.out V (k + 1) (HW2.out.trans (hV.mono HW2.out.size)) (by have := HW2.out.size; omega) hkl, rfl, rfl, Nat.zero_le _, hk, hkl⟩
  case round =>
    rintro m' l' k pre ⟨i, v⟩ V hk ⟨xs, last, m, hI⟩ ⟨hpl, hxi, hpv⟩ hlt hkl
    obtain ⟨kv, xv, rfl, hk1, hx1⟩ := hpv
    obtain ⟨A1, n1, c1, rfl⟩ := hk1.slice
    obtain ⟨A2, n2, c2, rfl⟩ := hx1.slice
    have hj : pre.length < C.length := by have := HCS.out; omega
    have hgd := HCA.out pre.length hj
    simp only [] at hxi
    rw [← hxi] at hgd
    rw [← hgd] at hk1
    have hbw : Below V.heap.size V (V.alloc (.cells #[.slice A1 n1 c1, .slice A2 n2 c2] 60)) := (Below.refl _ _).alloc (Nat.le_refl _) _
    have htw : Two (V.alloc (.cells #[.slice A1 n1 c1, .slice A2 n2 c2] 60)) V.heap.size (.slice A1 n1 c1) (.slice A2 n2 c2) := heap_new V _
    have hst := gRun_take wdn C pre.length hj
    obtain ⟨K, hK⟩ : ∃ K, (C.getD pre.length ([], [])).1 = K := ⟨_, rfl⟩
    rw [hK] at hk1 hst
    have HST := Lib.hid hst
    have HK1 := Lib.hid hk1
    have HII := Lib.hid hI
    have HBW := Lib.hid hbw
    have HTW := Lib.hid htw
    have HJL := Lib.hid hj
    clear hst hI hbw htw hgd hxi hpl hx1 hK hj hk1
    gi_wp2
    refine ⟨RK.of HBW.out hkl hlt, fun V2 hg2 => ?_⟩
    have hvs := HII.out.keep.size
    have hne : ∀ b, b ≠ w2.heap.size + 1 → b < V.heap.size → V2.heap[b]? = V.heap[b]? := fun b h1 h2 => (hg2.block b (by simp; omega) (by intro e; injection e with e; omega)).trans (HBW.out.block b h2)
    have hsz2 : V.heap.size < V2.heap.size := Nat.lt_of_lt_of_le (by simp) hg2.size
    have HBX : Hid (Two V2 V.heap.size (.slice A1 n1 c1) (.slice A2 n2 c2)) := (hg2.block V.heap.size (by simp) (by intro e; injection e with e; omega)).trans HTW.out
    have HI2 : Hid (GI (fun b => b ≠ W.heap.size + 1 ∧ b ≠ W.heap.size + 1 + 1 ∧ b < w2.heap.size ∧ ¬ Own b) w2 (W.heap.size + 1) (W.heap.size + 1 + 1) J wdn C k pre.length V2 xs last m) := by
      have h := HII.out
      have hz := HSZ.out
      have hou : Outs W.heap.size (k + 1) V V2 := (Outs.of HBW.out).trans (Outs.grown hg2 fun r e => by injection e with e; omega)
      refine ⟨(h.keep.trans (KD.of HBW.out)).trans (KD.grown hg2 (fun r e hE => by injection e with e; have := hE.2.2.1; omega)), h.lastv.block (hne _ (by omega) h.lastv.lt), h.num.block (hne _ (by omega) h.num.lt), HJ.out _ _ _ _ h.j hou, h.len, ?_, h.le, h.far, by have := h.lt; omega⟩
      have hc := h.cur
      generalize (gRun wdn (C.take pre.length)).2 = o at hc ⊢
      cases o with
      | none => exact hc
      | some q => exact ⟨hc.1, hc.2.carry (Nat.le_of_lt hsz2) fun b hb hl => hne b (by have : k < b := hb; omega) hl⟩
    have HKB : Hid (BIn (fun b => k < b) V2 (.slice A1 n1 c1) K) := HK1.out.carry (Nat.le_of_lt hsz2) fun b hb hl => hne b (by have : k < b := hb; omega) hl
    have HLT : Hid (k < V2.heap.size ∧ w2.heap.size + 1 < V2.heap.size) := ⟨by omega, by omega⟩
    clear hne hg2 HII HBW HTW HK1 hvs
    obtain ⟨d0, d1⟩ := HBX.out.cells
    have hfx := HI2.out.keep
    have hw3 : One 3 V2 b3 (.int .i64 wd) := H2.out.2.2.2.block (hfx.block b3 ⟨by have := H3L.out; omega, by have := H3L.out; omega, H2.out.2.2.2.lt, HDN.out.2⟩ H2.out.2.2.2.lt)
    have d3 := hw3.cell
    clear hfx hw3
    have HNC : Hid (n1 ≤ c1 ∧ K.length = n1) := by obtain ⟨_, _, _, he, h1, h2, _⟩ := HKB.out; cases he; exact ⟨h1.1, h2.len⟩
    have hnc := HNC.out.1
    have d5 := HI2.out.lastv.cell
    have d6 := HI2.out.num.cell
    have y4 : One 85 V2 W.heap.size (.func (.yield l) #[] #[]) := H2.out.1.block (HI2.out.keep.block _ ⟨by omega, by omega, H2.out.1.lt, fun h => by have := HOW.out _ h; omega⟩ H2.out.1.lt)
    have d4 := y4.cell
    have HY4 := Lib.hid y4
    have hm5 : m ≤ 100000 := by
      have hc := HI2.out.cur
      have hb := gRun_bound wdn (C.take pre.length)
      generalize (gRun wdn (C.take pre.length)).2 = o at hc hb
      have hl : (C.take pre.length).length ≤ 100000 := by rw [List.length_take]; have := HC5.out; omega
      cases o with
      | none => have : m = 0 := hc; omega
      | some q => have h1 : m = q.2 := hc.1; have h2 := (hb.2.1 q.1 q.2 rfl).2.1; omega
    have hwk : IntKind.i64.wrap ((m : Int) + 1) = (m : Int) + 1 := wsm _ (by omega)
    have HXQ : Hid (W.heap.size ≤ W.heap.size + 1 ∧ W.heap.size ≤ W.heap.size + 1 + 1 ∧ W.heap.size + 1 ≠ W.heap.size + 1 + 1 ∧ W.heap.size + 1 ≤ k ∧ W.heap.size + 1 + 1 ≤ k) := by
      have h1 := HSZ.out
      exact (by refine ⟨?_, ?_, ?_, ?_, ?_⟩ <;> omega : W.heap.size ≤ W.heap.size + 1 ∧ W.heap.size ≤ W.heap.size + 1 + 1 ∧ W.heap.size + 1 ≠ W.heap.size + 1 + 1 ∧ W.heap.size + 1 ≤ k ∧ W.heap.size + 1 + 1 ≤ k)
    have HXR : Hid (W.heap.size + 1 ≠ k ∧ W.heap.size + 1 + 1 ≠ k ∧ W.heap.size + 1 < w2.heap.size ∧ W.heap.size + 1 + 1 < w2.heap.size ∧ ¬ D (W.heap.size + 1) ∧ ¬ D (W.heap.size + 1 + 1)) := by
      have h1 := HSZ.out
      have h2 := HDL.out
      exact (by refine ⟨?_, ?_, ?_, ?_, fun h => ?_, fun h => ?_⟩ <;> first | omega | (have := h2 _ h; omega) : W.heap.size + 1 ≠ k ∧ W.heap.size + 1 + 1 ≠ k ∧ W.heap.size + 1 < w2.heap.size ∧ W.heap.size + 1 + 1 < w2.heap.size ∧ ¬ D (W.heap.size + 1) ∧ ¬ D (W.heap.size + 1 + 1))
    clear y4 hsz2 hlt hkl
    have hc3 : (wd < 0 ∧ 0 < n1) ∨ (wd < 0 ∧ n1 = 0) ∨ (0 ≤ wd ∧ wd < (n1 : Int)) ∨ (0 ≤ wd ∧ (n1 : Int) ≤ wd) := by omega
    obtain ⟨h, HBK, HW⟩ : ∃ h, Hid (BIn (fun b => k < b) V2 (.slice A1 h c1) (K.take wdn)) ∧ Hid ((wd < 0 ∧ 0 < n1 ∧ h = 0) ∨ (wd < 0 ∧ n1 = 0 ∧ h = 0) ∨ (0 ≤ wd ∧ wd < (n1 : Int) ∧ (h : Int) = wd ∧ ¬ wd < 0 ∧ (0 ≤ wd ∧ wd ≤ (c1 : Int)) ∧ wd.toNat = h) ∨ (0 ≤ wd ∧ (n1 : Int) ≤ wd ∧ ¬ wd < 0 ∧ ¬ wd < (n1 : Int) ∧ h = n1)) := by
      rcases hc3 with ⟨h1, h2⟩ | ⟨h1, h2⟩ | ⟨h1, h2⟩ | ⟨h1, h2⟩
      · refine ⟨0, ?_, .inl ⟨h1, h2, rfl⟩⟩
        have := HKB.out.take 0 (Nat.zero_le _)
        rw [show wdn = 0 by omega]; exact this
      · refine ⟨0, ?_, .inr (.inl ⟨h1, h2, rfl⟩)⟩
        have := HKB.out.take 0 (Nat.zero_le _)
        rw [show wdn = 0 by omega]; exact this
      · refine ⟨wdn, HKB.out.take wdn (by omega), .inr (.inr (.inl ⟨h1, h2, by omega, by omega, ⟨h1, by omega⟩, by omega⟩))⟩
      · refine ⟨n1, ?_, .inr (.inr (.inr ⟨h1, h2, by omega, by omega, rfl⟩))⟩
        have := HKB.out
        rw [List.take_of_length_le (by have := HNC.out.2; omega)]; exact this
    clear hc3
    have hcu := HI2.out.cur
    have hln := HI2.out.len
    have hst := HST.out
    have hbd := gRun_bound wdn (C.take pre.length)
    have hat := gRun_at wdn C (pre.length + 1)
    clear hm5
    generalize gRun wdn (C.take pre.length) = s at hcu hln hst hbd
    obtain ⟨em, cur⟩ := s
    cases cur with
    | none =>
      obtain rfl : m = 0 := hcu
      have hs2 : (gRun wdn (C.take (pre.length + 1))).1.length = xs.length ∧ (gRun wdn (C.take (pre.length + 1))).2 = some (K.take wdn, 1) := by
        rw [hst]; exact ⟨hln.symm, rfl⟩
      have HFIN := Lib.hid (And.intro (RK.two (x := .slice A1 h c1) (y := .int .i64 ((1 : Nat) : Int)) (RK.refl w2.heap.size D k V2) HXR.out) (GI.make (lo := W.heap.size) (lv := .slice A1 h c1) HI2.out.keep HI2.out.lastv HI2.out.num HI2.out.j (HJ.out (k + 1) xs) HXQ.out ⟨fun h => h.1 rfl, fun h => h.2.1 rfl⟩ hs2 HBK.out HJL.out HI2.out.far HI2.out.lt))
      clear hln hst hbd hat hs2
      have hw := HW.out
      have HWN := Lib.hid hwdn
      clear HW hwdn
      rcases hw with ⟨e1, e2, rfl⟩ | ⟨e1, rfl, rfl⟩ | ⟨e1, e2, rfl, e3, e4, e5⟩ | ⟨e1, e2, e3, e4, rfl⟩
      all_goals
        gi_wp2
        refine ⟨trivial, ?_⟩
        gi_wp2
        have f5 := HI2.out.lastv.frozen
        have f6 := HI2.out.num.frozen
        have hq := HXQ.out.2.2.1
        have hmx : Tryz.prog.follows .mixedOrders = true := by kernel_rfl
        have hw1 : IntKind.i64.wrap 1 = 1 := wsm _ (by omega)
        gi_region_with_o (fail)
        all_goals exact ⟨HFIN.out.1, xs, _, 1, by rw [List.length_append]; exact HFIN.out.2⟩
    | some q =>
      obtain ⟨lk, nn⟩ := q
      obtain ⟨rfl, hlast⟩ := hcu
      obtain ⟨A5, n5, c5, rfl⟩ := hlast.slice
      have hm1 := (hbd.2.1 lk m rfl).1
      have hmp : (0 : Int) < (m : Int) := by omega
      have HLA := Lib.hid hlast
      by_cases hkk : K.take wdn = lk
      · have hs2 : (gRun wdn (C.take (pre.length + 1))).1.length = xs.length ∧ (gRun wdn (C.take (pre.length + 1))).2 = some (lk, m + 1) := by
          rw [hst]; simp only [gAdd]; rw [if_pos hkk]; exact ⟨hln.symm, rfl⟩
        have HBL : Hid (BIn (fun b => k < b) V2 (.slice A1 h c1) lk) := hkk ▸ HBK.out
        have hfin := And.intro (RK.two (x := .slice A1 h c1) (y := .int .i64 ((m + 1 : Nat) : Int)) (RK.refl w2.heap.size D k V2) HXR.out) (GI.make (lo := W.heap.size) (lv := .slice A1 h c1) HI2.out.keep HI2.out.lastv HI2.out.num HI2.out.j (HJ.out (k + 1) xs) HXQ.out ⟨fun h => h.1 rfl, fun h => h.2.1 rfl⟩ hs2 HBL.out HJL.out HI2.out.far HI2.out.lt)
        rw [show ((m + 1 : Nat) : Int) = (m : Int) + 1 from rfl] at hfin
        have HFIN := Lib.hid hfin
        have HEQ := Lib.hid (equal_any (.slice A1 h c1) (.slice A5 n5 c5) (K.take wdn) lk V2 HBK.out HLA.out)
        have hde : decide (K.take wdn = lk) = true := decide_eq_true hkk
        rw [hde] at HEQ
        clear hln hst hbd hat hs2 hfin hde hkk hlast hm1
        have hw := HW.out
        have HWN := Lib.hid hwdn
        clear HW hwdn
        rcases hw with ⟨e1, e2, rfl⟩ | ⟨e1, rfl, rfl⟩ | ⟨e1, e2, rfl, e3, e4, e5⟩ | ⟨e1, e2, e3, e4, rfl⟩
        all_goals
          gi_wp2
          refine ⟨trivial, fun h => absurd h (by decide), ?_⟩
          with_reducible refine (CallsIn.inRound l' (callsIn_wide.2 HEQ.out)).mono ?_
          rintro e wz ⟨rfl, rfl⟩
          gi_wp2
          have f5 := HI2.out.lastv.frozen
          have f6 := HI2.out.num.frozen
          have hq := HXQ.out.2.2.1
          have hmx : Tryz.prog.follows .mixedOrders = true := by kernel_rfl
          gi_region_with_o (fail)
          all_goals exact ⟨HFIN.out.1, xs, _, m + 1, by rw [List.length_append]; exact HFIN.out.2⟩
      · have hs2 : (gRun wdn (C.take (pre.length + 1))).1.length = (xs ++ [((.slice A5 n5 c5, m) : Value × Nat)]).length ∧ (gRun wdn (C.take (pre.length + 1))).2 = some (K.take wdn, 1) := by
          rw [hst]; simp only [gAdd]; rw [if_neg hkk]; exact ⟨by simp [hln], rfl⟩
        have hget : (grps wdn C)[xs.length]? = some (lk, m) := by
          rw [hst] at hat
          simp only [gAdd] at hat
          rw [if_neg hkk] at hat
          obtain ⟨t', ht'⟩ := hat
          rw [← ht', hln]
          simp
        have hgl := (List.getElem?_eq_some_iff.1 hget).1
        have HGL : Hid (xs.length < (grps wdn C).length) := hgl
        have hyy := HY.out (k + 1) xs (.slice A5 n5 c5, m) V2 HI2.out.j ⟨(lk, m), hget, rfl, HLA.out.imp fun b _ hb => hb⟩ HLT.out.1 (m' - 1)
        have HYY := Lib.hid hyy
        have HS2 := Lib.hid hs2
        have HEQ := Lib.hid (equal_any (.slice A1 h c1) (.slice A5 n5 c5) (K.take wdn) lk V2 HBK.out HLA.out)
        have hde : decide (K.take wdn = lk) = false := decide_eq_false hkk
        rw [hde] at HEQ
        have HGO : Hid (∀ V3, KD (fun b => ¬ Own b) V2 V3 → J (k + 1) (xs ++ [((.slice A5 n5 c5, m) : Value × Nat)]) V3 → _) := fun V3 h1 h2 =>
          GI.gone (D := D) (lo := W.heap.size) (lv := .slice A1 h c1) HI2.out h1 h2 (HJ.out (k + 1) _) (fun b hb ho => by have := HOW.out b ho; omega) HDN.out.1 (fun b hb => hb.2.2.2) HXQ.out ⟨by have := HSZ.out; omega, HXR.out.2.2.2.1⟩ ⟨fun h => h.1 rfl, fun h => h.2.1 rfl⟩ HXR.out.2.2.2.2.2 HBK.out HLT.out.2
        clear hln hst hbd hat hs2 hde hkk hlast hm1 hget hgl hyy
        have hw := HW.out
        have HWN := Lib.hid hwdn
        clear HW hwdn
        rcases hw with ⟨e1, e2, rfl⟩ | ⟨e1, rfl, rfl⟩ | ⟨e1, e2, rfl, e3, e4, e5⟩ | ⟨e1, e2, e3, e4, rfl⟩
        all_goals
          gi_wp2
          refine ⟨trivial, fun h => absurd h (by decide), ?_⟩
          with_reducible refine (CallsIn.inRound l' (callsIn_wide.2 HEQ.out)).mono ?_
          rintro e wz ⟨rfl, rfl⟩
          obtain ⟨fn, tmps, assign, body, hy, hR⟩ := HYY.out
          gi_wp2
          refine ⟨fun h => absurd h (by decide), RoundIn.mono (show RoundIn (Fence.wide.inRound l') (m' - 1) Tryz.prog l fn tmps assign body V2 _ from hR) ?_⟩
          rintro e V3 (⟨rfl, hj3, hk3⟩ | ⟨rfl, hjx3, hk3⟩)
          · obtain ⟨⟨g1, g2, g3, g4, g5, g6⟩, grk, g7, g8⟩ := HGO.out V3 hk3 hj3
            have HFIN := Lib.hid (And.intro (fun x => RK.two (x := x) (y := .int .i64 ((1 : Nat) : Int)) grk HXR.out) (GI.make (lo := W.heap.size) g1 g2 g3 g4 (HJ.out (k + 1) _) HXQ.out ⟨fun h => h.1 rfl, fun h => h.2.1 rfl⟩ HS2.out g5 HJL.out HI2.out.far g6))
            have z6 := g7.cell
            have zf6 := g7.frozen
            have c6 := g3.cell
            have zf5 := g8.frozen
            have z5 := g8.cell
            clear g1 g2 g3 g4 g5 g6 g7 g8 grk hj3 hk3 hR hy d0 d1 d3 d5 d6 d4
            gi_wp2
            have hq := HXQ.out.2.2.1
            have hmx : Tryz.prog.follows .mixedOrders = true := by kernel_rfl
            have hw1 : IntKind.i64.wrap 1 = 1 := wsm _ (by omega)
            gi_region_with_o (fail)
            all_goals exact ⟨HFIN.out.1 _, _, _, 1, by rw [List.length_append]; exact HFIN.out.2⟩
          · have hrk : RK w2.heap.size D k V2 V3 := by
              have hz := HSZ.out
              have h1 := HLL.out
              have h2 := HLT.out
              have h3 : ∀ b, W.heap.size ≤ b → ¬ Own b ∧ b ≠ l := fun b hb => ⟨fun ho => by have := HOW.out b ho; omega, by omega⟩
              exact ⟨⟨hk3.os, hk3.tape, hk3.output, hk3.size, fun b hb hl => hk3.block b ⟨HDN.out.1 b hb, h1.2 b hb⟩ hl⟩, hk3.block k (h3 _ (by have := HI2.out.far; omega)) h2.1, hk3.block _ (h3 _ (by omega)) (by omega), hk3.block _ (h3 _ (by omega)) h2.2⟩
            have HRK := Lib.hid (And.intro hrk hjx3)
            clear hrk hjx3 hk3 hR hy
            gi_wp2
            exact ⟨HRK.out.1, rfl, HI2.out.far, _, by simp, by have := HGL.out; simp; omega, HRK.out.2⟩
  case done =>
    rintro k s V hk hS ⟨xs, last, m, hI⟩ hK
    have hsl : s.length = C.length := by rw [hS, ← HCS.out]
    rw [hsl] at hI
    have hcu := hI.cur
    have hln := hI.len
    rw [List.take_length] at hcu hln
    have hgr : grps wdn C = (gRun wdn C).1 ++ (gRun wdn C).2.toList := rfl
    have hbd := gRun_bound wdn C
    have y4 : One 85 V W.heap.size (.func (.yield l) #[] #[]) := by
      have h1 := HSZ.out
      exact H2.out.1.block (hI.keep.block _ ⟨by omega, by omega, H2.out.1.lt, fun h => by have := HOW.out _ h; omega⟩ H2.out.1.lt)
    have d4 := y4.cell
    have d5 := hI.lastv.cell
    have HIV := Lib.hid hI
    have HKD := Lib.hid hK
    have HOD : Hid (∀ A, Outs W.heap.size (k + 1) A (A.putObj w2.heap.size (.deferred none))) := fun A => HOU.out _ _ k (some w2.heap.size) hk (grownBy_putObj' _ _ _) (fun r e => by injection e with e; omega)
    generalize gRun wdn C = sg at hcu hln hgr hbd
    obtain ⟨em, cur⟩ := sg
    cases cur with
    | none =>
      obtain rfl : m = 0 := hcu
      have d6 := hI.num.cell
      have HLE : Hid (xs.length = (grps wd.toNat (cutM T.list f t cl true)).length) := by
        have : xs.length = (grps wd.toNat (cutM T.list f t cl true)).length := by rw [hwdn, HCC.out, hgr]; simp [hln]
        exact this
      clear hI hK hgr hbd hln hS
      go_wp2_with fail
      exact leave_mark0 .normal (.inr rfl) rfl HKD.out fun v => ⟨⟨v, rfl⟩, .inl ⟨k + 1, xs, HLE.out, HJ.out _ _ _ _ HIV.out.j (HOD.out _)⟩⟩
    | some q =>
      obtain ⟨lk, nn⟩ := q
      obtain ⟨rfl, hlast⟩ := hcu
      obtain ⟨A5, n5, c5, rfl⟩ := hlast.slice
      have hm1 := (hbd.2.1 lk m rfl).1
      have hmp : (0 : Int) < (m : Int) := by omega
      have hget : (grps wdn C)[xs.length]? = some (lk, m) := by
        rw [hgr, hln]; simp
      have hle : xs.length + 1 = (grps wd.toNat (cutM T.list f t cl true)).length := by rw [hwdn, HCC.out, hgr]; simp [hln]
      have HLE := Lib.hid hle
      have hyy := HY.out (k + 1) xs (.slice A5 n5 c5, m) V hI.j ⟨(lk, m), hget, rfl, hlast.imp fun b _ hb => hb⟩ hI.lt 0
      have HYY := Lib.hid hyy
      have d6 := hI.num.cell
      clear hI hK hgr hbd hln hS hlast hm1 hget hle hyy
      go_upto_region 11 with fail
      obtain ⟨fn, tmps, assign, body, hy, hR⟩ := HYY.out
      refine (wpIn_wide (n := 1)).1 ?_
      gi_wp2
      refine hR.mono ?_
      rintro e V3 (⟨rfl, hj3, hk3⟩ | ⟨rfl, hjx3, hk3⟩)
      · have HE : Hid (V3.heap[w2.heap.size]? = some (.deferred (some [])) ∧ J (k + 1) (xs ++ [((.slice A5 n5 c5, m) : Value × Nat)]) (V3.putObj w2.heap.size (.deferred none))) := by
          have h1 : V3.heap[w2.heap.size]? = some (.deferred (some [])) := (hk3.block _ (fun ho => by have := HOW.out _ ho; have := HSZ.out; omega) (Array.getElem?_eq_some_iff.1 HKD.out).1).trans HKD.out
          exact ⟨h1, HJ.out _ _ _ _ hj3 (HOD.out _)⟩
        clear hj3 hk3 hR hy
        gi_wp2
        try go_wp2_with fail
        exact leave_mark0 .normal (.inr rfl) rfl HE.out.1 fun v => ⟨⟨v, rfl⟩, .inl ⟨k + 1, _, by rw [List.length_append]; exact HLE.out, HE.out.2⟩⟩
      · have HE : Hid (V3.heap[w2.heap.size]? = some (.deferred (some [])) ∧ Jx (k + 1) (xs ++ [((.slice A5 n5 c5, m) : Value × Nat)]) (V3.putObj w2.heap.size (.deferred none))) := by
          have h1 : V3.heap[w2.heap.size]? = some (.deferred (some [])) := (hk3.block _ ⟨fun ho => by have := HOW.out _ ho; have := HSZ.out; omega, by have := HLL.out.1; have := HSZ.out; omega⟩ (Array.getElem?_eq_some_iff.1 HKD.out).1).trans HKD.out
          exact ⟨h1, HJX.out _ _ _ _ hjx3 (HOD.out _)⟩
        clear hjx3 hk3 hR hy
        gi_wp2
        try go_wp2_with fail
        exact leave_mark0 .normal (.inr rfl) rfl HE.out.1 fun v => ⟨⟨v, rfl⟩, .inr ⟨k + 1, _, ⟨by simp, by rw [List.length_append]; exact Nat.le_of_eq HLE.out⟩, HE.out.2⟩⟩
  case stop =>
    rintro k cd s V hk hS ⟨rfl, _, xs, h1, h2, h3⟩ hK
    go_wp2_with fail
    refine leave_mark0 .ret (.inl rfl) rfl hK fun v => ⟨⟨v, rfl⟩, .inr ⟨k + 1, xs, ⟨h1, by rw [hwdn, HCC.out]; exact h2⟩, HJX.out _ _ _ _ h3 (HOU.out _ _ _ _ hk (grownBy_putObj' _ _ _) (fun r e => by injection e with e; omega))⟩⟩

end Go.Proofs.YtphjaebkcimklaaGreatDoor
