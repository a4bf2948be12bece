/- The contract of the reference's Rounds: so many rounds. -/
import Derived.Test.YtocideolihbnaaaDoorRefR
import Derived.Test.YtocideolihbnaaaDoorWInvWords
set_option linter.unusedVariables false
set_option linter.unusedSimpArgs false
namespace Go.Proofs.YtocideolihbnaaaDoor
open Go.RowKit Go.Proofs.YtocideolihbnaaaDoorW.PrintWords Go.Proofs.YtocideolihbnaaaDoorW.PrintLast
attribute [local go_sem ↓] Go.wp_at_zero Go.wp_at_succ

def prow (x : Nat) : Array Value := #[.int .u64 ((x / 4294967296 : Nat) : Int), .int .u64 ((x % 4294967296 : Nat) : Int)]
theorem prow_one (x : Nat) : (prow x).all (·.oneCell') = true := one2 _ _
theorem prow_size (x : Nat) : (prow x).size = 2 := rfl
theorem two_prow (x : Nat) : two x = .agg (prow x) := rfl
def Zd (w : World) (w0 : World) (g : Nat) : Prop := w0.heap.size ≤ g ∧ w.heap[g]? = some (.cells #[.int .u64 0, .int .u64 0] 52 (0, 0))
def Pd (w : World) (w0 : World) (g : Nat) (x : Nat) : Prop := w0.heap.size ≤ g ∧ w.heap[g]? = some (.cells (prow x) 52 (0, 0))
section
variable {w w0 w1 : World} {g h x : Nat}
theorem Zd.lt (z : Zd w w0 g) : g < w.heap.size := (Array.getElem?_eq_some_iff.1 z.2).1
theorem Pd.lt (z : Pd w w0 g x) : g < w.heap.size := (Array.getElem?_eq_some_iff.1 z.2).1
theorem Zd.below (z : Zd w w0 g) (hb : Below w.heap.size w w1) : Zd w1 w0 g := ⟨z.1, (hb.block g z.lt).trans z.2⟩
theorem Pd.below (z : Pd w w0 g x) (hb : Below w.heap.size w w1) : Pd w1 w0 g x := ⟨z.1, (hb.block g z.lt).trans z.2⟩
theorem Zd.alloc (z : Zd w w0 g) (o : Obj) : Zd (w.alloc o) w0 g := ⟨z.1, heap_old o z.2⟩
theorem Pd.alloc (z : Pd w w0 g x) (o : Obj) : Pd (w.alloc o) w0 g x := ⟨z.1, heap_old o z.2⟩
theorem Zd.new (hs : w0.heap.size ≤ w.heap.size) : Zd (w.alloc (.cells #[.int .u64 0, .int .u64 0] 52)) w0 w.heap.size := ⟨hs, heap_new w _⟩
theorem Zd.other (z : Zd w w0 g) (y : Nat) (hne : g ≠ h) : Zd (w.setRow h (prow y)) w0 g := ⟨z.1, (setRow_other w h g _ hne).trans z.2⟩
theorem Pd.other (z : Pd w w0 g x) (y : Nat) (hne : g ≠ h) : Pd (w.setRow h (prow y)) w0 g x := ⟨z.1, (setRow_other w h g _ hne).trans z.2⟩
theorem Zd.done (z : Zd w w0 g) : Pd (w.setRow g (prow x)) w0 g x := ⟨z.1, setRow_heap w g _ _ 52 _ z.2⟩
theorem stores_ {ops : Array Oper} {oi : Oper} {a : Act} {K : Act → World → Prop} {Q : Exit → Act → World → Prop} {t1 t2 : Tmp} (hw : Region.wanted oi (yielded ops a.tmps) = true) (hN : oi.dst = none) (ho : oi.op = .store 52 (.tmp t1) (.tmp t2))
    (h1 : a.tmps[t1]? = some (.pointer (some ⟨g, 0, none⟩))) (h2 : a.tmps[t2]? = some (two x)) (hz : Zd w w0 g) (h : K a (w.setRow g (prow x))) :
    if Region.wanted oi (yielded ops a.tmps) = true then Oper.wp Tryd.prog oi a w K Q else K (a.put none undef) w := by
  rw [if_pos hw]
  refine wp_store_row 52 (.tmp t1) (.tmp t2) ho g (prow x) (by simp [Act.eval, h1]) (by simp [Act.eval, h2, two, prow]) 52 _ hz.2 info52 rfl (prow_one x) ?_
  rw [hN]; exact h
end

theorem T.ex {x : Nat} (h : x < 18446744073709551616) : ∃ u v, T x u v := ⟨_, _, h, rfl, rfl⟩
theorem Pd.pr {w w0 : World} {g x : Nat} {u v : Int} (z : Pd w w0 g x) (t : T x u v) : Pr w g u v := by
  have := z.2
  unfold prow at this
  rw [← t.2.1, ← t.2.2] at this
  exact this
/-- The four variables, each in a block of its own. -/
structure Fours (w w0 W : World) (g0 g1 g2 g3 : Nat) (y : St) : Prop where
  p : Pd W w0 g0 y.p
  q : Pd W w0 g1 y.q
  r : Pd W w0 g2 y.r
  s : Pd W w0 g3 y.s
  bel : Below w.heap.size w W
  res : Lies W (w.heap.size + 1) 30 ⟨0, 0, 0, 0⟩
theorem Pd.set {w w0 : World} {g x : Nat} (y : Nat) (z : Pd w w0 g x) : Pd (w.setRow g (prow y)) w0 g y := ⟨z.1, setRow_heap w g _ _ 52 _ z.2⟩
theorem Lies.other {W : World} {b g : Nat} {t : TypeId} {x : St} (h : Lies W b t x) (cs : Array Value) (hne : b ≠ g) : Lies (W.setRow g cs) b t x := (setRow_other W g b cs hne).trans h
section
variable {w w0 W W' : World} {g0 g1 g2 g3 : Nat} {y : St}
theorem Fours.below (f : Fours w w0 W g0 g1 g2 g3 y) (hb : Below W.heap.size W W') : Fours w w0 W' g0 g1 g2 g3 y :=
  ⟨f.p.below hb, f.q.below hb, f.r.below hb, f.s.below hb, f.bel.trans (hb.mono f.bel.size), f.res.below hb f.res.lt⟩
theorem Fours.step (f : Fours w w0 W g0 g1 g2 g3 y) (d : g0 ≠ g1 ∧ g0 ≠ g2 ∧ g0 ≠ g3 ∧ g1 ≠ g2 ∧ g1 ≠ g3 ∧ g2 ≠ g3) (hs : w.heap.size + 1 < w0.heap.size) (z : St) :
    Fours w w0 ((((W.setRow g0 (prow z.p)).setRow g1 (prow z.q)).setRow g2 (prow z.r)).setRow g3 (prow z.s)) g0 g1 g2 g3 z := by
  obtain ⟨d1, d2, d3, d4, d5, d6⟩ := d
  have h0 := f.p.1
  have h1 := f.q.1
  have h2 := f.r.1
  have h3 := f.s.1
  exact ⟨(((f.p.set z.p).other _ d1).other _ d2).other _ d3, (((f.q.other z.p (Ne.symm d1)).set z.q).other _ d4).other _ d5, (((f.r.other z.p (Ne.symm d2)).other z.q (Ne.symm d4)).set z.r).other _ d6,
    (((f.s.other z.p (Ne.symm d3)).other z.q (Ne.symm d5)).other z.r (Ne.symm d6)).set z.s, below_setRow (below_setRow (below_setRow (below_setRow f.bel (by omega) _) (by omega) _) (by omega) _) (by omega) _,
    (((f.res.other _ (by omega)).other _ (by omega)).other _ (by omega)).other _ (by omega)⟩
end
theorem Fours.drew {w w0 W : World} {g0 g1 g2 g3 : Nat} {y : St} (f : Fours w w0 W g0 g1 g2 g3 y) : Fours w w0 W.drew g0 g1 g2 g3 y :=
  ⟨⟨f.p.1, f.p.2⟩, ⟨f.q.1, f.q.2⟩, ⟨f.r.1, f.r.2⟩, ⟨f.s.1, f.s.2⟩, ⟨f.bel.os, f.bel.tape, f.bel.output, f.bel.size, f.bel.block⟩, f.res⟩
theorem Fours.cells {w w0 W : World} {g0 g1 g2 g3 : Nat} {y : St} {u1 v1 u2 v2 u3 v3 u4 v4 : Int} (f : Fours w w0 W g0 g1 g2 g3 y) (t1 : T y.p u1 v1) (t2 : T y.q u2 v2) (t3 : T y.r u3 v3) (t4 : T y.s u4 v4) :
    (W.cell? ⟨g0, 0, none⟩ = some (.int .u64 u1) ∧ W.cell? ⟨g0, 1, none⟩ = some (.int .u64 v1)) ∧ (W.cell? ⟨g1, 0, none⟩ = some (.int .u64 u2) ∧ W.cell? ⟨g1, 1, none⟩ = some (.int .u64 v2)) ∧
      (W.cell? ⟨g2, 0, none⟩ = some (.int .u64 u3) ∧ W.cell? ⟨g2, 1, none⟩ = some (.int .u64 v3)) ∧ W.cell? ⟨g3, 0, none⟩ = some (.int .u64 u4) ∧ W.cell? ⟨g3, 1, none⟩ = some (.int .u64 v4) :=
  ⟨(f.p.pr t1).cells, (f.q.pr t2).cells, (f.r.pr t3).cells, (f.s.pr t4).cells⟩
theorem Fours.step4 {w w0 W : World} {g0 g1 g2 g3 : Nat} {y z : St} {u1 v1 u2 v2 u3 v3 u4 v4 a1 b1 a2 b2 a3 b3 a4 b4 : Int} (f : Fours w w0 W g0 g1 g2 g3 y) (d : g0 ≠ g1 ∧ g0 ≠ g2 ∧ g0 ≠ g3 ∧ g1 ≠ g2 ∧ g1 ≠ g3 ∧ g2 ≠ g3) (hs : w.heap.size + 1 < w0.heap.size)
    (q1 : T z.p a1 b1) (q2 : T z.q a2 b2) (q3 : T z.r a3 b3) (q4 : T z.s a4 b4) (t1 : T y.p u1 v1) (t2 : T y.q u2 v2) (t3 : T y.r u3 v3) (t4 : T y.s u4 v4) :
    Fours w w0 ((((((((W.setCell ⟨g0, 0, none⟩ (.int .u64 a1)).setCell ⟨g0, 1, none⟩ (.int .u64 b1)).setCell ⟨g1, 0, none⟩ (.int .u64 a2)).setCell ⟨g1, 1, none⟩ (.int .u64 b2)).setCell ⟨g2, 0, none⟩ (.int .u64 a3)).setCell ⟨g2, 1, none⟩ (.int .u64 b3)).setCell ⟨g3, 0, none⟩ (.int .u64 a4)).setCell ⟨g3, 1, none⟩ (.int .u64 b4)) g0 g1 g2 g3 z := by
  have e1 : (#[.int .u64 a1, .int .u64 b1] : Array Value) = prow z.p := by rw [q1.2.1, q1.2.2]; rfl
  have e2 : (#[.int .u64 a2, .int .u64 b2] : Array Value) = prow z.q := by rw [q2.2.1, q2.2.2]; rfl
  have e3 : (#[.int .u64 a3, .int .u64 b3] : Array Value) = prow z.r := by rw [q3.2.1, q3.2.2]; rfl
  have e4 : (#[.int .u64 a4, .int .u64 b4] : Array Value) = prow z.s := by rw [q4.2.1, q4.2.2]; rfl
  have h := f.step d hs z
  obtain ⟨d1, d2, d3, d4, d5, d6⟩ := d
  rw [set_row2 (f.p.pr t1), e1]
  rw [set_row2 ((f.q.other z.p (Ne.symm d1)).pr t2), e2]
  rw [set_row2 (((f.r.other z.p (Ne.symm d2)).other z.q (Ne.symm d4)).pr t3), e3]
  rw [set_row2 ((((f.s.other z.p (Ne.symm d3)).other z.q (Ne.symm d5)).other z.r (Ne.symm d6)).pr t4), e4]
  exact h
theorem wholeT {x : Nat} {u v : Int} (t : T x u v) (w : World) : Calls Tryd.prog 25 #[.agg #[.int .u64 u, .int .u64 v]] w fun e w' => e = .returned (.int .u64 (x : Int)) ∧ Below w.heap.size w w' := by
  rw [← t.two]; exact whole_any x w t.1

theorem set4 {W : World} {b : Nat} {t : TypeId} {x : St} {a c d e : Value} (h : Lies W b t x) : ((((W.setCell ⟨b, 0, none⟩ a).setCell ⟨b, 1, none⟩ c).setCell ⟨b, 2, none⟩ d).setCell ⟨b, 3, none⟩ e).heap[b]? = some (.cells #[a, c, d, e] t (0, 0)) := by
  simp [World.setCell, Array.getElem?_modify, show W.heap[b]? = _ from h]

def roundsT : Bool × List (List Nat × List Nat) := (true, [([], []), ([0], [0]), ([1], [1]), ([], []), ([3], [3]), ([4, 2], [4]), ([], []), ([6], [6]), ([7, 5], [7]), ([], []), ([9], [9]), ([10, 8], [10]), ([], []), ([], []), ([], []), ([], []), ([12, 2, 11, 0, 1, 2, 12, 13, 14, 15], [2, 12]), ([13, 5, 16, 0, 1, 2, 3, 4, 5, 12, 13, 14, 15, 16], [5, 13]), ([14, 8, 17, 0, 1, 2, 3, 4, 5, 6, 7, 8, 12, 13, 14, 15, 16, 17], [8, 14]), ([15, 11, 18, 0, 1, 2, 3, 4, 5, 6, 7, 8, 9, 10, 11, 12, 13, 14, 15, 16, 17, 18], [11, 15])])
def roundsB : List Nat := [0, 1, 3, 0, 8, 31, 0, 64, 255, 0, 512, 2047, 0, 0, 0, 0, 65535, 131071, 262143, 524287]
theorem rounds_tab : rtab .any (opsOf Tryd.f12 1) = roundsT := by kernel_rfl
theorem rounds_bits : waitsOk roundsT.2 roundsB = true := by kernel_rfl

theorem start_cells {w : World} {p q r s : Nat} (w0 : World) (h : World.drew ((w.alloc (.cells #[.int .u64 (p : Int), .int .u64 (q : Int), .int .u64 (r : Int), .int .u64 (s : Int)] 30)).alloc (.cells #[.int .u64 0, .int .u64 0, .int .u64 0, .int .u64 0] 30)) = w0) :
    Aside0 (w0.cell? ⟨w.heap.size, 0, none⟩ = some (.int .u64 (p : Int))) ∧ Aside0 (w0.cell? ⟨w.heap.size, 1, none⟩ = some (.int .u64 (q : Int))) ∧ Aside0 (w0.cell? ⟨w.heap.size, 2, none⟩ = some (.int .u64 (r : Int))) ∧ Aside0 (w0.cell? ⟨w.heap.size, 3, none⟩ = some (.int .u64 (s : Int))) ∧ Aside0 (w.heap.size < w0.heap.size) := by
  have hl : Lies w0 w.heap.size 30 ⟨p, q, r, s⟩ := by rw [← h]; exact heap_old _ (heap_new w _)
  obtain ⟨a, b, c, d⟩ := hl.cells
  exact ⟨⟨a⟩, ⟨b⟩, ⟨c⟩, ⟨d⟩, ⟨hl.lt⟩⟩

set_option maxHeartbeats 12800000 in
theorem refRounds_any (x : St) (n : Nat) (w : World) (h : x.ok) (hn : n ≤ 1000) :
    Calls Tryd.prog 12 #[x.v, .int .i64 (n : Int)] w fun e w' => e = .returned (itN n x).v ∧ Below w.heap.size w w' := by
  obtain ⟨p, q, r, s⟩ := x
  have HB0 := Lib.hid h.1
  have HB1 := Lib.hid h.2.1
  have HB2 := Lib.hid h.2.2.1
  have HB3 := Lib.hid h.2.2.2
  have HOK := Lib.hid h
  clear h
  simp only [St.v]
  go_enter Tryd.func12, Tryd.ntmps12
  go_wp2_with fail
  refine start_ (n := 20) (S := fun w' => True) (ds := []) #[false, false, false, false, false, false, false, false, false, false, false, false, false, false, false, false, false, false, false, false] (by kernel_rfl) rfl rfl trivial (fun hHeld => ?_)
  clear hHeld
  refine with_tabW rounds_tab rounds_bits (fun HT_ HW_ => ?_)
  obtain ⟨w0, hw0⟩ : ∃ w0, World.drew ((w.alloc (.cells #[.int .u64 (p : Int), .int .u64 (q : Int), .int .u64 (r : Int), .int .u64 (s : Int)] 30)).alloc (.cells #[.int .u64 0, .int .u64 0, .int .u64 0, .int .u64 0] 30)) = w0 := ⟨_, rfl⟩
  rw [hw0]
  have HW0 := Lib.hid hw0
  have bs := Aside0.mk (Below.refl w0.heap.size w0)
  obtain ⟨C0, C1, C2, C3, HBN⟩ := start_cells w0 hw0
  clear hw0
  refine pure_ (i := 0) (N := some 10) (v := ?_) (a' := ?_) #[true, false, false, false, false, false, false, false, false, false, false, false, false, false, false, false, false, false, false, false] rfl rfl (any_of HT_.out (by kernel_rfl)) (fun _ _ _ h => h) (Or.inl ⟨by rfl, ?_⟩) ?_ ?_
  rotate_left
  · intro w'
    go_simp
    with_reducible rfl
  rotate_left
  · simp only [Act.put, List.setIfInBounds_toArray, List.set_cons_zero, List.set_cons_succ, i64_w, i32_w]
    rfl
  refine pure_ (i := 3) (N := some 13) (v := ?_) (a' := ?_) #[true, false, false, true, false, false, false, false, false, false, false, false, false, false, false, false, false, false, false, false] rfl rfl (any_of HT_.out (by kernel_rfl)) (fun _ _ _ h => h) (Or.inl ⟨by rfl, ?_⟩) ?_ ?_
  rotate_left
  · intro w'
    go_simp
    with_reducible rfl
  rotate_left
  · simp only [Act.put, List.setIfInBounds_toArray, List.set_cons_zero, List.set_cons_succ, i64_w, i32_w]
    rfl
  refine pure_ (i := 6) (N := some 16) (v := ?_) (a' := ?_) #[true, false, false, true, false, false, true, false, false, false, false, false, false, false, false, false, false, false, false, false] rfl rfl (any_of HT_.out (by kernel_rfl)) (fun _ _ _ h => h) (Or.inl ⟨by rfl, ?_⟩) ?_ ?_
  rotate_left
  · intro w'
    go_simp
    with_reducible rfl
  rotate_left
  · simp only [Act.put, List.setIfInBounds_toArray, List.set_cons_zero, List.set_cons_succ, i64_w, i32_w]
    rfl
  refine pure_ (i := 9) (N := some 19) (v := ?_) (a' := ?_) #[true, false, false, true, false, false, true, false, false, true, false, false, false, false, false, false, false, false, false, false] rfl rfl (any_of HT_.out (by kernel_rfl)) (fun _ _ _ h => h) (Or.inl ⟨by rfl, ?_⟩) ?_ ?_
  rotate_left
  · intro w'
    go_simp
    with_reducible rfl
  rotate_left
  · simp only [Act.put, List.setIfInBounds_toArray, List.set_cons_zero, List.set_cons_succ, i64_w, i32_w]
    rfl
  refine inv_at [1, 2, 4, 5, 7, 8, 10, 11, 12, 13, 14, 15, 16, 17, 18, 19] (fun a0_ b a w' => ∃ (g0 : Nat) (g1 : Nat) (g2 : Nat) (g3 : Nat) (m12_ : Value) (m13_ : Value) (m14_ : Value) (m15_ : Value), a = putSel a0_ b [(1, 11, .int .u64 (p : Int)), (2, 12, two p), (4, 14, .int .u64 (q : Int)), (5, 15, two q), (7, 17, .int .u64 (r : Int)), (8, 18, two r), (10, 20, .int .u64 (s : Int)), (11, 21, two s), (12, 5, m12_), (13, 6, m13_), (14, 7, m14_), (15, 8, m15_)] ∧ (Below w0.heap.size w0 w') ∧ (b 12 = true → b 16 = false → Zd w' w0 g0) ∧ (b 16 = true → Pd w' w0 g0 p) ∧ (b 13 = true → b 17 = false → Zd w' w0 g1) ∧ (b 17 = true → Pd w' w0 g1 q) ∧ (b 14 = true → b 18 = false → Zd w' w0 g2) ∧ (b 18 = true → Pd w' w0 g2 r) ∧ (b 15 = true → b 19 = false → Zd w' w0 g3) ∧ (b 19 = true → Pd w' w0 g3 s) ∧ (b 12 = true → b 13 = true → g0 ≠ g1) ∧ (b 12 = true → b 14 = true → g0 ≠ g2) ∧ (b 12 = true → b 15 = true → g0 ≠ g3) ∧ (b 13 = true → b 14 = true → g1 ≠ g2) ∧ (b 13 = true → b 15 = true → g1 ≠ g3) ∧ (b 14 = true → b 15 = true → g2 ≠ g3) ∧ (b 12 = true → (m12_ : Value) = .pointer (some ⟨g0, 0, none⟩)) ∧ (b 13 = true → (m13_ : Value) = .pointer (some ⟨g1, 0, none⟩)) ∧ (b 14 = true → (m14_ : Value) = .pointer (some ⟨g2, 0, none⟩)) ∧ (b 15 = true → (m15_ : Value) = .pointer (some ⟨g3, 0, none⟩))) HT_.out HW_.out (by kernel_rfl) (by kernel_rfl) ?_ ?_ ?_
  · exact ⟨0, 0, 0, 0, .bool false, .bool false, .bool false, .bool false, by simp only [putSel, Bool.false_eq_true, if_false], bs.out, fun h_ => absurd h_ (by decide), fun h_ => absurd h_ (by decide), fun h_ => absurd h_ (by decide), fun h_ => absurd h_ (by decide), fun h_ => absurd h_ (by decide), fun h_ => absurd h_ (by decide), fun h_ => absurd h_ (by decide), fun h_ => absurd h_ (by decide), fun h_ => absurd h_ (by decide), fun h_ => absurd h_ (by decide), fun h_ => absurd h_ (by decide), fun h_ => absurd h_ (by decide), fun h_ => absurd h_ (by decide), fun h_ => absurd h_ (by decide), fun h_ => absurd h_ (by decide), fun h_ => absurd h_ (by decide), fun h_ => absurd h_ (by decide), fun h_ => absurd h_ (by decide)⟩
  · skip
    clear bs
    refine steps_cons ?_ ?_
    · rintro b a w' ⟨g0, g1, g2, g3, m12_, m13_, m14_, m15_, ha, Q_bs, Q_z0, Q_s0, Q_z1, Q_s1, Q_z2, Q_s2, Q_z3, Q_s3, Q_d01, Q_d02, Q_d03, Q_d12, Q_d13, Q_d23, Q_X12_, Q_X13_, Q_X14_, Q_X15_⟩ hb_ hon hoff
      refine ⟨_, rfl, fun K hK => ?_⟩
      have e10 : a.tmps[10]? = some (.pointer (some ⟨w.heap.size, 0, none⟩)) := by rw [ha]; exact (putSel_off rfl).trans rfl
      replace ha := Aside0.mk ha
      have bs := Aside0.mk Q_bs
      have hc_ : w'.cell? ⟨w.heap.size, 0, none⟩ = some (.int .u64 (p : Int)) := (bs.out.cell (p := ⟨w.heap.size, 0, none⟩) HBN.out).trans C0.out
      refine value_ (w1 := w') (v := .int .u64 (p : Int)) (by rfl) rfl ?_ ?_
      · go_simp
        (try simp only [i64_w])
        try rfl
      refine hK.out _ _ ⟨g0, g1, g2, g3, m12_, m13_, m14_, m15_, (by rw [ha.out]; exact putSel_upk 0 hb_ rfl rfl rfl), Q_bs, Q_z0, fun h0_ => absurd ((hoff 16 (by kernel_rfl)).symm.trans h0_) (by decide), Q_z1, fun h0_ => absurd ((hoff 17 (by kernel_rfl)).symm.trans h0_) (by decide), Q_z2, fun h0_ => absurd ((hoff 18 (by kernel_rfl)).symm.trans h0_) (by decide), Q_z3, fun h0_ => absurd ((hoff 19 (by kernel_rfl)).symm.trans h0_) (by decide), Q_d01, Q_d02, Q_d03, Q_d12, Q_d13, Q_d23, Q_X12_, Q_X13_, Q_X14_, Q_X15_⟩
    refine steps_cons ?_ ?_
    · rintro b a w' ⟨g0, g1, g2, g3, m12_, m13_, m14_, m15_, ha, Q_bs, Q_z0, Q_s0, Q_z1, Q_s1, Q_z2, Q_s2, Q_z3, Q_s3, Q_d01, Q_d02, Q_d03, Q_d12, Q_d13, Q_d23, Q_X12_, Q_X13_, Q_X14_, Q_X15_⟩ hb_ hon hoff
      refine ⟨_, rfl, fun K hK => ?_⟩
      have e11 : a.tmps[11]? = some (.int .u64 (p : Int)) := by rw [ha]; exact putSel_on (e := (1, 11, .int .u64 (p : Int))) 0 rfl rfl (hon 1 (by kernel_rfl)) rfl
      replace ha := Aside0.mk ha
      have bs := Aside0.mk Q_bs
      refine goes_ Tryd.func23 (by kernel_rfl) rfl #[.int .u64 (p : Int)] (by rfl) rfl rfl (by simp only [List.map_toArray, List.map_cons, List.map_nil, Act.eval, Array.getD_eq_getD_getElem?, Option.getD_some, e11]) ?_
      refine (of_any p w' HB0.out).mono ?_
      rintro e_ w1 ⟨rfl, hb_1⟩
      refine ⟨_, rfl, ?_⟩
      have hbs := bs.out.trans (hb_1.mono bs.out.size)
      refine hK.out _ _ ⟨g0, g1, g2, g3, m12_, m13_, m14_, m15_, (by rw [ha.out]; exact putSel_upk 1 hb_ rfl rfl rfl), hbs, fun h0_ h1_ => ((Q_z0 h0_ h1_).below hb_1), fun h0_ => absurd ((hoff 16 (by kernel_rfl)).symm.trans h0_) (by decide), fun h0_ h1_ => ((Q_z1 h0_ h1_).below hb_1), fun h0_ => absurd ((hoff 17 (by kernel_rfl)).symm.trans h0_) (by decide), fun h0_ h1_ => ((Q_z2 h0_ h1_).below hb_1), fun h0_ => absurd ((hoff 18 (by kernel_rfl)).symm.trans h0_) (by decide), fun h0_ h1_ => ((Q_z3 h0_ h1_).below hb_1), fun h0_ => absurd ((hoff 19 (by kernel_rfl)).symm.trans h0_) (by decide), Q_d01, Q_d02, Q_d03, Q_d12, Q_d13, Q_d23, Q_X12_, Q_X13_, Q_X14_, Q_X15_⟩
    refine steps_cons ?_ ?_
    · rintro b a w' ⟨g0, g1, g2, g3, m12_, m13_, m14_, m15_, ha, Q_bs, Q_z0, Q_s0, Q_z1, Q_s1, Q_z2, Q_s2, Q_z3, Q_s3, Q_d01, Q_d02, Q_d03, Q_d12, Q_d13, Q_d23, Q_X12_, Q_X13_, Q_X14_, Q_X15_⟩ hb_ hon hoff
      refine ⟨_, rfl, fun K hK => ?_⟩
      have e13 : a.tmps[13]? = some (.pointer (some ⟨w.heap.size, 1, none⟩)) := by rw [ha]; exact (putSel_off rfl).trans rfl
      replace ha := Aside0.mk ha
      have bs := Aside0.mk Q_bs
      have hc_ : w'.cell? ⟨w.heap.size, 1, none⟩ = some (.int .u64 (q : Int)) := (bs.out.cell (p := ⟨w.heap.size, 1, none⟩) HBN.out).trans C1.out
      refine value_ (w1 := w') (v := .int .u64 (q : Int)) (by rfl) rfl ?_ ?_
      · go_simp
        (try simp only [i64_w])
        try rfl
      refine hK.out _ _ ⟨g0, g1, g2, g3, m12_, m13_, m14_, m15_, (by rw [ha.out]; exact putSel_upk 2 hb_ rfl rfl rfl), Q_bs, Q_z0, fun h0_ => absurd ((hoff 16 (by kernel_rfl)).symm.trans h0_) (by decide), Q_z1, fun h0_ => absurd ((hoff 17 (by kernel_rfl)).symm.trans h0_) (by decide), Q_z2, fun h0_ => absurd ((hoff 18 (by kernel_rfl)).symm.trans h0_) (by decide), Q_z3, fun h0_ => absurd ((hoff 19 (by kernel_rfl)).symm.trans h0_) (by decide), Q_d01, Q_d02, Q_d03, Q_d12, Q_d13, Q_d23, Q_X12_, Q_X13_, Q_X14_, Q_X15_⟩
    refine steps_cons ?_ ?_
    · rintro b a w' ⟨g0, g1, g2, g3, m12_, m13_, m14_, m15_, ha, Q_bs, Q_z0, Q_s0, Q_z1, Q_s1, Q_z2, Q_s2, Q_z3, Q_s3, Q_d01, Q_d02, Q_d03, Q_d12, Q_d13, Q_d23, Q_X12_, Q_X13_, Q_X14_, Q_X15_⟩ hb_ hon hoff
      refine ⟨_, rfl, fun K hK => ?_⟩
      have e14 : a.tmps[14]? = some (.int .u64 (q : Int)) := by rw [ha]; exact putSel_on (e := (4, 14, .int .u64 (q : Int))) 2 rfl rfl (hon 4 (by kernel_rfl)) rfl
      replace ha := Aside0.mk ha
      have bs := Aside0.mk Q_bs
      refine goes_ Tryd.func23 (by kernel_rfl) rfl #[.int .u64 (q : Int)] (by rfl) rfl rfl (by simp only [List.map_toArray, List.map_cons, List.map_nil, Act.eval, Array.getD_eq_getD_getElem?, Option.getD_some, e14]) ?_
      refine (of_any q w' HB1.out).mono ?_
      rintro e_ w1 ⟨rfl, hb_1⟩
      refine ⟨_, rfl, ?_⟩
      have hbs := bs.out.trans (hb_1.mono bs.out.size)
      refine hK.out _ _ ⟨g0, g1, g2, g3, m12_, m13_, m14_, m15_, (by rw [ha.out]; exact putSel_upk 3 hb_ rfl rfl rfl), hbs, fun h0_ h1_ => ((Q_z0 h0_ h1_).below hb_1), fun h0_ => absurd ((hoff 16 (by kernel_rfl)).symm.trans h0_) (by decide), fun h0_ h1_ => ((Q_z1 h0_ h1_).below hb_1), fun h0_ => absurd ((hoff 17 (by kernel_rfl)).symm.trans h0_) (by decide), fun h0_ h1_ => ((Q_z2 h0_ h1_).below hb_1), fun h0_ => absurd ((hoff 18 (by kernel_rfl)).symm.trans h0_) (by decide), fun h0_ h1_ => ((Q_z3 h0_ h1_).below hb_1), fun h0_ => absurd ((hoff 19 (by kernel_rfl)).symm.trans h0_) (by decide), Q_d01, Q_d02, Q_d03, Q_d12, Q_d13, Q_d23, Q_X12_, Q_X13_, Q_X14_, Q_X15_⟩
    refine steps_cons ?_ ?_
    · rintro b a w' ⟨g0, g1, g2, g3, m12_, m13_, m14_, m15_, ha, Q_bs, Q_z0, Q_s0, Q_z1, Q_s1, Q_z2, Q_s2, Q_z3, Q_s3, Q_d01, Q_d02, Q_d03, Q_d12, Q_d13, Q_d23, Q_X12_, Q_X13_, Q_X14_, Q_X15_⟩ hb_ hon hoff
      refine ⟨_, rfl, fun K hK => ?_⟩
      have e16 : a.tmps[16]? = some (.pointer (some ⟨w.heap.size, 2, none⟩)) := by rw [ha]; exact (putSel_off rfl).trans rfl
      replace ha := Aside0.mk ha
      have bs := Aside0.mk Q_bs
      have hc_ : w'.cell? ⟨w.heap.size, 2, none⟩ = some (.int .u64 (r : Int)) := (bs.out.cell (p := ⟨w.heap.size, 2, none⟩) HBN.out).trans C2.out
      refine value_ (w1 := w') (v := .int .u64 (r : Int)) (by rfl) rfl ?_ ?_
      · go_simp
        (try simp only [i64_w])
        try rfl
      refine hK.out _ _ ⟨g0, g1, g2, g3, m12_, m13_, m14_, m15_, (by rw [ha.out]; exact putSel_upk 4 hb_ rfl rfl rfl), Q_bs, Q_z0, fun h0_ => absurd ((hoff 16 (by kernel_rfl)).symm.trans h0_) (by decide), Q_z1, fun h0_ => absurd ((hoff 17 (by kernel_rfl)).symm.trans h0_) (by decide), Q_z2, fun h0_ => absurd ((hoff 18 (by kernel_rfl)).symm.trans h0_) (by decide), Q_z3, fun h0_ => absurd ((hoff 19 (by kernel_rfl)).symm.trans h0_) (by decide), Q_d01, Q_d02, Q_d03, Q_d12, Q_d13, Q_d23, Q_X12_, Q_X13_, Q_X14_, Q_X15_⟩
    refine steps_cons ?_ ?_
    · rintro b a w' ⟨g0, g1, g2, g3, m12_, m13_, m14_, m15_, ha, Q_bs, Q_z0, Q_s0, Q_z1, Q_s1, Q_z2, Q_s2, Q_z3, Q_s3, Q_d01, Q_d02, Q_d03, Q_d12, Q_d13, Q_d23, Q_X12_, Q_X13_, Q_X14_, Q_X15_⟩ hb_ hon hoff
      refine ⟨_, rfl, fun K hK => ?_⟩
      have e17 : a.tmps[17]? = some (.int .u64 (r : Int)) := by rw [ha]; exact putSel_on (e := (7, 17, .int .u64 (r : Int))) 4 rfl rfl (hon 7 (by kernel_rfl)) rfl
      replace ha := Aside0.mk ha
      have bs := Aside0.mk Q_bs
      refine goes_ Tryd.func23 (by kernel_rfl) rfl #[.int .u64 (r : Int)] (by rfl) rfl rfl (by simp only [List.map_toArray, List.map_cons, List.map_nil, Act.eval, Array.getD_eq_getD_getElem?, Option.getD_some, e17]) ?_
      refine (of_any r w' HB2.out).mono ?_
      rintro e_ w1 ⟨rfl, hb_1⟩
      refine ⟨_, rfl, ?_⟩
      have hbs := bs.out.trans (hb_1.mono bs.out.size)
      refine hK.out _ _ ⟨g0, g1, g2, g3, m12_, m13_, m14_, m15_, (by rw [ha.out]; exact putSel_upk 5 hb_ rfl rfl rfl), hbs, fun h0_ h1_ => ((Q_z0 h0_ h1_).below hb_1), fun h0_ => absurd ((hoff 16 (by kernel_rfl)).symm.trans h0_) (by decide), fun h0_ h1_ => ((Q_z1 h0_ h1_).below hb_1), fun h0_ => absurd ((hoff 17 (by kernel_rfl)).symm.trans h0_) (by decide), fun h0_ h1_ => ((Q_z2 h0_ h1_).below hb_1), fun h0_ => absurd ((hoff 18 (by kernel_rfl)).symm.trans h0_) (by decide), fun h0_ h1_ => ((Q_z3 h0_ h1_).below hb_1), fun h0_ => absurd ((hoff 19 (by kernel_rfl)).symm.trans h0_) (by decide), Q_d01, Q_d02, Q_d03, Q_d12, Q_d13, Q_d23, Q_X12_, Q_X13_, Q_X14_, Q_X15_⟩
    refine steps_cons ?_ ?_
    · rintro b a w' ⟨g0, g1, g2, g3, m12_, m13_, m14_, m15_, ha, Q_bs, Q_z0, Q_s0, Q_z1, Q_s1, Q_z2, Q_s2, Q_z3, Q_s3, Q_d01, Q_d02, Q_d03, Q_d12, Q_d13, Q_d23, Q_X12_, Q_X13_, Q_X14_, Q_X15_⟩ hb_ hon hoff
      refine ⟨_, rfl, fun K hK => ?_⟩
      have e19 : a.tmps[19]? = some (.pointer (some ⟨w.heap.size, 3, none⟩)) := by rw [ha]; exact (putSel_off rfl).trans rfl
      replace ha := Aside0.mk ha
      have bs := Aside0.mk Q_bs
      have hc_ : w'.cell? ⟨w.heap.size, 3, none⟩ = some (.int .u64 (s : Int)) := (bs.out.cell (p := ⟨w.heap.size, 3, none⟩) HBN.out).trans C3.out
      refine value_ (w1 := w') (v := .int .u64 (s : Int)) (by rfl) rfl ?_ ?_
      · go_simp
        (try simp only [i64_w])
        try rfl
      refine hK.out _ _ ⟨g0, g1, g2, g3, m12_, m13_, m14_, m15_, (by rw [ha.out]; exact putSel_upk 6 hb_ rfl rfl rfl), Q_bs, Q_z0, fun h0_ => absurd ((hoff 16 (by kernel_rfl)).symm.trans h0_) (by decide), Q_z1, fun h0_ => absurd ((hoff 17 (by kernel_rfl)).symm.trans h0_) (by decide), Q_z2, fun h0_ => absurd ((hoff 18 (by kernel_rfl)).symm.trans h0_) (by decide), Q_z3, fun h0_ => absurd ((hoff 19 (by kernel_rfl)).symm.trans h0_) (by decide), Q_d01, Q_d02, Q_d03, Q_d12, Q_d13, Q_d23, Q_X12_, Q_X13_, Q_X14_, Q_X15_⟩
    refine steps_cons ?_ ?_
    · rintro b a w' ⟨g0, g1, g2, g3, m12_, m13_, m14_, m15_, ha, Q_bs, Q_z0, Q_s0, Q_z1, Q_s1, Q_z2, Q_s2, Q_z3, Q_s3, Q_d01, Q_d02, Q_d03, Q_d12, Q_d13, Q_d23, Q_X12_, Q_X13_, Q_X14_, Q_X15_⟩ hb_ hon hoff
      refine ⟨_, rfl, fun K hK => ?_⟩
      have e20 : a.tmps[20]? = some (.int .u64 (s : Int)) := by rw [ha]; exact putSel_on (e := (10, 20, .int .u64 (s : Int))) 6 rfl rfl (hon 10 (by kernel_rfl)) rfl
      replace ha := Aside0.mk ha
      have bs := Aside0.mk Q_bs
      refine goes_ Tryd.func23 (by kernel_rfl) rfl #[.int .u64 (s : Int)] (by rfl) rfl rfl (by simp only [List.map_toArray, List.map_cons, List.map_nil, Act.eval, Array.getD_eq_getD_getElem?, Option.getD_some, e20]) ?_
      refine (of_any s w' HB3.out).mono ?_
      rintro e_ w1 ⟨rfl, hb_1⟩
      refine ⟨_, rfl, ?_⟩
      have hbs := bs.out.trans (hb_1.mono bs.out.size)
      refine hK.out _ _ ⟨g0, g1, g2, g3, m12_, m13_, m14_, m15_, (by rw [ha.out]; exact putSel_upk 7 hb_ rfl rfl rfl), hbs, fun h0_ h1_ => ((Q_z0 h0_ h1_).below hb_1), fun h0_ => absurd ((hoff 16 (by kernel_rfl)).symm.trans h0_) (by decide), fun h0_ h1_ => ((Q_z1 h0_ h1_).below hb_1), fun h0_ => absurd ((hoff 17 (by kernel_rfl)).symm.trans h0_) (by decide), fun h0_ h1_ => ((Q_z2 h0_ h1_).below hb_1), fun h0_ => absurd ((hoff 18 (by kernel_rfl)).symm.trans h0_) (by decide), fun h0_ h1_ => ((Q_z3 h0_ h1_).below hb_1), fun h0_ => absurd ((hoff 19 (by kernel_rfl)).symm.trans h0_) (by decide), Q_d01, Q_d02, Q_d03, Q_d12, Q_d13, Q_d23, Q_X12_, Q_X13_, Q_X14_, Q_X15_⟩
    refine steps_cons ?_ ?_
    · rintro b a w' ⟨g0, g1, g2, g3, m12_, m13_, m14_, m15_, ha, Q_bs, Q_z0, Q_s0, Q_z1, Q_s1, Q_z2, Q_s2, Q_z3, Q_s3, Q_d01, Q_d02, Q_d03, Q_d12, Q_d13, Q_d23, Q_X12_, Q_X13_, Q_X14_, Q_X15_⟩ hb_ hon hoff
      refine ⟨_, rfl, fun K hK => ?_⟩
      replace ha := Aside0.mk ha
      have bs := Aside0.mk Q_bs
      refine value_ (w1 := w'.alloc (.cells #[.int .u64 0, .int .u64 0] 52)) (v := .pointer (some ⟨w'.heap.size, 0, none⟩)) (by rfl) rfl ?_ ?_
      · go_simp
      have y_d01 := fun (h0_ : up b 12 12 = true) (h1_ : up b 12 13 = true) => (show w'.heap.size ≠ g1 from Nat.ne_of_gt (Q_z1 (by rw [up_ne (by decide)] at h1_; exact h1_) (hoff 17 (by kernel_rfl))).lt)
      have y_d02 := fun (h0_ : up b 12 12 = true) (h1_ : up b 12 14 = true) => (show w'.heap.size ≠ g2 from Nat.ne_of_gt (Q_z2 (by rw [up_ne (by decide)] at h1_; exact h1_) (hoff 18 (by kernel_rfl))).lt)
      have y_d03 := fun (h0_ : up b 12 12 = true) (h1_ : up b 12 15 = true) => (show w'.heap.size ≠ g3 from Nat.ne_of_gt (Q_z3 (by rw [up_ne (by decide)] at h1_; exact h1_) (hoff 19 (by kernel_rfl))).lt)
      refine hK.out _ _ ⟨w'.heap.size, g1, g2, g3, (.pointer (some ⟨w'.heap.size, 0, none⟩)), m13_, m14_, m15_, (by rw [ha.out]; exact putSel_upk 8 hb_ rfl rfl rfl), (bs.out.alloc bs.out.size _), fun _ _ => Zd.new bs.out.size, fun h0_ => absurd ((hoff 16 (by kernel_rfl)).symm.trans h0_) (by decide), fun h0_ h1_ => ((Q_z1 h0_ h1_).alloc _), fun h0_ => absurd ((hoff 17 (by kernel_rfl)).symm.trans h0_) (by decide), fun h0_ h1_ => ((Q_z2 h0_ h1_).alloc _), fun h0_ => absurd ((hoff 18 (by kernel_rfl)).symm.trans h0_) (by decide), fun h0_ h1_ => ((Q_z3 h0_ h1_).alloc _), fun h0_ => absurd ((hoff 19 (by kernel_rfl)).symm.trans h0_) (by decide), y_d01, y_d02, y_d03, Q_d12, Q_d13, Q_d23, fun _ => rfl, Q_X13_, Q_X14_, Q_X15_⟩
    refine steps_cons ?_ ?_
    · rintro b a w' ⟨g0, g1, g2, g3, m12_, m13_, m14_, m15_, ha, Q_bs, Q_z0, Q_s0, Q_z1, Q_s1, Q_z2, Q_s2, Q_z3, Q_s3, Q_d01, Q_d02, Q_d03, Q_d12, Q_d13, Q_d23, Q_X12_, Q_X13_, Q_X14_, Q_X15_⟩ hb_ hon hoff
      refine ⟨_, rfl, fun K hK => ?_⟩
      replace ha := Aside0.mk ha
      have bs := Aside0.mk Q_bs
      refine value_ (w1 := w'.alloc (.cells #[.int .u64 0, .int .u64 0] 52)) (v := .pointer (some ⟨w'.heap.size, 0, none⟩)) (by rfl) rfl ?_ ?_
      · go_simp
      have y_d01 := fun (h0_ : up b 13 12 = true) (h1_ : up b 13 13 = true) => (show g0 ≠ w'.heap.size from Nat.ne_of_lt (Q_z0 (by rw [up_ne (by decide)] at h0_; exact h0_) (hoff 16 (by kernel_rfl))).lt)
      have y_d12 := fun (h0_ : up b 13 13 = true) (h1_ : up b 13 14 = true) => (show w'.heap.size ≠ g2 from Nat.ne_of_gt (Q_z2 (by rw [up_ne (by decide)] at h1_; exact h1_) (hoff 18 (by kernel_rfl))).lt)
      have y_d13 := fun (h0_ : up b 13 13 = true) (h1_ : up b 13 15 = true) => (show w'.heap.size ≠ g3 from Nat.ne_of_gt (Q_z3 (by rw [up_ne (by decide)] at h1_; exact h1_) (hoff 19 (by kernel_rfl))).lt)
      refine hK.out _ _ ⟨g0, w'.heap.size, g2, g3, m12_, (.pointer (some ⟨w'.heap.size, 0, none⟩)), m14_, m15_, (by rw [ha.out]; exact putSel_upk 9 hb_ rfl rfl rfl), (bs.out.alloc bs.out.size _), fun h0_ h1_ => ((Q_z0 h0_ h1_).alloc _), fun h0_ => absurd ((hoff 16 (by kernel_rfl)).symm.trans h0_) (by decide), fun _ _ => Zd.new bs.out.size, fun h0_ => absurd ((hoff 17 (by kernel_rfl)).symm.trans h0_) (by decide), fun h0_ h1_ => ((Q_z2 h0_ h1_).alloc _), fun h0_ => absurd ((hoff 18 (by kernel_rfl)).symm.trans h0_) (by decide), fun h0_ h1_ => ((Q_z3 h0_ h1_).alloc _), fun h0_ => absurd ((hoff 19 (by kernel_rfl)).symm.trans h0_) (by decide), y_d01, Q_d02, Q_d03, y_d12, y_d13, Q_d23, Q_X12_, fun _ => rfl, Q_X14_, Q_X15_⟩
    refine steps_cons ?_ ?_
    · rintro b a w' ⟨g0, g1, g2, g3, m12_, m13_, m14_, m15_, ha, Q_bs, Q_z0, Q_s0, Q_z1, Q_s1, Q_z2, Q_s2, Q_z3, Q_s3, Q_d01, Q_d02, Q_d03, Q_d12, Q_d13, Q_d23, Q_X12_, Q_X13_, Q_X14_, Q_X15_⟩ hb_ hon hoff
      refine ⟨_, rfl, fun K hK => ?_⟩
      replace ha := Aside0.mk ha
      have bs := Aside0.mk Q_bs
      refine value_ (w1 := w'.alloc (.cells #[.int .u64 0, .int .u64 0] 52)) (v := .pointer (some ⟨w'.heap.size, 0, none⟩)) (by rfl) rfl ?_ ?_
      · go_simp
      have y_d02 := fun (h0_ : up b 14 12 = true) (h1_ : up b 14 14 = true) => (show g0 ≠ w'.heap.size from Nat.ne_of_lt (Q_z0 (by rw [up_ne (by decide)] at h0_; exact h0_) (hoff 16 (by kernel_rfl))).lt)
      have y_d12 := fun (h0_ : up b 14 13 = true) (h1_ : up b 14 14 = true) => (show g1 ≠ w'.heap.size from Nat.ne_of_lt (Q_z1 (by rw [up_ne (by decide)] at h0_; exact h0_) (hoff 17 (by kernel_rfl))).lt)
      have y_d23 := fun (h0_ : up b 14 14 = true) (h1_ : up b 14 15 = true) => (show w'.heap.size ≠ g3 from Nat.ne_of_gt (Q_z3 (by rw [up_ne (by decide)] at h1_; exact h1_) (hoff 19 (by kernel_rfl))).lt)
      refine hK.out _ _ ⟨g0, g1, w'.heap.size, g3, m12_, m13_, (.pointer (some ⟨w'.heap.size, 0, none⟩)), m15_, (by rw [ha.out]; exact putSel_upk 10 hb_ rfl rfl rfl), (bs.out.alloc bs.out.size _), fun h0_ h1_ => ((Q_z0 h0_ h1_).alloc _), fun h0_ => absurd ((hoff 16 (by kernel_rfl)).symm.trans h0_) (by decide), fun h0_ h1_ => ((Q_z1 h0_ h1_).alloc _), fun h0_ => absurd ((hoff 17 (by kernel_rfl)).symm.trans h0_) (by decide), fun _ _ => Zd.new bs.out.size, fun h0_ => absurd ((hoff 18 (by kernel_rfl)).symm.trans h0_) (by decide), fun h0_ h1_ => ((Q_z3 h0_ h1_).alloc _), fun h0_ => absurd ((hoff 19 (by kernel_rfl)).symm.trans h0_) (by decide), Q_d01, y_d02, Q_d03, y_d12, Q_d13, y_d23, Q_X12_, Q_X13_, fun _ => rfl, Q_X15_⟩
    refine steps_cons ?_ ?_
    · rintro b a w' ⟨g0, g1, g2, g3, m12_, m13_, m14_, m15_, ha, Q_bs, Q_z0, Q_s0, Q_z1, Q_s1, Q_z2, Q_s2, Q_z3, Q_s3, Q_d01, Q_d02, Q_d03, Q_d12, Q_d13, Q_d23, Q_X12_, Q_X13_, Q_X14_, Q_X15_⟩ hb_ hon hoff
      refine ⟨_, rfl, fun K hK => ?_⟩
      replace ha := Aside0.mk ha
      have bs := Aside0.mk Q_bs
      refine value_ (w1 := w'.alloc (.cells #[.int .u64 0, .int .u64 0] 52)) (v := .pointer (some ⟨w'.heap.size, 0, none⟩)) (by rfl) rfl ?_ ?_
      · go_simp
      have y_d03 := fun (h0_ : up b 15 12 = true) (h1_ : up b 15 15 = true) => (show g0 ≠ w'.heap.size from Nat.ne_of_lt (Q_z0 (by rw [up_ne (by decide)] at h0_; exact h0_) (hoff 16 (by kernel_rfl))).lt)
      have y_d13 := fun (h0_ : up b 15 13 = true) (h1_ : up b 15 15 = true) => (show g1 ≠ w'.heap.size from Nat.ne_of_lt (Q_z1 (by rw [up_ne (by decide)] at h0_; exact h0_) (hoff 17 (by kernel_rfl))).lt)
      have y_d23 := fun (h0_ : up b 15 14 = true) (h1_ : up b 15 15 = true) => (show g2 ≠ w'.heap.size from Nat.ne_of_lt (Q_z2 (by rw [up_ne (by decide)] at h0_; exact h0_) (hoff 18 (by kernel_rfl))).lt)
      refine hK.out _ _ ⟨g0, g1, g2, w'.heap.size, m12_, m13_, m14_, (.pointer (some ⟨w'.heap.size, 0, none⟩)), (by rw [ha.out]; exact putSel_upk 11 hb_ rfl rfl rfl), (bs.out.alloc bs.out.size _), fun h0_ h1_ => ((Q_z0 h0_ h1_).alloc _), fun h0_ => absurd ((hoff 16 (by kernel_rfl)).symm.trans h0_) (by decide), fun h0_ h1_ => ((Q_z1 h0_ h1_).alloc _), fun h0_ => absurd ((hoff 17 (by kernel_rfl)).symm.trans h0_) (by decide), fun h0_ h1_ => ((Q_z2 h0_ h1_).alloc _), fun h0_ => absurd ((hoff 18 (by kernel_rfl)).symm.trans h0_) (by decide), fun _ _ => Zd.new bs.out.size, fun h0_ => absurd ((hoff 19 (by kernel_rfl)).symm.trans h0_) (by decide), Q_d01, Q_d02, y_d03, Q_d12, y_d13, y_d23, Q_X12_, Q_X13_, Q_X14_, fun _ => rfl⟩
    refine steps_cons ?_ ?_
    · rintro b a w' ⟨g0, g1, g2, g3, m12_, m13_, m14_, m15_, ha, Q_bs, Q_z0, Q_s0, Q_z1, Q_s1, Q_z2, Q_s2, Q_z3, Q_s3, Q_d01, Q_d02, Q_d03, Q_d12, Q_d13, Q_d23, Q_X12_, Q_X13_, Q_X14_, Q_X15_⟩ hb_ hon hoff
      refine ⟨_, rfl, fun K hK => ?_⟩
      have e5 : a.tmps[5]? = some (m12_) := by rw [ha]; exact putSel_on (e := (12, 5, m12_)) 8 rfl rfl (hon 12 (by kernel_rfl)) rfl
      rw [Q_X12_ (hon 12 (by kernel_rfl))] at e5
      have e12 : a.tmps[12]? = some (two p) := by rw [ha]; exact putSel_on (e := (2, 12, two p)) 1 rfl rfl (hon 2 (by kernel_rfl)) rfl
      replace ha := Aside0.mk ha
      have bs := Aside0.mk Q_bs
      have z0 := Aside0.mk (Q_z0 (hon 12 (by kernel_rfl)) hb_)
      have z1 := Aside0.mk (Q_z1 (hon 13 (by kernel_rfl)) (hoff 17 (by kernel_rfl)))
      have z2 := Aside0.mk (Q_z2 (hon 14 (by kernel_rfl)) (hoff 18 (by kernel_rfl)))
      have z3 := Aside0.mk (Q_z3 (hon 15 (by kernel_rfl)) (hoff 19 (by kernel_rfl)))
      have d01 := Aside0.mk (Q_d01 (hon 12 (by kernel_rfl)) (hon 13 (by kernel_rfl)))
      have d02 := Aside0.mk (Q_d02 (hon 12 (by kernel_rfl)) (hon 14 (by kernel_rfl)))
      have d03 := Aside0.mk (Q_d03 (hon 12 (by kernel_rfl)) (hon 15 (by kernel_rfl)))
      have d12 := Aside0.mk (Q_d12 (hon 13 (by kernel_rfl)) (hon 14 (by kernel_rfl)))
      have d13 := Aside0.mk (Q_d13 (hon 13 (by kernel_rfl)) (hon 15 (by kernel_rfl)))
      have d23 := Aside0.mk (Q_d23 (hon 14 (by kernel_rfl)) (hon 15 (by kernel_rfl)))
      refine stores_ (x := p) (by rfl) rfl rfl e5 e12 z0.out ?_
      refine hK.out _ _ ⟨g0, g1, g2, g3, m12_, m13_, m14_, m15_, (by rw [ha.out]; exact putSel_none (v := undef) rfl), (below_setRow bs.out z0.out.1 _), fun _ h1_ => absurd ((up_self b 16).symm.trans h1_) (by decide), fun _ => z0.out.done, fun _ _ => (z1.out.other p (Ne.symm d01.out)), fun h0_ => absurd ((hoff 17 (by kernel_rfl)).symm.trans h0_) (by decide), fun _ _ => (z2.out.other p (Ne.symm d02.out)), fun h0_ => absurd ((hoff 18 (by kernel_rfl)).symm.trans h0_) (by decide), fun _ _ => (z3.out.other p (Ne.symm d03.out)), fun h0_ => absurd ((hoff 19 (by kernel_rfl)).symm.trans h0_) (by decide), Q_d01, Q_d02, Q_d03, Q_d12, Q_d13, Q_d23, Q_X12_, Q_X13_, Q_X14_, Q_X15_⟩
    refine steps_cons ?_ ?_
    · rintro b a w' ⟨g0, g1, g2, g3, m12_, m13_, m14_, m15_, ha, Q_bs, Q_z0, Q_s0, Q_z1, Q_s1, Q_z2, Q_s2, Q_z3, Q_s3, Q_d01, Q_d02, Q_d03, Q_d12, Q_d13, Q_d23, Q_X12_, Q_X13_, Q_X14_, Q_X15_⟩ hb_ hon hoff
      refine ⟨_, rfl, fun K hK => ?_⟩
      have e6 : a.tmps[6]? = some (m13_) := by rw [ha]; exact putSel_on (e := (13, 6, m13_)) 9 rfl rfl (hon 13 (by kernel_rfl)) rfl
      rw [Q_X13_ (hon 13 (by kernel_rfl))] at e6
      have e15 : a.tmps[15]? = some (two q) := by rw [ha]; exact putSel_on (e := (5, 15, two q)) 3 rfl rfl (hon 5 (by kernel_rfl)) rfl
      replace ha := Aside0.mk ha
      have bs := Aside0.mk Q_bs
      have s0 := Aside0.mk (Q_s0 (hon 16 (by kernel_rfl)))
      have z1 := Aside0.mk (Q_z1 (hon 13 (by kernel_rfl)) hb_)
      have z2 := Aside0.mk (Q_z2 (hon 14 (by kernel_rfl)) (hoff 18 (by kernel_rfl)))
      have z3 := Aside0.mk (Q_z3 (hon 15 (by kernel_rfl)) (hoff 19 (by kernel_rfl)))
      have d01 := Aside0.mk (Q_d01 (hon 12 (by kernel_rfl)) (hon 13 (by kernel_rfl)))
      have d02 := Aside0.mk (Q_d02 (hon 12 (by kernel_rfl)) (hon 14 (by kernel_rfl)))
      have d03 := Aside0.mk (Q_d03 (hon 12 (by kernel_rfl)) (hon 15 (by kernel_rfl)))
      have d12 := Aside0.mk (Q_d12 (hon 13 (by kernel_rfl)) (hon 14 (by kernel_rfl)))
      have d13 := Aside0.mk (Q_d13 (hon 13 (by kernel_rfl)) (hon 15 (by kernel_rfl)))
      have d23 := Aside0.mk (Q_d23 (hon 14 (by kernel_rfl)) (hon 15 (by kernel_rfl)))
      refine stores_ (x := q) (by rfl) rfl rfl e6 e15 z1.out ?_
      refine hK.out _ _ ⟨g0, g1, g2, g3, m12_, m13_, m14_, m15_, (by rw [ha.out]; exact putSel_none (v := undef) rfl), (below_setRow bs.out z1.out.1 _), fun _ h1_ => absurd ((hon 16 (by kernel_rfl)).symm.trans h1_) (by decide), fun _ => (s0.out.other q d01.out), fun _ h1_ => absurd ((up_self b 17).symm.trans h1_) (by decide), fun _ => z1.out.done, fun _ _ => (z2.out.other q (Ne.symm d12.out)), fun h0_ => absurd ((hoff 18 (by kernel_rfl)).symm.trans h0_) (by decide), fun _ _ => (z3.out.other q (Ne.symm d13.out)), fun h0_ => absurd ((hoff 19 (by kernel_rfl)).symm.trans h0_) (by decide), Q_d01, Q_d02, Q_d03, Q_d12, Q_d13, Q_d23, Q_X12_, Q_X13_, Q_X14_, Q_X15_⟩
    refine steps_cons ?_ ?_
    · rintro b a w' ⟨g0, g1, g2, g3, m12_, m13_, m14_, m15_, ha, Q_bs, Q_z0, Q_s0, Q_z1, Q_s1, Q_z2, Q_s2, Q_z3, Q_s3, Q_d01, Q_d02, Q_d03, Q_d12, Q_d13, Q_d23, Q_X12_, Q_X13_, Q_X14_, Q_X15_⟩ hb_ hon hoff
      refine ⟨_, rfl, fun K hK => ?_⟩
      have e7 : a.tmps[7]? = some (m14_) := by rw [ha]; exact putSel_on (e := (14, 7, m14_)) 10 rfl rfl (hon 14 (by kernel_rfl)) rfl
      rw [Q_X14_ (hon 14 (by kernel_rfl))] at e7
      have e18 : a.tmps[18]? = some (two r) := by rw [ha]; exact putSel_on (e := (8, 18, two r)) 5 rfl rfl (hon 8 (by kernel_rfl)) rfl
      replace ha := Aside0.mk ha
      have bs := Aside0.mk Q_bs
      have s0 := Aside0.mk (Q_s0 (hon 16 (by kernel_rfl)))
      have s1 := Aside0.mk (Q_s1 (hon 17 (by kernel_rfl)))
      have z2 := Aside0.mk (Q_z2 (hon 14 (by kernel_rfl)) hb_)
      have z3 := Aside0.mk (Q_z3 (hon 15 (by kernel_rfl)) (hoff 19 (by kernel_rfl)))
      have d01 := Aside0.mk (Q_d01 (hon 12 (by kernel_rfl)) (hon 13 (by kernel_rfl)))
      have d02 := Aside0.mk (Q_d02 (hon 12 (by kernel_rfl)) (hon 14 (by kernel_rfl)))
      have d03 := Aside0.mk (Q_d03 (hon 12 (by kernel_rfl)) (hon 15 (by kernel_rfl)))
      have d12 := Aside0.mk (Q_d12 (hon 13 (by kernel_rfl)) (hon 14 (by kernel_rfl)))
      have d13 := Aside0.mk (Q_d13 (hon 13 (by kernel_rfl)) (hon 15 (by kernel_rfl)))
      have d23 := Aside0.mk (Q_d23 (hon 14 (by kernel_rfl)) (hon 15 (by kernel_rfl)))
      refine stores_ (x := r) (by rfl) rfl rfl e7 e18 z2.out ?_
      refine hK.out _ _ ⟨g0, g1, g2, g3, m12_, m13_, m14_, m15_, (by rw [ha.out]; exact putSel_none (v := undef) rfl), (below_setRow bs.out z2.out.1 _), fun _ h1_ => absurd ((hon 16 (by kernel_rfl)).symm.trans h1_) (by decide), fun _ => (s0.out.other r d02.out), fun _ h1_ => absurd ((hon 17 (by kernel_rfl)).symm.trans h1_) (by decide), fun _ => (s1.out.other r d12.out), fun _ h1_ => absurd ((up_self b 18).symm.trans h1_) (by decide), fun _ => z2.out.done, fun _ _ => (z3.out.other r (Ne.symm d23.out)), fun h0_ => absurd ((hoff 19 (by kernel_rfl)).symm.trans h0_) (by decide), Q_d01, Q_d02, Q_d03, Q_d12, Q_d13, Q_d23, Q_X12_, Q_X13_, Q_X14_, Q_X15_⟩
    refine steps_cons ?_ ?_
    · rintro b a w' ⟨g0, g1, g2, g3, m12_, m13_, m14_, m15_, ha, Q_bs, Q_z0, Q_s0, Q_z1, Q_s1, Q_z2, Q_s2, Q_z3, Q_s3, Q_d01, Q_d02, Q_d03, Q_d12, Q_d13, Q_d23, Q_X12_, Q_X13_, Q_X14_, Q_X15_⟩ hb_ hon hoff
      refine ⟨_, rfl, fun K hK => ?_⟩
      have e8 : a.tmps[8]? = some (m15_) := by rw [ha]; exact putSel_on (e := (15, 8, m15_)) 11 rfl rfl (hon 15 (by kernel_rfl)) rfl
      rw [Q_X15_ (hon 15 (by kernel_rfl))] at e8
      have e21 : a.tmps[21]? = some (two s) := by rw [ha]; exact putSel_on (e := (11, 21, two s)) 7 rfl rfl (hon 11 (by kernel_rfl)) rfl
      replace ha := Aside0.mk ha
      have bs := Aside0.mk Q_bs
      have s0 := Aside0.mk (Q_s0 (hon 16 (by kernel_rfl)))
      have s1 := Aside0.mk (Q_s1 (hon 17 (by kernel_rfl)))
      have s2 := Aside0.mk (Q_s2 (hon 18 (by kernel_rfl)))
      have z3 := Aside0.mk (Q_z3 (hon 15 (by kernel_rfl)) hb_)
      have d01 := Aside0.mk (Q_d01 (hon 12 (by kernel_rfl)) (hon 13 (by kernel_rfl)))
      have d02 := Aside0.mk (Q_d02 (hon 12 (by kernel_rfl)) (hon 14 (by kernel_rfl)))
      have d03 := Aside0.mk (Q_d03 (hon 12 (by kernel_rfl)) (hon 15 (by kernel_rfl)))
      have d12 := Aside0.mk (Q_d12 (hon 13 (by kernel_rfl)) (hon 14 (by kernel_rfl)))
      have d13 := Aside0.mk (Q_d13 (hon 13 (by kernel_rfl)) (hon 15 (by kernel_rfl)))
      have d23 := Aside0.mk (Q_d23 (hon 14 (by kernel_rfl)) (hon 15 (by kernel_rfl)))
      refine stores_ (x := s) (by rfl) rfl rfl e8 e21 z3.out ?_
      refine hK.out _ _ ⟨g0, g1, g2, g3, m12_, m13_, m14_, m15_, (by rw [ha.out]; exact putSel_none (v := undef) rfl), (below_setRow bs.out z3.out.1 _), fun _ h1_ => absurd ((hon 16 (by kernel_rfl)).symm.trans h1_) (by decide), fun _ => (s0.out.other s d03.out), fun _ h1_ => absurd ((hon 17 (by kernel_rfl)).symm.trans h1_) (by decide), fun _ => (s1.out.other s d13.out), fun _ h1_ => absurd ((hon 18 (by kernel_rfl)).symm.trans h1_) (by decide), fun _ => (s2.out.other s d23.out), fun _ h1_ => absurd ((up_self b 19).symm.trans h1_) (by decide), fun _ => z3.out.done, Q_d01, Q_d02, Q_d03, Q_d12, Q_d13, Q_d23, Q_X12_, Q_X13_, Q_X14_, Q_X15_⟩
    exact steps_nil
  · rintro b a w' hall ⟨g0, g1, g2, g3, m12_, m13_, m14_, m15_, ha, Q_bs, Q_z0, Q_s0, Q_z1, Q_s1, Q_z2, Q_s2, Q_z3, Q_s3, Q_d01, Q_d02, Q_d03, Q_d12, Q_d13, Q_d23, Q_X12_, Q_X13_, Q_X14_, Q_X15_⟩
    clear bs
    have hb1_ := hall 1 (by kernel_rfl)
    have hb2_ := hall 2 (by kernel_rfl)
    have hb4_ := hall 4 (by kernel_rfl)
    have hb5_ := hall 5 (by kernel_rfl)
    have hb7_ := hall 7 (by kernel_rfl)
    have hb8_ := hall 8 (by kernel_rfl)
    have hb10_ := hall 10 (by kernel_rfl)
    have hb11_ := hall 11 (by kernel_rfl)
    have hb12_ := hall 12 (by kernel_rfl)
    have hb13_ := hall 13 (by kernel_rfl)
    have hb14_ := hall 14 (by kernel_rfl)
    have hb15_ := hall 15 (by kernel_rfl)
    have hb16_ := hall 16 (by kernel_rfl)
    have hb17_ := hall 17 (by kernel_rfl)
    have hb18_ := hall 18 (by kernel_rfl)
    have hb19_ := hall 19 (by kernel_rfl)
    subst ha
    obtain rfl := Q_X12_ hb12_
    obtain rfl := Q_X13_ hb13_
    obtain rfl := Q_X14_ hb14_
    obtain rfl := Q_X15_ hb15_
    simp only [putSel, hb1_, hb2_, hb4_, hb5_, hb7_, hb8_, hb10_, hb11_, hb12_, hb13_, hb14_, hb15_, hb16_, hb17_, hb18_, hb19_, if_true, Act.put, List.setIfInBounds_toArray, List.set_cons_zero, List.set_cons_succ]
    have bs := Aside0.mk Q_bs
    clear Q_bs
    clear Q_z0
    have s0 := Aside0.mk (Q_s0 hb16_)
    clear Q_s0
    clear Q_z1
    have s1 := Aside0.mk (Q_s1 hb17_)
    clear Q_s1
    clear Q_z2
    have s2 := Aside0.mk (Q_s2 hb18_)
    clear Q_s2
    clear Q_z3
    have s3 := Aside0.mk (Q_s3 hb19_)
    clear Q_s3
    have d01 := Aside0.mk (Q_d01 hb12_ hb13_)
    clear Q_d01
    have d02 := Aside0.mk (Q_d02 hb12_ hb14_)
    clear Q_d02
    have d03 := Aside0.mk (Q_d03 hb12_ hb15_)
    clear Q_d03
    have d12 := Aside0.mk (Q_d12 hb13_ hb14_)
    clear Q_d12
    have d13 := Aside0.mk (Q_d13 hb13_ hb15_)
    clear Q_d13
    have d23 := Aside0.mk (Q_d23 hb14_ hb15_)
    clear Q_d23
    clear hall hb1_ hb2_ hb4_ hb5_ hb7_ hb8_ hb10_ hb11_ hb12_ hb13_ hb14_ hb15_ hb16_ hb17_ hb18_ hb19_
    clear HT_ HW_ Q_X12_ Q_X13_ Q_X14_ Q_X15_ C0 C1 C2 C3
    have hw0 := HW0.out
    have hB0 : Below w.heap.size w w0 := by rw [← hw0]; exact ⟨rfl, rfl, rfl, by simp; omega, (((Below.refl _ w).alloc (Nat.le_refl _) _).alloc (by simp) _).block⟩
    have hZ0 : Lies w0 (w.heap.size + 1) 30 ⟨0, 0, 0, 0⟩ := by rw [← hw0]; have := heap_new (w.alloc (.cells #[.int .u64 (p : Int), .int .u64 (q : Int), .int .u64 (r : Int), .int .u64 (s : Int)] 30)) (.cells #[.int .u64 0, .int .u64 0, .int .u64 0, .int .u64 0] 30); rw [World.size_alloc] at this; exact this
    have hs0 : w.heap.size + 1 < w0.heap.size := hZ0.lt
    have HST : Hid (Fours w w0 w' g0 g1 g2 g3 (itN 0 ⟨p, q, r, s⟩)) := ⟨s0.out, s1.out, s2.out, s3.out, hB0.trans (bs.out.mono hB0.size), hZ0.below bs.out hs0⟩
    have HI := Lib.hid (itN_ok _ HOK.out)
    have HD : Hid (g0 ≠ g1 ∧ g0 ≠ g2 ∧ g0 ≠ g3 ∧ g1 ≠ g2 ∧ g1 ≠ g3 ∧ g2 ≠ g3) := ⟨d01.out, d02.out, d03.out, d12.out, d13.out, d23.out⟩
    have HS0 := Lib.hid hs0
    clear hw0 HW0 hB0 hZ0 s0 s1 s2 s3 bs d01 d02 d03 d12 d13 d23 HB0 HB1 HB2 HB3 HBN hs0 HOK
    go_wp2_with fail
    go_loopw [9] (fun v wr => ∃ j : Nat, j ≤ n ∧ v = .int .i64 j ∧ Fours w w0 wr g0 g1 g2 g3 (itN j ⟨p, q, r, s⟩)) (fun v _ => n - (intOf v).toNat)
    case atStart => exact ⟨0, by omega, rfl, HST.out⟩
    case round =>
      obtain ⟨j, hj, rfl, hf⟩ := hrel
      have HNX : Hid (itN (j + 1) ⟨p, q, r, s⟩ = roundN (itN j ⟨p, q, r, s⟩)) := rfl
      have hok := HI.out j
      obtain ⟨u1, v1, t1⟩ := T.ex hok.1
      obtain ⟨u2, v2, t2⟩ := T.ex hok.2.1
      obtain ⟨u3, v3, t3⟩ := T.ex hok.2.2.1
      obtain ⟨u4, v4, t4⟩ := T.ex hok.2.2.2
      have P1 := hf.p.pr t1
      have P2 := hf.q.pr t2
      have P3 := hf.r.pr t3
      have P4 := hf.s.pr t4
      obtain ⟨c1, c2⟩ := P1.cells
      obtain ⟨c3, c4⟩ := P2.cells
      obtain ⟨c5, c6⟩ := P3.cells
      obtain ⟨c7, c8⟩ := P4.cells
      have HF := Lib.hid hf
      by_cases hlt : j < n
      · have HR := Lib.hid (fun w => refRound_any _ w u1 v1 u2 v2 u3 v3 u4 v4 t1 t2 t3 t4)
        have HOKZ := Lib.hid (roundN_ok _ hok)
        have T1 := Lib.hid t1
        have T2 := Lib.hid t2
        have T3 := Lib.hid t3
        have T4 := Lib.hid t4
        clear hf hok P1 P2 P3 P4 t1 t2 t3 t4
        generalize itN j ⟨p, q, r, s⟩ = y at *
        generalize roundN y = z at *
        go_wp2_with fail
        refine (HR.out _).mono ?_
        rintro e w2 ⟨rfl, hb2⟩
        have hf2 := HF.out.below hb2
        have HF2 := Lib.hid hf2
        have HF6 := Lib.hid (hf2.step HD.out HS0.out z)
        clear hf2 hb2 c1 c2 c3 c4 c5 c6 c7 c8 HF6
        have hokz := HOKZ.out
        obtain ⟨a1, b1, q1⟩ := T.ex hokz.1
        obtain ⟨a2, b2, q2⟩ := T.ex hokz.2.1
        obtain ⟨a3, b3, q3⟩ := T.ex hokz.2.2.1
        obtain ⟨a4, b4, q4⟩ := T.ex hokz.2.2.2
        rw [q1.two, q2.two, q3.two, q4.two]
        obtain ⟨⟨c1, c2⟩, ⟨c3, c4⟩, ⟨c5, c6⟩, c7, c8⟩ := HF2.out.cells T1.out T2.out T3.out T4.out
        have f1 := frozen_of_row _ _ 0 _ _ HF2.out.p.2
        have f2 := frozen_of_row _ _ 1 _ _ HF2.out.p.2
        have f3 := frozen_of_row _ _ 0 _ _ HF2.out.q.2
        have f4 := frozen_of_row _ _ 1 _ _ HF2.out.q.2
        have f5 := frozen_of_row _ _ 0 _ _ HF2.out.r.2
        have f6 := frozen_of_row _ _ 1 _ _ HF2.out.r.2
        have f7 := frozen_of_row _ _ 0 _ _ HF2.out.s.2
        have f8 := frozen_of_row _ _ 1 _ _ HF2.out.s.2
        obtain ⟨d1, d2, d3, d4, d5, d6⟩ := HD.out
        have n1 := Ne.symm d1
        have n2 := Ne.symm d2
        have n3 := Ne.symm d3
        have n4 := Ne.symm d4
        have n5 := Ne.symm d5
        have n6 := Ne.symm d6
        have HFZ := Lib.hid (HF2.out.step4 HD.out HS0.out q1 q2 q3 q4 T1.out T2.out T3.out T4.out)
        clear q1 q2 q3 q4 hokz
        go_wp2_with fail
        go_roundw
        case rel => exact ⟨j + 1, by omega, by go_num, by rw [HNX.out]; exact HFZ.out⟩
        case measure => simp [intOf]; omega
      · obtain rfl : j = n := by omega
        have T1 := Lib.hid t1
        have T2 := Lib.hid t2
        have T3 := Lib.hid t3
        have T4 := Lib.hid t4
        clear hf hok P1 P2 P3 P4 t1 t2 t3 t4 HI HST HNX
        generalize hy : itN j ⟨p, q, r, s⟩ = y at *
        have HY := Lib.hid hy
        clear hy
        have k0 : ¬ (g0 = w.heap.size + 1) := by have := HF.out.p.1; have := HS0.out; omega
        have k1 : ¬ (g1 = w.heap.size + 1) := by have := HF.out.q.1; have := HS0.out; omega
        have k2 : ¬ (g2 = w.heap.size + 1) := by have := HF.out.r.1; have := HS0.out; omega
        have k3 : ¬ (g3 = w.heap.size + 1) := by have := HF.out.s.1; have := HS0.out; omega
        have l0 := Ne.symm k0
        have l1 := Ne.symm k1
        have l2 := Ne.symm k2
        have l3 := Ne.symm k3
        go_wp2_with fail
        go_region_held3 (fun w' => (w'.cell? ⟨g0, 0, none⟩ = some (.int .u64 u1) ∧ w'.cell? ⟨g0, 1, none⟩ = some (.int .u64 v1)) ∧ (w'.cell? ⟨g1, 0, none⟩ = some (.int .u64 u2) ∧ w'.cell? ⟨g1, 1, none⟩ = some (.int .u64 v2)) ∧
            (w'.cell? ⟨g2, 0, none⟩ = some (.int .u64 u3) ∧ w'.cell? ⟨g2, 1, none⟩ = some (.int .u64 v3)) ∧ w'.cell? ⟨g3, 0, none⟩ = some (.int .u64 u4) ∧ w'.cell? ⟨g3, 1, none⟩ = some (.int .u64 v4))
          (first | with_reducible exact HF.out.cells T1.out T2.out T3.out T4.out | with_reducible exact HG1.out.cells T1.out T2.out T3.out T4.out | with_reducible exact HG2.out.cells T1.out T2.out T3.out T4.out | with_reducible exact HG3.out.cells T1.out T2.out T3.out T4.out | with_reducible exact HG4.out.cells T1.out T2.out T3.out T4.out | go_keep)
          (first
            | (go_at_call 25; (with_reducible refine (wholeT T1.out _).mono ?_); rintro e wa ⟨rfl, hb⟩; have HG1 : Hid (Fours w w0 wa g0 g1 g2 g3 y) := (HF.out.drew.below hb); clear hb)
            | (go_at_call 25; (with_reducible refine (wholeT T2.out _).mono ?_); rintro e wb ⟨rfl, hb⟩; have HG2 : Hid (Fours w w0 wb g0 g1 g2 g3 y) := (HG1.out.below hb); clear hb)
            | (go_at_call 25; (with_reducible refine (wholeT T3.out _).mono ?_); rintro e wc ⟨rfl, hb⟩; have HG3 : Hid (Fours w w0 wc g0 g1 g2 g3 y) := (HG2.out.below hb); clear hb)
            | (go_at_call 25; (with_reducible refine (wholeT T4.out _).mono ?_); rintro e wd ⟨rfl, hb⟩; have HG4 : Hid (Fours w w0 wd g0 g1 g2 g3 y) := (HG3.out.below hb); clear hb; obtain ⟨z0, z1, z2, z3⟩ := HG4.out.res.cells; have f0 := frozen_of_row _ _ 0 _ _ HG4.out.res; have f1 := frozen_of_row _ _ 1 _ _ HG4.out.res; have f2 := frozen_of_row _ _ 2 _ _ HG4.out.res; have f3 := frozen_of_row _ _ 3 _ _ HG4.out.res))

        have hfin := set4 (a := .int .u64 (y.p : Int)) (c := .int .u64 (y.q : Int)) (d := .int .u64 (y.r : Int)) (e := .int .u64 (y.s : Int)) HG4.out.res
        have hB := HG4.out.bel
        go_wp2_with fail
        refine bodyPost_ret (results_cell_row rfl _ _ (w.heap.size + 1) 30 _ (0, 0) _ (by rfl) hfin Tryd.underlying30 rfl info30) rfl ⟨by rw [HY.out], (((hB.setCell (p := ⟨w.heap.size + 1, 0, none⟩) (by simp) _).setCell (p := ⟨w.heap.size + 1, 1, none⟩) (by simp) _).setCell (p := ⟨w.heap.size + 1, 2, none⟩) (by simp) _).setCell (p := ⟨w.heap.size + 1, 3, none⟩) (by simp) _⟩

end Go.Proofs.YtocideolihbnaaaDoor
