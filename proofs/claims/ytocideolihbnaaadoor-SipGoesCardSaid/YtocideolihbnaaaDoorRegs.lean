/- The contract of the reference's Round: the same four numbers as the round's. -/
import Derived.Test.YtocideolihbnaaaDoorTwo
set_option linter.unusedVariables false
set_option linter.unusedSimpArgs false
namespace Go.Proofs.YtocideolihbnaaaDoor
open Go.RowKit

/-- u and v are the halves of a number of 64 bits. -/
def T (x : Nat) (u v : Int) : Prop := x < 18446744073709551616 ∧ u = ((x / 4294967296 : Nat) : Int) ∧ v = ((x % 4294967296 : Nat) : Int)
def Post2 (w : World) (z : Nat) (e : Ending) (w' : World) : Prop := ∃ u v : Int, T z u v ∧ e = .returned (.agg #[.int .u64 u, .int .u64 v]) ∧ Below w.heap.size w w'
theorem T.two {x : Nat} {u v : Int} (h : T x u v) : two x = .agg #[.int .u64 u, .int .u64 v] := by rw [h.2.1, h.2.2]; rfl
theorem post2 {w w' : World} {z : Nat} {e : Ending} (hz : z < 18446744073709551616) (h : e = .returned (two z) ∧ Below w.heap.size w w') : Post2 w z e w' := ⟨_, _, ⟨hz, rfl, rfl⟩, h.1, h.2⟩

theorem plusT {x y : Nat} {u1 v1 u2 v2 : Int} (h1 : T x u1 v1) (h2 : T y u2 v2) (w : World) : Calls Tryd.prog 28 #[.agg #[.int .u64 u1, .int .u64 v1], .agg #[.int .u64 u2, .int .u64 v2]] w (Post2 w (addN x y)) := by
  rw [← h1.two, ← h2.two]; exact (plus_any x y w h1.1 h2.1).mono fun _ _ h => post2 (addN_lt _ _) h
theorem xorT {x y : Nat} {u1 v1 u2 v2 : Int} (h1 : T x u1 v1) (h2 : T y u2 v2) (w : World) : Calls Tryd.prog 29 #[.agg #[.int .u64 u1, .int .u64 v1], .agg #[.int .u64 u2, .int .u64 v2]] w (Post2 w (x ^^^ y)) := by
  rw [← h1.two, ← h2.two]; exact (xor_any x y w h1.1 h2.1).mono fun _ _ h => post2 (xorN_lt h1.1 h2.1) h
theorem swapT {x : Nat} {u1 v1 : Int} (h1 : T x u1 v1) (w : World) : Calls Tryd.prog 31 #[.agg #[.int .u64 u1, .int .u64 v1]] w (Post2 w (rotN x 32)) := by
  rw [← h1.two]; exact (swap_any x w h1.1).mono fun _ _ h => post2 (rotN_lt _ _ h1.1) h
theorem turnT {x : Nat} {u1 v1 : Int} (k : Nat) (hk : k = 13 ∨ k = 16 ∨ k = 21 ∨ k = 17) (h1 : T x u1 v1) (w : World) : Calls Tryd.prog 30 #[.agg #[.int .u64 u1, .int .u64 v1], .int .u64 (k : Int)] w (Post2 w (rotN x k)) := by
  rw [← h1.two]; exact (turnR_any x k w h1.1 hk).mono fun _ _ h => post2 (rotN_lt _ _ h1.1) h

/-- Two halves lie in a block. -/
def Pr (W : World) (b : Nat) (u v : Int) : Prop := W.heap[b]? = some (.cells #[.int .u64 u, .int .u64 v] 52 (0, 0))
theorem Pr.below {W W' : World} {b n : Nat} {u v : Int} (h : Pr W b u v) (hb : Below n W W') (hn : b < n) : Pr W' b u v := (hb.block b hn).trans h
theorem Pr.lt {W : World} {b : Nat} {u v : Int} (h : Pr W b u v) : b < W.heap.size := (Array.getElem?_eq_some_iff.1 h).1
theorem Pr.set {W : World} {b : Nat} {u v : Int} (x y : Int) (h : Pr W b u v) : Pr (W.setRow b #[.int .u64 x, .int .u64 y]) b x y := setRow_heap W b _ _ 52 _ h
theorem Pr.other {W : World} {b c : Nat} {u v : Int} (x y : Int) (h : Pr W b u v) (hne : b ≠ c) : Pr (W.setRow c #[.int .u64 x, .int .u64 y]) b u v := (setRow_other W c b _ hne).trans h
theorem Pr.cells {W : World} {b : Nat} {u v : Int} (h : Pr W b u v) : W.cell? ⟨b, 0, none⟩ = some (.int .u64 u) ∧ W.cell? ⟨b, 1, none⟩ = some (.int .u64 v) :=
  ⟨cell_of_row W b 0 _ _ _ h, cell_of_row W b 1 _ _ _ h⟩

/-- The four variables and the four results, one behind the other. -/
structure Regs (w : World) (B : Nat) (W : World) (p1 p2 q1 q2 r1 r2 s1 s2 a1 a2 b1 b2 c1 c2 d1 d2 : Int) : Prop where
  p : Pr W (B) p1 p2
  q : Pr W (B + 1) q1 q2
  r : Pr W (B + 1 + 1) r1 r2
  s : Pr W (B + 1 + 1 + 1) s1 s2
  a : Pr W (B + 1 + 1 + 1 + 1) a1 a2
  b : Pr W (B + 1 + 1 + 1 + 1 + 1) b1 b2
  c : Pr W (B + 1 + 1 + 1 + 1 + 1 + 1) c1 c2
  d : Pr W (B + 1 + 1 + 1 + 1 + 1 + 1 + 1) d1 d2
  bel : Below B w W
variable {w W W' : World} {B : Nat} {p1 p2 q1 q2 r1 r2 s1 s2 a1 a2 b1 b2 c1 c2 d1 d2 : Int}
theorem Regs.le (h : Regs w B W p1 p2 q1 q2 r1 r2 s1 s2 a1 a2 b1 b2 c1 c2 d1 d2) : B ≤ W.heap.size := by have := h.p.lt; omega
theorem Regs.below (h : Regs w B W p1 p2 q1 q2 r1 r2 s1 s2 a1 a2 b1 b2 c1 c2 d1 d2) (hb : Below W.heap.size W W') : Regs w B W' p1 p2 q1 q2 r1 r2 s1 s2 a1 a2 b1 b2 c1 c2 d1 d2 :=
  ⟨h.p.below hb h.p.lt, h.q.below hb h.q.lt, h.r.below hb h.r.lt, h.s.below hb h.s.lt, h.a.below hb h.a.lt, h.b.below hb h.b.lt, h.c.below hb h.c.lt, h.d.below hb h.d.lt, h.bel.trans (hb.mono h.le)⟩
theorem Regs.draw (n : Nat) (h : Regs w B W p1 p2 q1 q2 r1 r2 s1 s2 a1 a2 b1 b2 c1 c2 d1 d2) : Regs w B (W.drewN n) p1 p2 q1 q2 r1 r2 s1 s2 a1 a2 b1 b2 c1 c2 d1 d2 :=
  ⟨h.p, h.q, h.r, h.s, h.a, h.b, h.c, h.d, below_drewN h.bel n⟩
theorem Regs.drew (h : Regs w B W p1 p2 q1 q2 r1 r2 s1 s2 a1 a2 b1 b2 c1 c2 d1 d2) : Regs w B W.drew p1 p2 q1 q2 r1 r2 s1 s2 a1 a2 b1 b2 c1 c2 d1 d2 :=
  ⟨h.p, h.q, h.r, h.s, h.a, h.b, h.c, h.d, ⟨h.bel.os, h.bel.tape, h.bel.output, h.bel.size, h.bel.block⟩⟩
theorem Regs.set_p (x y : Int) (h : Regs w B W p1 p2 q1 q2 r1 r2 s1 s2 a1 a2 b1 b2 c1 c2 d1 d2) : Regs w B (W.setRow (B) #[.int .u64 x, .int .u64 y]) x y q1 q2 r1 r2 s1 s2 a1 a2 b1 b2 c1 c2 d1 d2 :=
  ⟨h.p.set x y, h.q.other x y (by omega), h.r.other x y (by omega), h.s.other x y (by omega), h.a.other x y (by omega), h.b.other x y (by omega), h.c.other x y (by omega), h.d.other x y (by omega), below_setRow h.bel (by omega) _⟩
theorem Regs.set_q (x y : Int) (h : Regs w B W p1 p2 q1 q2 r1 r2 s1 s2 a1 a2 b1 b2 c1 c2 d1 d2) : Regs w B (W.setRow (B + 1) #[.int .u64 x, .int .u64 y]) p1 p2 x y r1 r2 s1 s2 a1 a2 b1 b2 c1 c2 d1 d2 :=
  ⟨h.p.other x y (by omega), h.q.set x y, h.r.other x y (by omega), h.s.other x y (by omega), h.a.other x y (by omega), h.b.other x y (by omega), h.c.other x y (by omega), h.d.other x y (by omega), below_setRow h.bel (by omega) _⟩
theorem Regs.set_r (x y : Int) (h : Regs w B W p1 p2 q1 q2 r1 r2 s1 s2 a1 a2 b1 b2 c1 c2 d1 d2) : Regs w B (W.setRow (B + 1 + 1) #[.int .u64 x, .int .u64 y]) p1 p2 q1 q2 x y s1 s2 a1 a2 b1 b2 c1 c2 d1 d2 :=
  ⟨h.p.other x y (by omega), h.q.other x y (by omega), h.r.set x y, h.s.other x y (by omega), h.a.other x y (by omega), h.b.other x y (by omega), h.c.other x y (by omega), h.d.other x y (by omega), below_setRow h.bel (by omega) _⟩
theorem Regs.set_s (x y : Int) (h : Regs w B W p1 p2 q1 q2 r1 r2 s1 s2 a1 a2 b1 b2 c1 c2 d1 d2) : Regs w B (W.setRow (B + 1 + 1 + 1) #[.int .u64 x, .int .u64 y]) p1 p2 q1 q2 r1 r2 x y a1 a2 b1 b2 c1 c2 d1 d2 :=
  ⟨h.p.other x y (by omega), h.q.other x y (by omega), h.r.other x y (by omega), h.s.set x y, h.a.other x y (by omega), h.b.other x y (by omega), h.c.other x y (by omega), h.d.other x y (by omega), below_setRow h.bel (by omega) _⟩
theorem Regs.set_a (x y : Int) (h : Regs w B W p1 p2 q1 q2 r1 r2 s1 s2 a1 a2 b1 b2 c1 c2 d1 d2) : Regs w B (W.setRow (B + 1 + 1 + 1 + 1) #[.int .u64 x, .int .u64 y]) p1 p2 q1 q2 r1 r2 s1 s2 x y b1 b2 c1 c2 d1 d2 :=
  ⟨h.p.other x y (by omega), h.q.other x y (by omega), h.r.other x y (by omega), h.s.other x y (by omega), h.a.set x y, h.b.other x y (by omega), h.c.other x y (by omega), h.d.other x y (by omega), below_setRow h.bel (by omega) _⟩
theorem Regs.set_b (x y : Int) (h : Regs w B W p1 p2 q1 q2 r1 r2 s1 s2 a1 a2 b1 b2 c1 c2 d1 d2) : Regs w B (W.setRow (B + 1 + 1 + 1 + 1 + 1) #[.int .u64 x, .int .u64 y]) p1 p2 q1 q2 r1 r2 s1 s2 a1 a2 x y c1 c2 d1 d2 :=
  ⟨h.p.other x y (by omega), h.q.other x y (by omega), h.r.other x y (by omega), h.s.other x y (by omega), h.a.other x y (by omega), h.b.set x y, h.c.other x y (by omega), h.d.other x y (by omega), below_setRow h.bel (by omega) _⟩
theorem Regs.set_c (x y : Int) (h : Regs w B W p1 p2 q1 q2 r1 r2 s1 s2 a1 a2 b1 b2 c1 c2 d1 d2) : Regs w B (W.setRow (B + 1 + 1 + 1 + 1 + 1 + 1) #[.int .u64 x, .int .u64 y]) p1 p2 q1 q2 r1 r2 s1 s2 a1 a2 b1 b2 x y d1 d2 :=
  ⟨h.p.other x y (by omega), h.q.other x y (by omega), h.r.other x y (by omega), h.s.other x y (by omega), h.a.other x y (by omega), h.b.other x y (by omega), h.c.set x y, h.d.other x y (by omega), below_setRow h.bel (by omega) _⟩
theorem Regs.set_d (x y : Int) (h : Regs w B W p1 p2 q1 q2 r1 r2 s1 s2 a1 a2 b1 b2 c1 c2 d1 d2) : Regs w B (W.setRow (B + 1 + 1 + 1 + 1 + 1 + 1 + 1) #[.int .u64 x, .int .u64 y]) p1 p2 q1 q2 r1 r2 s1 s2 a1 a2 b1 b2 c1 c2 x y :=
  ⟨h.p.other x y (by omega), h.q.other x y (by omega), h.r.other x y (by omega), h.s.other x y (by omega), h.a.other x y (by omega), h.b.other x y (by omega), h.c.other x y (by omega), h.d.set x y, below_setRow h.bel (by omega) _⟩
theorem regs_start (w : World) (p1 p2 q1 q2 r1 r2 s1 s2 : Int) : Regs w w.heap.size ((((((((w.alloc (.cells #[.int .u64 p1, .int .u64 p2] 52)).alloc (.cells #[.int .u64 q1, .int .u64 q2] 52)).alloc (.cells #[.int .u64 r1, .int .u64 r2] 52)).alloc (.cells #[.int .u64 s1, .int .u64 s2] 52)).alloc (.cells #[.int .u64 0, .int .u64 0] 52)).alloc (.cells #[.int .u64 0, .int .u64 0] 52)).alloc (.cells #[.int .u64 0, .int .u64 0] 52)).alloc (.cells #[.int .u64 0, .int .u64 0] 52)) p1 p2 q1 q2 r1 r2 s1 s2 0 0 0 0 0 0 0 0 := by
  have h0 := heap_new w (.cells #[.int .u64 p1, .int .u64 p2] 52)
  have h1 := heap_new (w.alloc (.cells #[.int .u64 p1, .int .u64 p2] 52)) (.cells #[.int .u64 q1, .int .u64 q2] 52)
  have h2 := heap_new ((w.alloc (.cells #[.int .u64 p1, .int .u64 p2] 52)).alloc (.cells #[.int .u64 q1, .int .u64 q2] 52)) (.cells #[.int .u64 r1, .int .u64 r2] 52)
  have h3 := heap_new (((w.alloc (.cells #[.int .u64 p1, .int .u64 p2] 52)).alloc (.cells #[.int .u64 q1, .int .u64 q2] 52)).alloc (.cells #[.int .u64 r1, .int .u64 r2] 52)) (.cells #[.int .u64 s1, .int .u64 s2] 52)
  have h4 := heap_new ((((w.alloc (.cells #[.int .u64 p1, .int .u64 p2] 52)).alloc (.cells #[.int .u64 q1, .int .u64 q2] 52)).alloc (.cells #[.int .u64 r1, .int .u64 r2] 52)).alloc (.cells #[.int .u64 s1, .int .u64 s2] 52)) (.cells #[.int .u64 0, .int .u64 0] 52)
  have h5 := heap_new (((((w.alloc (.cells #[.int .u64 p1, .int .u64 p2] 52)).alloc (.cells #[.int .u64 q1, .int .u64 q2] 52)).alloc (.cells #[.int .u64 r1, .int .u64 r2] 52)).alloc (.cells #[.int .u64 s1, .int .u64 s2] 52)).alloc (.cells #[.int .u64 0, .int .u64 0] 52)) (.cells #[.int .u64 0, .int .u64 0] 52)
  have h6 := heap_new ((((((w.alloc (.cells #[.int .u64 p1, .int .u64 p2] 52)).alloc (.cells #[.int .u64 q1, .int .u64 q2] 52)).alloc (.cells #[.int .u64 r1, .int .u64 r2] 52)).alloc (.cells #[.int .u64 s1, .int .u64 s2] 52)).alloc (.cells #[.int .u64 0, .int .u64 0] 52)).alloc (.cells #[.int .u64 0, .int .u64 0] 52)) (.cells #[.int .u64 0, .int .u64 0] 52)
  have h7 := heap_new (((((((w.alloc (.cells #[.int .u64 p1, .int .u64 p2] 52)).alloc (.cells #[.int .u64 q1, .int .u64 q2] 52)).alloc (.cells #[.int .u64 r1, .int .u64 r2] 52)).alloc (.cells #[.int .u64 s1, .int .u64 s2] 52)).alloc (.cells #[.int .u64 0, .int .u64 0] 52)).alloc (.cells #[.int .u64 0, .int .u64 0] 52)).alloc (.cells #[.int .u64 0, .int .u64 0] 52)) (.cells #[.int .u64 0, .int .u64 0] 52)
  simp only [World.size_alloc] at h0 h1 h2 h3 h4 h5 h6 h7
  exact ⟨heap_old _ (heap_old _ (heap_old _ (heap_old _ (heap_old _ (heap_old _ (heap_old _ (h0))))))), heap_old _ (heap_old _ (heap_old _ (heap_old _ (heap_old _ (heap_old _ (h1)))))), heap_old _ (heap_old _ (heap_old _ (heap_old _ (heap_old _ (h2))))), heap_old _ (heap_old _ (heap_old _ (heap_old _ (h3)))), heap_old _ (heap_old _ (heap_old _ (h4))), heap_old _ (heap_old _ (h5)), heap_old _ (h6), h7, ((((((((Below.refl _ w).alloc (by simp) _).alloc (by simp) _).alloc (by simp; omega) _).alloc (by simp; omega) _).alloc (by simp; omega) _).alloc (by simp; omega) _).alloc (by simp; omega) _).alloc (by simp; omega) _⟩

theorem set_row2 {W : World} {b : Nat} {u v x y : Int} (h : Pr W b u v) : (W.setCell ⟨b, 0, none⟩ (.int .u64 x)).setCell ⟨b, 1, none⟩ (.int .u64 y) = W.setRow b #[.int .u64 x, .int .u64 y] := by
  have hlt : b < W.heap.size := (Array.getElem?_eq_some_iff.1 h).1
  have hv : W.heap[b] = .cells #[.int .u64 u, .int .u64 v] 52 (0, 0) := (Array.getElem?_eq_some_iff.1 h).2
  unfold World.setCell World.setRow
  congr 1
  apply Array.ext_getElem?
  intro i
  simp only [Array.getElem?_modify]
  by_cases e : b = i
  · subst e
    simp [show W.heap[b]? = _ from h]
  · simp [e]

end Go.Proofs.YtocideolihbnaaaDoor
