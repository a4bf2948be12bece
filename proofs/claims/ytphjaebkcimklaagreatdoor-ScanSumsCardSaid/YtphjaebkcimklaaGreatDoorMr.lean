/- Texts put together: RUse FUse FSeqO FGrp. -/
import Derived.Test.YtphjaebkcimklaaGreatDoorMw
import Derived.RangeFuncNested
import Derived.RangeFuncBound
import Derived.RangeFuncCalls
import Derived.RangeFuncLeaves
import Derived.Shelf.Abstract
import Derived.Shelf.RegionOpen
import Derived.OwnWalkIn
import Derived.TacticsInMore
import Derived.LoopNIn
import Derived.LoopIn
import Derived.Test.YtphjaebkcimklaaGreatDoorMs2
/- A range over an iterator that keeps state of its own in one block: the iterator's contract, and the caller's law. -/
set_option linter.unusedVariables false
set_option linter.unusedSimpArgs false
namespace Go.Proofs.YtphjaebkcimklaaGreatDoor
open Go.RowKit

/-- A round, whatever depth it is asked at. -/
def YieldW (P : Program) (l : Nat) (args : Array Value) (W : World) (R : Ending → World → Prop) : Prop := ∀ m, YieldAt Fence.wide m P l args W R
/-- The blocks of D are kept. -/
structure KD (D : Nat → Prop) (w w' : World) : Prop where
  os : w'.os = w.os
  tape : w'.tape = w.tape
  output : w'.output = w.output
  size : w.heap.size ≤ w'.heap.size
  block : ∀ b, D b → b < w.heap.size → w'.heap[b]? = w.heap[b]?
theorem KD.refl (D : Nat → Prop) (w : World) : KD D w w := ⟨rfl, rfl, rfl, Nat.le_refl _, fun _ _ _ => rfl⟩
theorem KD.trans {D : Nat → Prop} {w w' w'' : World} (h : KD D w w') (k : KD D w' w'') : KD D w w'' :=
  ⟨k.os.trans h.os, k.tape.trans h.tape, k.output.trans h.output, Nat.le_trans h.size k.size, fun b hb hl => (k.block b hb (Nat.lt_of_lt_of_le hl h.size)).trans (h.block b hb hl)⟩
theorem KD.of {D : Nat → Prop} {w w' : World} (h : Below w.heap.size w w') : KD D w w' := ⟨h.os, h.tape, h.output, h.size, fun b _ hl => h.block b hl⟩
theorem KD.grown {D : Nat → Prop} {w w' : World} {row : Option Nat} (h : w.grownBy w' row) (hr : ∀ r, row = some r → ¬ D r) : KD D w w' :=
  ⟨h.os, h.tape, h.output, h.size, fun b hb hl => h.block b hl (fun e => hr b e.symm hb)⟩
/-- What a round that goes on keeps: the blocks of D, and the iterator's own block. -/
structure KeepG (n₀ : Nat → Prop) (g : Nat) (W W' : World) : Prop where
  below : KD n₀ W W'
  own : W'.heap[g]? = W.heap[g]?
/-- An iterator with a block g of its own. Ok: what may be said of an element that it hands over. -/
def SeqP {α : Type} (P : Program) (gf : FuncId) (lb : Array Value) (encs : α → Array Value) (Ok : Nat → List α → α → World → Prop) (n₀ : Nat → Prop) (S Sp : List α → Prop) (w0 : World) : Prop :=
  ∀ (l : Nat) (J Jx : Nat → List α → World → Prop) (W : World), Below w0.heap.size w0 W →
    (∀ g s A B, J g s A → A.grownBy B (some g) → J g s B) →
    (∀ g s A B, Jx g s A → A.grownBy B (some g) → Jx g s B) →
    (∀ g pre x W1, J g pre W1 → Ok g pre x W1 → YieldW P l (encs x) W1 fun e W' =>
      (e = .returned (.bool true) ∧ J g (pre ++ [x]) W' ∧ KeepG n₀ g W1 W') ∨ (e = .returned (.bool false) ∧ Jx g (pre ++ [x]) W')) →
    (∀ W' g, Below W.heap.size W W' → W.heap.size ≤ g → g < W'.heap.size → J g [] W') →
    Calls P gf (#[.func (.yield l) #[] #[]] ++ lb) W fun e W' => (∃ v, e = .returned v) ∧ ((∃ g xs, S xs ∧ J g xs W') ∨ (∃ g pre, Sp pre ∧ Jx g pre W'))

/-- What a loop's body keeps: the loop's two records, all below n₀, the iterator's block. -/
structure RK (B : Nat) (n₀ : Nat → Prop) (g : Nat) (W W' : World) : Prop where
  below : KD n₀ W W'
  own : W'.heap[g]? = W.heap[g]?
  marks : W'.heap[B]? = W.heap[B]?
  record : W'.heap[B + 1]? = W.heap[B + 1]?
theorem RK.refl (B : Nat) (n₀ : Nat → Prop) (g : Nat) (W : World) : RK B n₀ g W W := ⟨KD.refl _ _, rfl, rfl, rfl⟩
theorem RK.trans {B g : Nat} {n₀ : Nat → Prop} {W W' W'' : World} (h : RK B n₀ g W W') (k : RK B n₀ g W' W'') : RK B n₀ g W W'' := ⟨h.below.trans k.below, k.own.trans h.own, k.marks.trans h.marks, k.record.trans h.record⟩
theorem RK.of {B g : Nat} {n₀ : Nat → Prop} {W W' : World} (hb : Below W.heap.size W W') (hg : g < W.heap.size) (hB : B + 1 < W.heap.size) : RK B n₀ g W W' :=
  ⟨KD.of hb, hb.block g hg, hb.block B (by omega), hb.block _ hB⟩
def privPost {α : Type} (B : Nat) (n₀ : Nat → Prop) (g : Nat) (I : Nat → List α → World → Prop) (Ix : Nat → Code → List α → World → Prop) (xs : List α) (W : World) : Exit → Act → World → Prop
  | .normal, _, W' => RK B n₀ g W W' ∧ I g xs W'
  | .ret, _, W' => RK B n₀ g W W' ∧ Ix g .ret xs W'
  | .exit id, _, W' => RK B n₀ g W W' ∧ Ix g (.exit id) xs W'
  | .goto t, _, W' => RK B n₀ g W W' ∧ Ix g (.goto t) xs W'
  | .panic _, _, _ => False
  | .outgrown, _, _ => False

theorem wp_rangeFunc_priv {α : Type} {P : Program} {g : Operand} {ps : Array Tmp} {assign body : Code} {Q : Exit → Act → World → Prop} {a : Act} {w : World} {gf : Nat} {lb : Array Value}
    (hg : a.eval g = .func (.func gf) #[] lb) (eg : ∀ args w, (callFunc gf args).run P w = .ok (.enter gf args) w)
    {encs : α → Array Value} {Ok : Nat → List α → α → World → Prop} {n₀ : Nat → Prop} {S Sp : List α → Prop} {w0 : World} (hseq : SeqP P gf lb encs Ok n₀ S Sp w0) (hb0 : Below w0.heap.size w0 w) (hn₀ : ∀ b, n₀ b → b < w.heap.size) (hps : ∀ x, (encs x).size = ps.size)
    (I : Nat → List α → World → Prop) (Ix : Nat → Code → List α → World → Prop)
    (hI : ∀ k s A B row, I k s A → A.grownBy B row → (∀ r, row = some r → r = k ∨ r = w.heap.size ∨ r = w.heap.size + 1) → I k s B)
    (hIx : ∀ c k s A B row, Ix k c s A → A.grownBy B row → (∀ r, row = some r → r = k ∨ r = w.heap.size ∨ r = w.heap.size + 1) → Ix k c s B)
    (h0 : ∀ k W', Below w.heap.size w W' → w.heap.size + 2 ≤ k → k < W'.heap.size → I k [] W')
    (hround : ∀ m l k pre x W, w.heap.size + 2 ≤ k → I k pre W → Ok k pre x W → w.heap.size + 1 < W.heap.size → k < W.heap.size →
      assign.wpIn (Fence.wide.inRound l) m P (Exit.then (fun a₁ W₁ => RK w.heap.size n₀ k W W₁ ∧ ∀ W₂, W₁.grownBy W₂ (some (w.heap.size + 1)) → body.wpIn (Fence.wide.inRound l) m P (privPost w.heap.size n₀ k I Ix (pre ++ [x]) W₂) a₁ W₂) (fun _ _ _ => False))
        { tmps := (ps.zip (encs x)).foldl (fun t (p, v) => t.setIfInBounds p v) a.tmps, defers := [] } W)
    (hdone : ∀ k xs W, w.heap.size + 2 ≤ k → S xs → I k xs W → W.heap[w.heap.size]? = some (.deferred (some [])) → Q .normal { a with defers := { target := .collected w.heap.size, args := #[] } :: a.defers } W)
    (hstop : ∀ k c pre W, w.heap.size + 2 ≤ k → Sp pre → Ix k c pre W → W.heap[w.heap.size]? = some (.deferred (some [])) → c.wp P Q { a with defers := { target := .collected w.heap.size, args := #[] } :: a.defers } W) :
    (Code.rangeFunc g ps assign body).wp P Q a w := by
  refine (wpIn_wide (n := 1)).1 (wpIn_rangeFunc ?_)
  intro fn hfn
  obtain ⟨rec, hrec⟩ : ∃ rec : LoopState → Option Code → Loop, rec = fun st pe => { state := st, pending := pe, fn, tmps := a.tmps, params := ps, assign, body, defers := w.heap.size } := ⟨_, rfl⟩
  obtain ⟨W1, hW1⟩ : ∃ W1, (w.alloc (.deferred (some []))).alloc (.loop (rec .ready none)) = W1 := ⟨_, rfl⟩
  have hsz : W1.heap.size = w.heap.size + 2 := by rw [← hW1]; simp
  have hL1 : W1.heap[w.heap.size + 1]? = some (.loop (rec .ready none)) := by
    rw [← hW1]; have := World.alloc_heap_new (w.alloc (.deferred (some []))) (.loop (rec .ready none)); rwa [World.size_alloc] at this
  have hK1 : W1.heap[w.heap.size]? = some (.deferred (some [])) := by
    rw [← hW1]; exact (Below.heap_alloc _ _ _ (by simp)).trans (World.alloc_heap_new w _)
  have hb1w : Below w.heap.size w W1 := by
    rw [← hW1]; exact ((Below.refl _ w).alloc (Nat.le_refl _) _).alloc (by simp) _
  have hb1 : Below w0.heap.size w0 W1 := hb0.trans (hb1w.mono hb0.size)
  refine ⟨w.heap.size + 1, [{ target := .collected w.heap.size, args := #[] }], W1, { target := .fn (.func gf) lb, args := #[.func (.yield (w.heap.size + 1)) #[] #[]] }, W1, gf,
    #[.func (.yield (w.heap.size + 1)) #[] #[]] ++ lb, W1, ?_, ?_, ?_, ?_, fun _ => Nat.le_refl _, ?_⟩
  · rw [← hW1, hrec]; exact run_enterLoop_outer _ _ _ _ _
  · simp only [resolve, hg]
    simp [go_sem]
  · intro f' _; trivial
  · simp [invoke, go_sem, eg]
  · have abide : ∀ {A B : World} {k b : Nat} {o : Option Obj}, w.heap.size + 2 ≤ k → b < w.heap.size + 2 → A.grownBy B (some k) → w.heap.size + 2 ≤ A.heap.size → A.heap[b]? = o → B.heap[b]? = o := fun hk hb hg hs h => by
      rw [← h]
      exact hg.block _ (by omega) (by intro e; injection e with e; omega)
    refine callsIn_wide.2 ((hseq (w.heap.size + 1)
      (fun k pre W => I k pre W ∧ W.heap[w.heap.size + 1]? = some (.loop (rec .ready none)) ∧ W.heap[w.heap.size]? = some (.deferred (some [])) ∧ w.heap.size + 2 ≤ k ∧ w.heap.size + 2 ≤ W.heap.size ∧ k < W.heap.size)
      (fun k pre W => ∃ c, Ix k c pre W ∧ W.heap[w.heap.size + 1]? = some (.loop (rec .done (some c))) ∧ W.heap[w.heap.size]? = some (.deferred (some [])) ∧ w.heap.size + 2 ≤ k ∧ w.heap.size + 2 ≤ W.heap.size)
      W1 hb1
      (fun k s A B hs hg' => ⟨hI k s A B _ hs.1 hg' (fun r e => .inl (by injection e with e; exact e.symm)), abide hs.2.2.2.1 (by omega) hg' hs.2.2.2.2.1 hs.2.1, abide hs.2.2.2.1 (by omega) hg' hs.2.2.2.2.1 hs.2.2.1, hs.2.2.2.1, Nat.le_trans hs.2.2.2.2.1 hg'.size, Nat.lt_of_lt_of_le hs.2.2.2.2.2 hg'.size⟩)
      (fun k s A B hs hg' => by
        obtain ⟨c, hc, hl, hd, hk, hz⟩ := hs
        exact ⟨c, hIx c k s A B _ hc hg' (fun r e => .inl (by injection e with e; exact e.symm)), abide hk (by omega) hg' hz hl, abide hk (by omega) hg' hz hd, hk, Nat.le_trans hz hg'.size⟩)
      ?_ (fun W' k hW' hk hk' => ⟨h0 k W' (hb1w.trans (hW'.mono (by omega))) (by omega) hk', (hW'.block _ (by omega)).trans hL1, (hW'.block _ (by omega)).trans hK1, by omega, by have := hW'.size; omega, hk'⟩)).mono ?_)
    · -- one round
      rintro k pre x W ⟨hi, hl, hd, hk, hz, hkl⟩ hok m
      have hlt : w.heap.size + 1 < W.heap.size := (Array.getElem?_eq_some_iff.1 hl).1
      have hy := run_yield (P := P) (args := encs x) hl (by rw [hrec]; exact hps x)
      rw [hrec] at hy
      refine ⟨fn, _, assign, body, hy, roundIn_of_wpIn hfn (wpIn_mono (hround m (w.heap.size + 1) k pre x W hk hi hok hlt hkl) ?_)⟩
      rintro e a₁ W₁ hp
      cases e with
      | normal =>
        obtain ⟨hk1, hbody⟩ := hp
        have hl1 : W₁.heap[w.heap.size + 1]? = some (.loop (rec .ready none)) := hk1.record.trans hl
        have hlt1 : w.heap.size + 1 < W₁.heap.size := (Array.getElem?_eq_some_iff.1 hl1).1
        refine ⟨_, run_beginRound hl1 (by rw [hrec]), wpIn_mono (hbody _ (grownBy_putObj' W₁ (w.heap.size + 1) _)) ?_⟩
        have hl2 : (W₁.putObj (w.heap.size + 1) (.loop { rec .ready none with state := .busy })).heap[w.heap.size + 1]? = some (.loop { rec .ready none with state := .busy }) := World.putObj_heap_same hlt1
        have hd2 : (W₁.putObj (w.heap.size + 1) (.loop { rec .ready none with state := .busy })).heap[w.heap.size]? = some (.deferred (some [])) := (World.putObj_heap_other (by omega)).trans (hk1.marks.trans hd)
        have hw2 : KeepG n₀ k W (W₁.putObj (w.heap.size + 1) (.loop { rec .ready none with state := .busy })) :=
          ⟨hk1.below.trans (KD.grown (grownBy_putObj' W₁ (w.heap.size + 1) _) (fun j e hD => by injection e with e; have := hn₀ j hD; omega)), (World.putObj_heap_other (by omega)).trans hk1.own⟩
        have fin : ∀ (jump : Option Code) (W3 : World), RK w.heap.size n₀ k (W₁.putObj (w.heap.size + 1) (.loop { rec .ready none with state := .busy })) W3 →
            (Instr.endRound (w.heap.size + 1) jump).run P W3 = .ok (.bool jump.isNone) (W3.putObj (w.heap.size + 1) (.loop (rec (if jump.isNone then .ready else .done) jump))) ∧
            W3.heap[w.heap.size + 1]? = some (.loop { rec .ready none with state := .busy }) ∧
            (W3.putObj (w.heap.size + 1) (.loop (rec (if jump.isNone then .ready else .done) jump))).heap[w.heap.size + 1]? = some (.loop (rec (if jump.isNone then .ready else .done) jump)) ∧
            (W3.putObj (w.heap.size + 1) (.loop (rec (if jump.isNone then .ready else .done) jump))).heap[w.heap.size]? = some (.deferred (some [])) ∧ w.heap.size + 2 ≤ (W3.putObj (w.heap.size + 1) (.loop (rec (if jump.isNone then .ready else .done) jump))).heap.size := fun jump W3 hk3 => by
          have hl3 := hk3.record.trans hl2
          have := run_endRound (P := P) jump hl3
          rw [hrec] at this ⊢
          exact ⟨this, by rw [hrec] at hl3; exact hl3, World.putObj_heap_same (Array.getElem?_eq_some_iff.1 hl3).1, (World.putObj_heap_other (by omega)).trans (hk3.marks.trans hd2), by have := (Array.getElem?_eq_some_iff.1 hl3).1; rw [World.putObj_size]; omega⟩
        rintro e a3 W3 hp
        cases e with
        | normal =>
          obtain ⟨hk3, hi3⟩ := hp
          obtain ⟨hr, hl3, hl4, hd4, hz4⟩ := fin none W3 hk3
          exact ⟨_, _, hr, .inl ⟨rfl, ⟨hI k _ _ _ _ hi3 (grownBy_putObj' _ _ _) (fun r e => by injection e with e; omega), hl4, hd4, hk, hz4, by have h1 := hk1.below.size; have h2 := hk3.below.size; rw [World.putObj_size] at h2 ⊢; omega⟩,
            ⟨(hw2.below.trans hk3.below).trans (KD.grown (grownBy_putObj' W3 (w.heap.size + 1) _) (fun j e hD => by injection e with e; have := hn₀ j hD; omega)), (World.putObj_heap_other (by omega)).trans (hk3.own.trans hw2.own)⟩⟩⟩
        | ret =>
          obtain ⟨hk3, hi3⟩ := hp
          obtain ⟨hr, hl3, hl4, hd4, hz4⟩ := fin (some .ret) W3 hk3
          exact ⟨_, _, hr, .inr ⟨rfl, .ret, hIx _ k _ _ _ _ hi3 (grownBy_putObj' _ _ _) (fun r e => by injection e with e; omega), hl4, hd4, hk, hz4⟩⟩
        | exit id =>
          obtain ⟨hk3, hi3⟩ := hp
          obtain ⟨hr, hl3, hl4, hd4, hz4⟩ := fin (some (.exit id)) W3 hk3
          exact ⟨_, _, hr, .inr ⟨rfl, .exit id, hIx _ k _ _ _ _ hi3 (grownBy_putObj' _ _ _) (fun r e => by injection e with e; omega), hl4, hd4, hk, hz4⟩⟩
        | goto t =>
          obtain ⟨hk3, hi3⟩ := hp
          obtain ⟨hr, hl3, hl4, hd4, hz4⟩ := fin (some (.goto t)) W3 hk3
          exact ⟨_, _, hr, .inr ⟨rfl, .goto t, hIx _ k _ _ _ _ hi3 (grownBy_putObj' _ _ _) (fun r e => by injection e with e; omega), hl4, hd4, hk, hz4⟩⟩
        | panic ch => exact hp.elim
        | outgrown => exact hp.elim
      | ret => exact hp.elim
      | exit id => exact hp.elim
      | goto t => exact hp.elim
      | panic ch => exact hp.elim
      | outgrown => exact hp.elim
    · -- behind the iterator
      rintro e W2 ⟨⟨v, rfl⟩, (⟨k, xs, hS, hi, hl, hd, hk, hz, _⟩ | ⟨k, pre, hSp, c, hi, hl, hd, hk, hz⟩)⟩
      · exact ⟨none, _, by have := run_endLoop (P := P) hl (by rw [hrec]; simp); rw [hrec] at this; exact this, hdone k xs _ hk hS (hI k _ _ _ _ hi (grownBy_putObj' _ _ _) (fun r e => by injection e with e; omega)) ((World.putObj_heap_other (by omega)).trans hd)⟩
      · exact ⟨some c, _, by have := run_endLoop (P := P) hl (by rw [hrec]; simp); rw [hrec] at this; exact this, wpIn_wide.2 (hstop k c pre _ hk hSp (hIx c k _ _ _ _ hi (grownBy_putObj' _ _ _) (fun r e => by injection e with e; omega)) ((World.putObj_heap_other (by omega)).trans hd))⟩

section
open Go.Shelf
attribute [local go_sem] Oper.semAt_some

set_option maxHeartbeats 3200000 in
theorem ends_any {S S' : Nat → Prop} (T : PT) (v sv : Value) (f t : Bytes) (cl : Bool) (w : World) (hT : TIn S w v T) (hs : SIn S' w sv f t cl) (hn : T.size ≤ 100000) :
    Calls Tryz.prog 63 #[v, sv] w fun e w' => e = .returned (.tuple #[.int .i64 (T.belowT (fun k => decide (cmp k f = -1)) : Int), .int .i64 (endT T t cl : Int)]) ∧ Below w.heap.size w w' := by
  obtain ⟨tu, rfl⟩ := hT.ptr
  obtain ⟨fv, tv, rfl, hf, ht⟩ := hs
  obtain ⟨A, n, c, rfl⟩ := hf.slice
  obtain ⟨A', n', c', rfl⟩ := ht.slice
  have HC := Lib.hid (Tri.all (T := 25) (w := w) (u := .slice A n c) (v := .slice A' n' c') (x := .bool cl))
  have hb := (Below.refl _ w).alloc (Nat.le_refl _) (.cells #[.slice A n c, .slice A' n' c', .bool cl] 25)
  have HX : Hid (∀ W, Below (w.alloc (.cells #[.slice A n c, .slice A' n' c', .bool cl] 25)).heap.size (w.alloc (.cells #[.slice A n c, .slice A' n' c', .bool cl] 25)) W →
      Below w.heap.size w W ∧ TIn S W (.pointer tu) T ∧ BIn S' W (.slice A n c) f ∧ BIn S' W (.slice A' n' c') t) := fun W hW => by
    have h2 := hb.trans (hW.mono hb.size)
    exact ⟨h2, hT.below h2, hf.below h2, ht.below h2⟩
  clear hb hf ht hT
  go_enter Tryz.func63, Tryz.ntmps63
  go_upto_region 1 with fail
  generalize w.alloc (.cells #[.slice A n c, .slice A' n' c', .bool cl] 25) = X at *
  obtain ⟨b0, b1, b2⟩ := HC.out X (Below.refl _ _)
  have HS := Lib.hid (tsize_any T (.pointer tu) X (HX.out X (Below.refl _ _)).2.1)
  have HR := Lib.hid (fun W (hW : Below X.heap.size X W) => rank_any T (.pointer tu) (.slice A n c) f W (HX.out W hW).2.1 (HX.out W hW).2.2.1 (by omega))
  go_wp2_with fail
  refine HS.out.mono ?_
  rintro e w1 ⟨rfl, rfl⟩
  cases cl with
  | false =>
    go_wp2_with fail
    refine (HR.out X (Below.refl _ _)).mono ?_
    rintro e w2 ⟨rfl, hb2⟩
    have HB2 : Hid (Below w.heap.size w w2) := (HX.out w2 hb2).1
    clear b0 b1 b2 hb2
    go_wp2_with fail
    go_ret2
    exact ⟨rfl, HB2.out⟩
  | true =>
    have HR2 := Lib.hid (rank_any T (.pointer tu) (.slice A' n' c') t X (HX.out X (Below.refl _ _)).2.1 (HX.out X (Below.refl _ _)).2.2.2 (by omega))
    go_wp2_with fail
    refine HR2.out.mono ?_
    rintro e w2 ⟨rfl, hb2⟩
    have B2 : Hid (Below X.heap.size X w2) := hb2
    clear b0 b1 b2 hb2
    obtain ⟨b0, b1, b2⟩ := HC.out w2 B2.out
    go_wp2_with fail
    refine (HR.out w2 B2.out).mono ?_
    rintro e w3 ⟨rfl, hb3⟩
    have HB3 : Hid (Below w.heap.size w w3) := (HX.out w3 (B2.out.trans (hb3.mono B2.out.size))).1
    clear b0 b1 b2 hb3
    go_wp2_with fail
    go_ret2
    exact ⟨rfl, HB3.out⟩

theorem TIn.kd {S D : Nat → Prop} {w w1 : World} {v : Value} {T : PT} (h : TIn S w v T) (hk : KD D w w1) (hS : ∀ b, S b → D b) : TIn S w1 v T := h.carry hk.size fun b hb hl => hk.block b (hS b hb) hl
theorem Kept.grownBy {g : Nat} {w w' : World} (h : Kept (some g) w w') : w.grownBy w' (some g) := ⟨h.os, h.tape, h.output, h.size, fun k hk hne => h.block k hk (fun e => hne e.symm)⟩
theorem Below.grownBy' {g : Nat} {w w' : World} (h : Below w.heap.size w w') : w.grownBy w' (some g) := (Kept.of h).grownBy

/-- What is told of an element: its place, and the pair there. -/
def OkAt (T : PT) (lo hi : Nat) (at_ : Nat → Nat) (g : Nat) (pre : List (Nat × Value)) (x : Nat × Value) (W : World) : Prop :=
  pre.length < hi - lo ∧ x.1 = at_ pre.length ∧ PIn (fun b => g < b) W x.2 (T.list.getD x.1 ([], [])).1 (T.list.getD x.1 ([], [])).2

/-- What All and Down have captured. -/
structure Clo (D : Nat → Prop) (w : World) (b1 b2 : Nat) (tu : Option Addr) (T : PT) (A A' : Option Addr) (n n' c c' : Nat) (f t : Bytes) (cl : Bool) : Prop where
  one : w.heap[b1]? = some (.cells #[.pointer tu] 36 (0, 0))
  two : Tri 25 w b2 (.slice A n c) (.slice A' n' c') (.bool cl)
  tin : TIn D w (.pointer tu) T
  sin : SIn (fun _ => True) w (.agg #[.slice A n c, .slice A' n' c', .bool cl]) f t cl
  sz : T.size ≤ 100000
  dom : ∀ b, D b → b < w.heap.size
theorem Clo.below {D : Nat → Prop} {w W : World} {b1 b2 : Nat} {tu : Option Addr} {T : PT} {A A' : Option Addr} {n n' c c' : Nat} {f t : Bytes} {cl : Bool} (h : Clo D w b1 b2 tu T A A' n n' c c' f t cl) (hb : Below w.heap.size w W) : Clo D W b1 b2 tu T A A' n n' c c' f t cl :=
  ⟨(hb.block b1 (Array.getElem?_eq_some_iff.1 h.one).1).trans h.one, h.two.below hb h.two.lt, h.tin.below hb, h.sin.below hb, h.sz, fun b hD => Nat.lt_of_lt_of_le (h.dom b hD) hb.size⟩
theorem Clo.cells {D : Nat → Prop} {w : World} {b1 b2 : Nat} {tu : Option Addr} {T : PT} {A A' : Option Addr} {n n' c c' : Nat} {f t : Bytes} {cl : Bool} (h : Clo D w b1 b2 tu T A A' n n' c c' f t cl) :
    w.cell? ⟨b1, 0, none⟩ = some (.pointer tu) ∧ w.cell? ⟨b2, 0, none⟩ = some (.slice A n c) ∧ w.cell? ⟨b2, 1, none⟩ = some (.slice A' n' c') ∧ w.cell? ⟨b2, 2, none⟩ = some (.bool cl) := by
  have := cell_of_row w b1 0 _ _ _ h.one
  exact ⟨by simpa using this, h.two.cells⟩

set_option maxRecDepth 100000 in
set_option maxHeartbeats 6400000 in
theorem all_seq {D : Nat → Prop} {w0 : World} {b1 b2 : Nat} {tu : Option Addr} {T : PT} {A A' : Option Addr} {n n' c c' : Nat} {f t : Bytes} {cl : Bool} (h : Clo D w0 b1 b2 tu T A A' n n' c c' f t cl) :
    SeqP Tryz.prog 62 #[.pointer (some ⟨b1, 0, none⟩), .pointer (some ⟨b2, 0, none⟩)] (fun x : Nat × Value => #[.int .i64 (x.1 : Int), x.2])
      (OkAt T (T.belowT (fun k => decide (cmp k f = -1))) (endT T t cl) (fun j => T.belowT (fun k => decide (cmp k f = -1)) + j)) D
      (fun xs => xs.length = endT T t cl - T.belowT (fun k => decide (cmp k f = -1))) (fun pre => 0 < pre.length ∧ pre.length ≤ endT T t cl - T.belowT (fun k => decide (cmp k f = -1))) w0 := fun l J Jx W hW hJ hJx hY h0 => by
  have hC := h.below hW
  obtain ⟨c0, c1, c2, c3⟩ := hC.cells
  have HEN := Lib.hid (ends_any T (.pointer tu) (.agg #[.slice A n c, .slice A' n' c', .bool cl]) f t cl W hC.tin hC.sin hC.sz)
  have hlo := T.belowT_le (fun k => decide (cmp k f = -1))
  have hhi : endT T t cl ≤ T.size := by unfold endT; split; exact T.belowT_le _; exact Nat.le_refl _
  have HC := Lib.hid hC
  generalize T.belowT (fun k => decide (cmp k f = -1)) = lo at *
  generalize endT T t cl = hi at *
  have HY := Lib.hid hY
  have HJ := Lib.hid hJ
  have H0 := Lib.hid h0
  have hsz := hC.sz
  have HSL := Lib.hid T.size_list
  clear h hW hC hY hJ h0
  go_enter Tryz.func62, Tryz.ntmps62
  go_wp2_with fail
  refine HEN.out.mono ?_
  rintro e w1 ⟨rfl, hb1⟩
  have HB1 := Lib.hid hb1
  clear c0 c1 c2 c3 hb1
  obtain ⟨c0, c1, c2, c3⟩ := (HC.out.below HB1.out).cells
  have HWA := Lib.hid (wat_any T (.pointer tu) (lo : Int) w1 (HC.out.below HB1.out).tin (by omega))
  go_wp2_with fail
  refine HWA.out.mono ?_
  rintro e w2 ⟨rfl, h2⟩
  have hh : heldN (lo : Int) T.size = lo := by unfold heldN; rw [if_neg (by omega), if_neg (by omega)]; exact Int.toNat_natCast _
  have HS : Hid (TIn D w2 (.pointer tu) T ∧ Cur w2 w1.heap.size (.pointer tu) ((lo + ([] : List (Nat × Value)).length : Nat) : Int) ∧ J w1.heap.size [] w2) :=
    ⟨((HC.out.below HB1.out).below h2.out.2.1).tin, by have := h2.out.1; rw [hh] at this; exact this, H0.out w2 _ (HB1.out.trans (h2.out.2.1.mono HB1.out.size)) HB1.out.size h2.out.2.2⟩
  have HD : Hid (∀ b, D b → b < w1.heap.size) := (HC.out.below HB1.out).dom
  clear hh h2 HWA c0 c1 c2 c3
  generalize w1.heap.size = g at *
  go_wp2_with fail
  go_loopg [7] (hi - lo) (fun gk v wr => ∃ pre : List (Nat × Value), hi - lo - pre.length = gk ∧ pre.length ≤ hi - lo ∧ Hid (TIn D wr (.pointer tu) T ∧ Cur wr g (.pointer tu) ((lo + pre.length : Nat) : Int) ∧ J g pre wr))
  case atStart => exact ⟨[], rfl, by simp, HS⟩
  case round =>
    obtain ⟨pre, hgk, hpl, hI⟩ := hrel
    have HGK := Lib.hid hgk
    have HPL := Lib.hid (place_any _ g (.pointer tu) _ hI.out.2.1)
    obtain ⟨k, hk⟩ : ∃ k, lo + pre.length = k := ⟨_, rfl⟩
    rw [hk] at HPL
    clear hgk
    by_cases hlt : k < hi
    · have hlt2 : (k : Int) < (hi : Int) := by omega
      have hci : CI _ _ g tu T k := ⟨hI.out.1.imp (fun b _ hb => HD.out b hb), by have := hI.out.2.1; rw [hk] at this; exact this, Kept.refl _ _, by have := HSL.out; omega, hsz⟩
      have HN := Lib.hid (next_yes hci (by have := HSL.out; omega))
      have HK := Lib.hid hk
      have hpl2 : pre.length < hi - lo := by omega
      clear hci hk
      go_wp2_with fail
      refine HPL.out.mono ?_
      rintro e wz ⟨rfl, rfl⟩
      go_wp2_with fail
      refine HPL.out.mono ?_
      rintro e wz ⟨rfl, rfl⟩
      go_wp2_with fail
      refine HN.out.mono ?_
      rintro e w3 ⟨A1, n1, d1, A2, n2, d2, rfl, h3⟩
      have hbn : Below w3.heap.size w3 (w3.alloc (.cells #[.slice A1 n1 d1, .slice A2 n2 d2] 60)) := (Below.refl _ _).alloc (Nat.le_refl _) _
      have hkp : Kept (some g) _ (w3.alloc (.cells #[.slice A1 n1 d1, .slice A2 n2 d2] 60)) := h3.out.2.1.trans (Kept.of hbn)
      have HV : Hid (TIn D (w3.alloc (.cells #[.slice A1 n1 d1, .slice A2 n2 d2] 60)) (.pointer tu) T ∧ Cur (w3.alloc (.cells #[.slice A1 n1 d1, .slice A2 n2 d2] 60)) g (.pointer tu) ((k + 1 : Nat) : Int) ∧ J g pre (w3.alloc (.cells #[.slice A1 n1 d1, .slice A2 n2 d2] 60))) :=
        ⟨hI.out.1.kept hkp (fun b hb e => by injection e with e; subst e; exact Nat.lt_irrefl _ (HD.out _ hb)), (h3.out.2.2.below hbn).cur, HJ.out g pre _ _ hI.out.2.2 hkp.grownBy⟩
      have hok : OkAt T lo hi (fun j => lo + j) g pre (k, .agg #[.slice A1 n1 d1, .slice A2 n2 d2]) (w3.alloc (.cells #[.slice A1 n1 d1, .slice A2 n2 d2] 60)) :=
        ⟨hpl2, HK.out.symm, (PIn.below h3.out.1 hbn).imp (fun b _ hb => Nat.lt_of_lt_of_le hI.out.2.1.lt hb)⟩
      have hyy := HY.out g pre (k, .agg #[.slice A1 n1 d1, .slice A2 n2 d2]) _ HV.out.2.2 hok 0
      have HYY := Lib.hid hyy
      clear h3 hbn hkp hok hyy HN
      go_upto_region 5 with fail
      obtain ⟨fn, tmps, assign, body, hy, hR⟩ := HYY.out
      refine (wpIn_wide (n := 1)).1 ?_
      gi_wp2
      refine hR.mono ?_
      rintro e W3 (⟨rfl, hJ3, hk3⟩ | ⟨rfl, hJx3⟩)
      · have HN3 : Hid (TIn D W3 (.pointer tu) T ∧ Cur W3 g (.pointer tu) ((lo + (pre ++ [(k, (Value.agg #[.slice A1 n1 d1, .slice A2 n2 d2]))]).length : Nat) : Int) ∧ J g (pre ++ [(k, .agg #[.slice A1 n1 d1, .slice A2 n2 d2])]) W3) := by
          refine ⟨HV.out.1.kd hk3.below (fun _ h => h), ?_, hJ3⟩
          rw [show lo + (pre ++ [(k, (Value.agg #[.slice A1 n1 d1, .slice A2 n2 d2]))]).length = k + 1 by have := HK.out; simp; omega]
          exact hk3.own.trans HV.out.2.1
        clear hJ3 hk3 hR hy
        gi_wp2
        go_wp2_with fail
        go_roundg (hi - lo - (pre.length + 1))
        case rel => exact ⟨pre ++ [(k, .agg #[.slice A1 n1 d1, .slice A2 n2 d2])], by simp, by simp; omega, HN3⟩
        case measure => have := HGK.out; omega
      · have HN3 : Hid (Jx g (pre ++ [(k, .agg #[.slice A1 n1 d1, .slice A2 n2 d2])]) W3) := hJx3
        clear hJx3 hR hy
        gi_wp2
        go_wp2_with fail
        refine bodyPost_ret (results_none rfl _ _ _) rfl ?_
        exact ⟨⟨_, rfl⟩, .inr ⟨g, _, ⟨by simp, by simp; omega⟩, HN3.out⟩⟩
    · have hlt2 : ¬ (k : Int) < (hi : Int) := by omega
      have hpe : pre.length = hi - lo := by omega
      have HPE := Lib.hid hpe
      clear hk hpe
      go_wp2_with fail
      refine HPL.out.mono ?_
      rintro e wz ⟨rfl, rfl⟩
      go_wp2_with fail
      go_end0
      exact ⟨⟨_, rfl⟩, .inl ⟨g, pre, HPE.out, hI.out.2.2⟩⟩

set_option maxRecDepth 100000 in
set_option maxHeartbeats 6400000 in
theorem down_seq {D : Nat → Prop} {w0 : World} {b1 b2 : Nat} {tu : Option Addr} {T : PT} {A A' : Option Addr} {n n' c c' : Nat} {f t : Bytes} {cl : Bool} (h : Clo D w0 b1 b2 tu T A A' n n' c c' f t cl) :
    SeqP Tryz.prog 72 #[.pointer (some ⟨b1, 0, none⟩), .pointer (some ⟨b2, 0, none⟩)] (fun x : Nat × Value => #[.int .i64 (x.1 : Int), x.2])
      (OkAt T (T.belowT (fun k => decide (cmp k f = -1))) (endT T t cl) (fun j => endT T t cl - 1 - j)) D
      (fun xs => xs.length = endT T t cl - T.belowT (fun k => decide (cmp k f = -1))) (fun pre => 0 < pre.length ∧ pre.length ≤ endT T t cl - T.belowT (fun k => decide (cmp k f = -1))) w0 := fun l J Jx W hW hJ hJx hY h0 => by
  have hC := h.below hW
  obtain ⟨c0, c1, c2, c3⟩ := hC.cells
  have HEN := Lib.hid (ends_any T (.pointer tu) (.agg #[.slice A n c, .slice A' n' c', .bool cl]) f t cl W hC.tin hC.sin hC.sz)
  have hlo := T.belowT_le (fun k => decide (cmp k f = -1))
  have hhi : endT T t cl ≤ T.size := by unfold endT; split; exact T.belowT_le _; exact Nat.le_refl _
  have HC := Lib.hid hC
  generalize T.belowT (fun k => decide (cmp k f = -1)) = lo at *
  generalize endT T t cl = hi at *
  have HY := Lib.hid hY
  have HJ := Lib.hid hJ
  have H0 := Lib.hid h0
  have hsz := hC.sz
  have HSL := Lib.hid T.size_list
  clear h hW hC hY hJ h0
  go_enter Tryz.func72, Tryz.ntmps72
  go_wp2_with fail
  refine HEN.out.mono ?_
  rintro e w1 ⟨rfl, hb1⟩
  have HB1 := Lib.hid hb1
  clear c0 c1 c2 c3 hb1
  obtain ⟨c0, c1, c2, c3⟩ := (HC.out.below HB1.out).cells
  have HWA := Lib.hid (wat_any T (.pointer tu) (hi : Int) w1 (HC.out.below HB1.out).tin (by omega))
  go_wp2_with fail
  refine HWA.out.mono ?_
  rintro e w2 ⟨rfl, h2⟩
  have hh : heldN (hi : Int) T.size = hi := by unfold heldN; rw [if_neg (by omega), if_neg (by omega)]; exact Int.toNat_natCast _
  have HS : Hid (TIn D w2 (.pointer tu) T ∧ Cur w2 w1.heap.size (.pointer tu) ((hi - ([] : List (Nat × Value)).length : Nat) : Int) ∧ J w1.heap.size [] w2) :=
    ⟨((HC.out.below HB1.out).below h2.out.2.1).tin, by have := h2.out.1; rw [hh] at this; exact this, H0.out w2 _ (HB1.out.trans (h2.out.2.1.mono HB1.out.size)) HB1.out.size h2.out.2.2⟩
  have HD : Hid (∀ b, D b → b < w1.heap.size) := (HC.out.below HB1.out).dom
  clear hh h2 HWA c0 c1 c2 c3
  generalize w1.heap.size = g at *
  go_wp2_with fail
  go_loopg [7] (hi - lo) (fun gk v wr => ∃ pre : List (Nat × Value), hi - lo - pre.length = gk ∧ pre.length ≤ hi - lo ∧ Hid (TIn D wr (.pointer tu) T ∧ Cur wr g (.pointer tu) ((hi - pre.length : Nat) : Int) ∧ J g pre wr))
  case atStart => exact ⟨[], rfl, by simp, HS⟩
  case round =>
    obtain ⟨pre, hgk, hpl, hI⟩ := hrel
    have HGK := Lib.hid hgk
    have HPL := Lib.hid (place_any _ g (.pointer tu) _ hI.out.2.1)
    obtain ⟨k, hk⟩ : ∃ k, hi - pre.length = k := ⟨_, rfl⟩
    rw [hk] at HPL
    clear hgk
    by_cases hlt : lo < k
    · have hlt2 : (lo : Int) < (k : Int) := by omega
      have hci : CI _ _ g tu T k := ⟨hI.out.1.imp (fun b _ hb => HD.out b hb), by have := hI.out.2.1; rw [hk] at this; exact this, Kept.refl _ _, by have := HSL.out; omega, hsz⟩
      have HN := Lib.hid (back_yes hci (by omega))
      have HK := Lib.hid hk
      have hpl2 : pre.length < hi - lo := by omega
      clear hci hk
      go_wp2_with fail
      refine HPL.out.mono ?_
      rintro e wz ⟨rfl, rfl⟩
      go_wp2_with fail
      refine HN.out.mono ?_
      rintro e w3 ⟨A1, n1, d1, A2, n2, d2, rfl, h3⟩
      have hbn : Below w3.heap.size w3 (w3.alloc (.cells #[.slice A1 n1 d1, .slice A2 n2 d2] 60)) := (Below.refl _ _).alloc (Nat.le_refl _) _
      have hkp : Kept (some g) _ (w3.alloc (.cells #[.slice A1 n1 d1, .slice A2 n2 d2] 60)).drew := (h3.out.2.1.trans (Kept.of hbn)).drew
      have HV : Hid (TIn D (w3.alloc (.cells #[.slice A1 n1 d1, .slice A2 n2 d2] 60)).drew (.pointer tu) T ∧ Cur (w3.alloc (.cells #[.slice A1 n1 d1, .slice A2 n2 d2] 60)).drew g (.pointer tu) ((k - 1 : Nat) : Int) ∧ J g pre (w3.alloc (.cells #[.slice A1 n1 d1, .slice A2 n2 d2] 60)).drew) :=
        ⟨hI.out.1.kept hkp (fun b hb e => by injection e with e; subst e; exact Nat.lt_irrefl _ (HD.out _ hb)), (h3.out.2.2.below hbn).cur, HJ.out g pre _ _ hI.out.2.2 hkp.grownBy⟩
      have hok : OkAt T lo hi (fun j => hi - 1 - j) g pre (k - 1, .agg #[.slice A1 n1 d1, .slice A2 n2 d2]) (w3.alloc (.cells #[.slice A1 n1 d1, .slice A2 n2 d2] 60)).drew :=
        ⟨hpl2, by have := HK.out; show k - 1 = hi - 1 - pre.length; omega, (PIn.below h3.out.1 (below_drew2 hbn)).imp (fun b _ hb => Nat.lt_of_lt_of_le hI.out.2.1.lt hb)⟩
      have hyy := HY.out g pre (k - 1, .agg #[.slice A1 n1 d1, .slice A2 n2 d2]) _ HV.out.2.2 hok 0
      have HYY := Lib.hid hyy
      clear h3 hbn hkp hok hyy HN
      have HPL2 := Lib.hid (place_any ((w3.alloc (.cells #[.slice A1 n1 d1, .slice A2 n2 d2] 60)).drew) g (.pointer tu) _ HV.out.2.1)
      go_upto_region 4 with fail
      obtain ⟨fn, tmps, assign, body, hy, hR⟩ := HYY.out
      refine (wpIn_wide (n := 1)).1 ?_
      have hmx : Tryz.prog.follows .mixedOrders = true := by kernel_rfl
      have hRr : RoundIn Fence.wide 0 Tryz.prog l fn tmps assign body (w3.alloc (.cells #[.slice A1 n1 d1, .slice A2 n2 d2] 60)).drew (fun e W' => ∃ r : Bool, e = .returned (.bool r) ∧ Hid ((r = true ∧ J g (pre ++ [(k - 1, Value.agg #[.slice A1 n1 d1, .slice A2 n2 d2])]) W' ∧ KeepG D g (w3.alloc (.cells #[.slice A1 n1 d1, .slice A2 n2 d2] 60)).drew W') ∨ (r = false ∧ Jx g (pre ++ [(k - 1, Value.agg #[.slice A1 n1 d1, .slice A2 n2 d2])]) W'))) := hR.mono (by
        rintro e W' (⟨rfl, h1, h2⟩ | ⟨rfl, h1⟩)
        · exact ⟨true, rfl, .inl ⟨rfl, h1, h2⟩⟩
        · exact ⟨false, rfl, .inr ⟨rfl, h1⟩⟩)
      clear hR
      gi_region_with_o (first
        | (refine ⟨trivial, ?_⟩; gi_at_call 65; refine (callsIn_wide.2 (HPL2.out)).mono ?_; rintro e w' ⟨rfl, rfl⟩)
        | (refine hRr.mono ?_; rintro e W3 ⟨r, rfl, hYr⟩))
      all_goals rcases hYr.out with ⟨rfl, hJ3, hk3⟩ | ⟨rfl, hJx3⟩
      · have HN3 : Hid (TIn D W3 (.pointer tu) T ∧ Cur W3 g (.pointer tu) ((hi - (pre ++ [(k - 1, (Value.agg #[.slice A1 n1 d1, .slice A2 n2 d2]))]).length : Nat) : Int) ∧ J g (pre ++ [(k - 1, .agg #[.slice A1 n1 d1, .slice A2 n2 d2])]) W3) := by
          refine ⟨HV.out.1.kd hk3.below (fun _ h => h), ?_, hJ3⟩
          rw [show hi - (pre ++ [(k - 1, (Value.agg #[.slice A1 n1 d1, .slice A2 n2 d2]))]).length = k - 1 by have := HK.out; simp; omega]
          exact hk3.own.trans HV.out.2.1
        clear hJ3 hk3 hRr hy
        gi_wp2
        go_wp2_with fail
        go_roundg (hi - lo - (pre.length + 1))
        case rel => exact ⟨pre ++ [(k - 1, .agg #[.slice A1 n1 d1, .slice A2 n2 d2])], by simp, by simp; omega, HN3⟩
        case measure => have := HGK.out; omega
      · have HN3 : Hid (Jx g (pre ++ [(k - 1, .agg #[.slice A1 n1 d1, .slice A2 n2 d2])]) W3) := hJx3
        clear hJx3 hRr hy
        gi_wp2
        go_wp2_with fail
        refine bodyPost_ret (results_none rfl _ _ _) rfl ?_
        exact ⟨⟨_, rfl⟩, .inr ⟨g, _, ⟨by simp, by simp; omega⟩, HN3.out⟩⟩
      · have HN3 : Hid (TIn D W3 (.pointer tu) T ∧ Cur W3 g (.pointer tu) ((hi - (pre ++ [(k - 1, (Value.agg #[.slice A1 n1 d1, .slice A2 n2 d2]))]).length : Nat) : Int) ∧ J g (pre ++ [(k - 1, .agg #[.slice A1 n1 d1, .slice A2 n2 d2])]) W3) := by
          refine ⟨HV.out.1.kd hk3.below (fun _ h => h), ?_, hJ3⟩
          rw [show hi - (pre ++ [(k - 1, (Value.agg #[.slice A1 n1 d1, .slice A2 n2 d2]))]).length = k - 1 by have := HK.out; simp; omega]
          exact hk3.own.trans HV.out.2.1
        clear hJ3 hk3 hRr hy
        gi_wp2
        go_wp2_with fail
        go_roundg (hi - lo - (pre.length + 1))
        case rel => exact ⟨pre ++ [(k - 1, .agg #[.slice A1 n1 d1, .slice A2 n2 d2])], by simp, by simp; omega, HN3⟩
        case measure => have := HGK.out; omega
      · have HN3 : Hid (Jx g (pre ++ [(k - 1, .agg #[.slice A1 n1 d1, .slice A2 n2 d2])]) W3) := hJx3
        clear hJx3 hRr hy
        gi_wp2
        go_wp2_with fail
        refine bodyPost_ret (results_none rfl _ _ _) rfl ?_
        exact ⟨⟨_, rfl⟩, .inr ⟨g, _, ⟨by simp, by simp; omega⟩, HN3.out⟩⟩
    · have hlt2 : ¬ (lo : Int) < (k : Int) := by omega
      have hpe : pre.length = hi - lo := by omega
      have HPE := Lib.hid hpe
      clear hk hpe
      go_wp2_with fail
      refine HPL.out.mono ?_
      rintro e wz ⟨rfl, rfl⟩
      go_wp2_with fail
      go_end0
      exact ⟨⟨_, rfl⟩, .inl ⟨g, pre, HPE.out, hI.out.2.2⟩⟩

end

theorem split_asc : ∀ (M : Pairs) (key : Bytes), Asc M → M = lessM M key ++ geM M key
  | [], _, _ => rfl
  | (k, x) :: M, key, h => by
    have ih := split_asc M key h.tail
    by_cases hk : cmp k key = -1
    · have e1 : lessM ((k, x) :: M) key = (k, x) :: lessM M key := by unfold lessM; rw [List.filter_cons, if_pos (decide_eq_true hk)]
      have e2 : geM ((k, x) :: M) key = geM M key := by unfold geM; rw [List.filter_cons, if_neg (by rw [decide_eq_true hk]; decide)]
      rw [e1, e2, List.cons_append, ← ih]
    · have hall : ∀ q ∈ (k, x) :: M, ¬ cmp q.1 key = -1 := fun q hq => by
        rcases List.mem_cons.1 hq with rfl | hq
        · exact hk
        · exact fun h2 => hk (cmp_lt_trans _ _ _ (h.head q hq) h2)
      have e1 : lessM ((k, x) :: M) key = [] := List.filter_eq_nil_iff.2 fun q hq => by rw [decide_eq_false (hall q hq)]; decide
      have e2 : geM ((k, x) :: M) key = (k, x) :: M := List.filter_eq_self.2 fun q hq => by rw [decide_eq_false (hall q hq)]; rfl
      rw [e1, e2]; rfl
theorem ge_at (M : Pairs) (key : Bytes) (h : Asc M) (j : Nat) : (geM M key).getD j ([], []) = M.getD ((lessM M key).length + j) ([], []) := by
  conv => rhs; arg 1; rw [split_asc M key h]
  rw [List.getD_eq_getElem?_getD, List.getD_eq_getElem?_getD, List.getElem?_append_right (by omega), show (lessM M key).length + j - (lessM M key).length = j by omega]
theorem cut_size (T : PT) (f t : Bytes) (cl : Bool) (h : Asc T.list) : (cutM T.list f t cl true).length = endT T t cl - T.belowT (fun k => decide (cmp k f = -1)) := by
  have := count_plain T f t cl h
  split at this <;> omega
theorem cut_at (T : PT) (f t : Bytes) (cl : Bool) (h : Asc T.list) (j : Nat) (hj : j < (cutM T.list f t cl true).length) :
    (cutM T.list f t cl true).getD j ([], []) = T.list.getD (T.belowT (fun k => decide (cmp k f = -1)) + j) ([], []) := by
  rw [below_less T f h]
  rw [← ge_at T.list f h j]
  cases cl with
  | false => rw [(cut_open T.list f t).1]
  | true =>
    rw [cut_closed] at hj ⊢
    conv => rhs; arg 1; rw [split_asc (geM T.list f) t (ge_asc f h)]
    rw [List.getD_eq_getElem?_getD, List.getD_eq_getElem?_getD, List.getElem?_append_left hj]

set_option maxHeartbeats 1600000 in
theorem All_any {D S' : Nat → Prop} (T : PT) (tu : Option Addr) (A A' : Option Addr) (n n' c c' : Nat) (f t : Bytes) (cl : Bool) (w : World) (hT : TIn D w (.pointer tu) T) (hs : SIn (fun _ => True) w (.agg #[.slice A n c, .slice A' n' c', .bool cl]) f t cl) (hn : T.size ≤ 100000) (hD : ∀ b, D b → b < w.heap.size) :
    Calls Tryz.prog 36 #[.pointer tu, .agg #[.slice A n c, .slice A' n' c', .bool cl]] w fun e w' => e = .returned (.func (.func 62) #[] #[.pointer (some ⟨w.heap.size, 0, none⟩), .pointer (some ⟨w.heap.size + 1, 0, none⟩)]) ∧
      Hid (Clo D w' w.heap.size (w.heap.size + 1) tu T A A' n n' c c' f t cl ∧ Below w.heap.size w w') := by
  have hb : Below w.heap.size w ((w.alloc (.cells #[.pointer tu] 36)).alloc (.cells #[.slice A n c, .slice A' n' c', .bool cl] 25)) := ((Below.refl _ w).alloc (Nat.le_refl _) _).alloc (by simp) _
  have h1 : ((w.alloc (.cells #[.pointer tu] 36)).alloc (.cells #[.slice A n c, .slice A' n' c', .bool cl] 25)).heap[w.heap.size]? = some (.cells #[.pointer tu] 36 (0, 0)) := heap_old _ (heap_new w _)
  have h2 : Tri 25 ((w.alloc (.cells #[.pointer tu] 36)).alloc (.cells #[.slice A n c, .slice A' n' c', .bool cl] 25)) (w.heap.size + 1) (.slice A n c) (.slice A' n' c') (.bool cl) := by
    have := heap_new (w.alloc (.cells #[.pointer tu] 36)) (.cells #[.slice A n c, .slice A' n' c', .bool cl] 25)
    rw [World.size_alloc] at this
    exact this
  have HF : Hid (Clo D ((w.alloc (.cells #[.pointer tu] 36)).alloc (.cells #[.slice A n c, .slice A' n' c', .bool cl] 25)) w.heap.size (w.heap.size + 1) tu T A A' n n' c c' f t cl ∧ Below w.heap.size w ((w.alloc (.cells #[.pointer tu] 36)).alloc (.cells #[.slice A n c, .slice A' n' c', .bool cl] 25))) :=
    ⟨⟨h1, h2, hT.below hb, hs.below hb, hn, fun b hb' => Nat.lt_of_lt_of_le (hD b hb') hb.size⟩, hb⟩
  clear hb h1 h2 hT hs
  go_enter Tryz.func36, Tryz.ntmps36
  go_wp2_with fail
  go_ret
  exact ⟨rfl, HF.out⟩
set_option maxHeartbeats 1600000 in
theorem Down_any {D S' : Nat → Prop} (T : PT) (tu : Option Addr) (A A' : Option Addr) (n n' c c' : Nat) (f t : Bytes) (cl : Bool) (w : World) (hT : TIn D w (.pointer tu) T) (hs : SIn (fun _ => True) w (.agg #[.slice A n c, .slice A' n' c', .bool cl]) f t cl) (hn : T.size ≤ 100000) (hD : ∀ b, D b → b < w.heap.size) :
    Calls Tryz.prog 48 #[.pointer tu, .agg #[.slice A n c, .slice A' n' c', .bool cl]] w fun e w' => e = .returned (.func (.func 72) #[] #[.pointer (some ⟨w.heap.size, 0, none⟩), .pointer (some ⟨w.heap.size + 1, 0, none⟩)]) ∧
      Hid (Clo D w' w.heap.size (w.heap.size + 1) tu T A A' n n' c c' f t cl ∧ Below w.heap.size w w') := by
  have hb : Below w.heap.size w ((w.alloc (.cells #[.pointer tu] 36)).alloc (.cells #[.slice A n c, .slice A' n' c', .bool cl] 25)) := ((Below.refl _ w).alloc (Nat.le_refl _) _).alloc (by simp) _
  have h1 : ((w.alloc (.cells #[.pointer tu] 36)).alloc (.cells #[.slice A n c, .slice A' n' c', .bool cl] 25)).heap[w.heap.size]? = some (.cells #[.pointer tu] 36 (0, 0)) := heap_old _ (heap_new w _)
  have h2 : Tri 25 ((w.alloc (.cells #[.pointer tu] 36)).alloc (.cells #[.slice A n c, .slice A' n' c', .bool cl] 25)) (w.heap.size + 1) (.slice A n c) (.slice A' n' c') (.bool cl) := by
    have := heap_new (w.alloc (.cells #[.pointer tu] 36)) (.cells #[.slice A n c, .slice A' n' c', .bool cl] 25)
    rw [World.size_alloc] at this
    exact this
  have HF : Hid (Clo D ((w.alloc (.cells #[.pointer tu] 36)).alloc (.cells #[.slice A n c, .slice A' n' c', .bool cl] 25)) w.heap.size (w.heap.size + 1) tu T A A' n n' c c' f t cl ∧ Below w.heap.size w ((w.alloc (.cells #[.pointer tu] 36)).alloc (.cells #[.slice A n c, .slice A' n' c', .bool cl] 25))) :=
    ⟨⟨h1, h2, hT.below hb, hs.below hb, hn, fun b hb' => Nat.lt_of_lt_of_le (hD b hb') hb.size⟩, hb⟩
  clear hb h1 h2 hT hs
  go_enter Tryz.func48, Tryz.ntmps48
  go_wp2_with fail
  go_ret
  exact ⟨rfl, HF.out⟩

/-- A block of one cell that is neither a byte's nor a tree's. -/
theorem BIn.notBool {S : Nat → Prop} {w : World} {v : Value} {l : Bytes} {g : Nat} {b : Bool} (h : BIn S w v l) (hg : w.heap[g]? = some (.cells #[.bool b] 4 (0, 0))) : BIn (fun x => S x ∧ x ≠ g) w v l := by
  obtain ⟨A, n, c, rfl, hc, hr, hs⟩ := h
  refine ⟨A, n, c, rfl, hc, hr, fun b' o hn e => ⟨hs b' o hn e, fun hbg => ?_⟩⟩
  obtain ⟨b1, o1, e1, hlt, hcell⟩ := hr.cell hn
  rw [e] at e1
  cases e1
  subst hbg
  have h0 := hcell 0 hn
  simp [World.cell?, hg] at h0
  cases o with
  | zero => simp at h0
  | succ o => simp at h0
theorem TIn.notBool {S : Nat → Prop} {w : World} {g : Nat} {b : Bool} (hg : w.heap[g]? = some (.cells #[.bool b] 4 (0, 0))) : ∀ {T : PT} {v : Value}, TIn S w v T → TIn (fun x => S x ∧ x ≠ g) w v T
  | .nil, _, h => h
  | .node _ _ _ _, _, ⟨b', kv, xv, lv, rv, e, hb, hh, h1, h2, h3, h4⟩ => ⟨b', kv, xv, lv, rv, e, ⟨hb, fun e => by subst e; rw [hg] at hh; cases hh⟩, hh, h1.notBool hg, h2.notBool hg, h3.notBool hg, h4.notBool hg⟩
theorem MIn.notBool {S : Nat → Prop} {w : World} {A : Option Addr} {n : Nat} {M : Pairs} {g : Nat} {b : Bool} (h : MIn S w A n M) (hg : w.heap[g]? = some (.cells #[.bool b] 4 (0, 0))) : MIn (fun x => S x ∧ x ≠ g) w A n M :=
  ⟨h.len, fun hn => by
    obtain ⟨b', o, e, hlt, hSb, hc⟩ := h.cell hn
    refine ⟨b', o, e, hlt, ⟨hSb, fun hbg => ?_⟩, hc⟩
    subst hbg
    have h0 := (hc 0 hn).1
    simp [World.cell?, hg] at h0
    cases o with
    | zero => simp [bs] at h0
    | succ o => simp at h0⟩

end Go.Proofs.YtphjaebkcimklaaGreatDoor

/- A range over an iterator with one block of its own, again: each element is new since the last round. -/
set_option linter.unusedVariables false
set_option linter.unusedSimpArgs false
namespace Go.Proofs.YtphjaebkcimklaaGreatDoor
open Go.RowKit Go.Shelf
attribute [local go_sem] Oper.semAt_some

/-- An iterator with a block g of its own. Ok: what may be said of an element that it hands over. -/
def SeqF {α : Type} (P : Program) (gf : FuncId) (lb : Array Value) (encs : α → Array Value) (Ok : Nat → List α → α → World → World → Prop) (n₀ : Nat → Prop) (S Sp : List α → Prop) (w0 : World) : Prop :=
  ∀ (l : Nat) (J Jx : Nat → List α → World → Prop) (W : World), Below w0.heap.size w0 W →
    (∀ g s A B, J g s A → A.grownBy B (some g) → J g s B) →
    (∀ g s A B, Jx g s A → A.grownBy B (some g) → Jx g s B) →
    (∀ g pre x V W1, J g pre V → V.grownBy W1 (some g) → J g pre W1 → Ok g pre x V W1 → YieldW P l (encs x) W1 fun e W' =>
      (e = .returned (.bool true) ∧ J g (pre ++ [x]) W' ∧ KeepG n₀ g W1 W') ∨ (e = .returned (.bool false) ∧ Jx g (pre ++ [x]) W')) →
    (∀ W' g, Below W.heap.size W W' → W.heap.size ≤ g → g < W'.heap.size → J g [] W') →
    Calls P gf (#[.func (.yield l) #[] #[]] ++ lb) W fun e W' => (∃ v, e = .returned v) ∧ ((∃ g xs, S xs ∧ J g xs W') ∨ (∃ g pre, Sp pre ∧ Jx g pre W'))

theorem wp_rangeFunc_F {α : Type} {P : Program} {g : Operand} {ps : Array Tmp} {assign body : Code} {Q : Exit → Act → World → Prop} {a : Act} {w : World} {gf : Nat} {lb : Array Value}
    (hg : a.eval g = .func (.func gf) #[] lb) (eg : ∀ args w, (callFunc gf args).run P w = .ok (.enter gf args) w)
    {encs : α → Array Value} {Ok : Nat → List α → α → World → World → Prop} {n₀ : Nat → Prop} {S Sp : List α → Prop} {w0 : World} (hseq : SeqF P gf lb encs Ok n₀ S Sp w0) (hb0 : Below w0.heap.size w0 w) (hn₀ : ∀ b, n₀ b → b < w.heap.size) (hps : ∀ x, (encs x).size = ps.size)
    (I : Nat → List α → World → Prop) (Ix : Nat → Code → List α → World → Prop)
    (hI : ∀ k s A B row, I k s A → A.grownBy B row → (∀ r, row = some r → r = k ∨ r = w.heap.size ∨ r = w.heap.size + 1) → I k s B)
    (hIx : ∀ c k s A B row, Ix k c s A → A.grownBy B row → (∀ r, row = some r → r = k ∨ r = w.heap.size ∨ r = w.heap.size + 1) → Ix k c s B)
    (h0 : ∀ k W', Below w.heap.size w W' → w.heap.size + 2 ≤ k → k < W'.heap.size → I k [] W')
    (hround : ∀ m l k pre x V W, w.heap.size + 2 ≤ k → I k pre V → V.grownBy W (some k) → I k pre W → Ok k pre x V W → w.heap.size + 1 < W.heap.size → k < W.heap.size →
      assign.wpIn (Fence.wide.inRound l) m P (Exit.then (fun a₁ W₁ => RK w.heap.size n₀ k W W₁ ∧ ∀ W₂, W₁.grownBy W₂ (some (w.heap.size + 1)) → body.wpIn (Fence.wide.inRound l) m P (privPost w.heap.size n₀ k I Ix (pre ++ [x]) W₂) a₁ W₂) (fun _ _ _ => False))
        { tmps := (ps.zip (encs x)).foldl (fun t (p, v) => t.setIfInBounds p v) a.tmps, defers := [] } W)
    (hdone : ∀ k xs W, w.heap.size + 2 ≤ k → S xs → I k xs W → W.heap[w.heap.size]? = some (.deferred (some [])) → Q .normal { a with defers := { target := .collected w.heap.size, args := #[] } :: a.defers } W)
    (hstop : ∀ k c pre W, w.heap.size + 2 ≤ k → Sp pre → Ix k c pre W → W.heap[w.heap.size]? = some (.deferred (some [])) → c.wp P Q { a with defers := { target := .collected w.heap.size, args := #[] } :: a.defers } W) :
    (Code.rangeFunc g ps assign body).wp P Q a w := by
  refine (wpIn_wide (n := 1)).1 (wpIn_rangeFunc ?_)
  intro fn hfn
  obtain ⟨rec, hrec⟩ : ∃ rec : LoopState → Option Code → Loop, rec = fun st pe => { state := st, pending := pe, fn, tmps := a.tmps, params := ps, assign, body, defers := w.heap.size } := ⟨_, rfl⟩
  obtain ⟨W1, hW1⟩ : ∃ W1, (w.alloc (.deferred (some []))).alloc (.loop (rec .ready none)) = W1 := ⟨_, rfl⟩
  have hsz : W1.heap.size = w.heap.size + 2 := by rw [← hW1]; simp
  have hL1 : W1.heap[w.heap.size + 1]? = some (.loop (rec .ready none)) := by
    rw [← hW1]; have := World.alloc_heap_new (w.alloc (.deferred (some []))) (.loop (rec .ready none)); rwa [World.size_alloc] at this
  have hK1 : W1.heap[w.heap.size]? = some (.deferred (some [])) := by
    rw [← hW1]; exact (Below.heap_alloc _ _ _ (by simp)).trans (World.alloc_heap_new w _)
  have hb1w : Below w.heap.size w W1 := by
    rw [← hW1]; exact ((Below.refl _ w).alloc (Nat.le_refl _) _).alloc (by simp) _
  have hb1 : Below w0.heap.size w0 W1 := hb0.trans (hb1w.mono hb0.size)
  refine ⟨w.heap.size + 1, [{ target := .collected w.heap.size, args := #[] }], W1, { target := .fn (.func gf) lb, args := #[.func (.yield (w.heap.size + 1)) #[] #[]] }, W1, gf,
    #[.func (.yield (w.heap.size + 1)) #[] #[]] ++ lb, W1, ?_, ?_, ?_, ?_, fun _ => Nat.le_refl _, ?_⟩
  · rw [← hW1, hrec]; exact run_enterLoop_outer _ _ _ _ _
  · simp only [resolve, hg]
    simp [go_sem]
  · intro f' _; trivial
  · simp [invoke, go_sem, eg]
  · have abide : ∀ {A B : World} {k b : Nat} {o : Option Obj}, w.heap.size + 2 ≤ k → b < w.heap.size + 2 → A.grownBy B (some k) → w.heap.size + 2 ≤ A.heap.size → A.heap[b]? = o → B.heap[b]? = o := fun hk hb hg hs h => by
      rw [← h]
      exact hg.block _ (by omega) (by intro e; injection e with e; omega)
    refine callsIn_wide.2 ((hseq (w.heap.size + 1)
      (fun k pre W => I k pre W ∧ W.heap[w.heap.size + 1]? = some (.loop (rec .ready none)) ∧ W.heap[w.heap.size]? = some (.deferred (some [])) ∧ w.heap.size + 2 ≤ k ∧ w.heap.size + 2 ≤ W.heap.size ∧ k < W.heap.size)
      (fun k pre W => ∃ c, Ix k c pre W ∧ W.heap[w.heap.size + 1]? = some (.loop (rec .done (some c))) ∧ W.heap[w.heap.size]? = some (.deferred (some [])) ∧ w.heap.size + 2 ≤ k ∧ w.heap.size + 2 ≤ W.heap.size)
      W1 hb1
      (fun k s A B hs hg' => ⟨hI k s A B _ hs.1 hg' (fun r e => .inl (by injection e with e; exact e.symm)), abide hs.2.2.2.1 (by omega) hg' hs.2.2.2.2.1 hs.2.1, abide hs.2.2.2.1 (by omega) hg' hs.2.2.2.2.1 hs.2.2.1, hs.2.2.2.1, Nat.le_trans hs.2.2.2.2.1 hg'.size, Nat.lt_of_lt_of_le hs.2.2.2.2.2 hg'.size⟩)
      (fun k s A B hs hg' => by
        obtain ⟨c, hc, hl, hd, hk, hz⟩ := hs
        exact ⟨c, hIx c k s A B _ hc hg' (fun r e => .inl (by injection e with e; exact e.symm)), abide hk (by omega) hg' hz hl, abide hk (by omega) hg' hz hd, hk, Nat.le_trans hz hg'.size⟩)
      ?_ (fun W' k hW' hk hk' => ⟨h0 k W' (hb1w.trans (hW'.mono (by omega))) (by omega) hk', (hW'.block _ (by omega)).trans hL1, (hW'.block _ (by omega)).trans hK1, by omega, by have := hW'.size; omega, hk'⟩)).mono ?_)
    · -- one round
      rintro k pre x V W ⟨hi0, _, _, _, _, _⟩ hg0 ⟨hi, hl, hd, hk, hz, hkl⟩ hok m
      have hlt : w.heap.size + 1 < W.heap.size := (Array.getElem?_eq_some_iff.1 hl).1
      have hy := run_yield (P := P) (args := encs x) hl (by rw [hrec]; exact hps x)
      rw [hrec] at hy
      refine ⟨fn, _, assign, body, hy, roundIn_of_wpIn hfn (wpIn_mono (hround m (w.heap.size + 1) k pre x V W hk hi0 hg0 hi hok hlt hkl) ?_)⟩
      rintro e a₁ W₁ hp
      cases e with
      | normal =>
        obtain ⟨hk1, hbody⟩ := hp
        have hl1 : W₁.heap[w.heap.size + 1]? = some (.loop (rec .ready none)) := hk1.record.trans hl
        have hlt1 : w.heap.size + 1 < W₁.heap.size := (Array.getElem?_eq_some_iff.1 hl1).1
        refine ⟨_, run_beginRound hl1 (by rw [hrec]), wpIn_mono (hbody _ (grownBy_putObj' W₁ (w.heap.size + 1) _)) ?_⟩
        have hl2 : (W₁.putObj (w.heap.size + 1) (.loop { rec .ready none with state := .busy })).heap[w.heap.size + 1]? = some (.loop { rec .ready none with state := .busy }) := World.putObj_heap_same hlt1
        have hd2 : (W₁.putObj (w.heap.size + 1) (.loop { rec .ready none with state := .busy })).heap[w.heap.size]? = some (.deferred (some [])) := (World.putObj_heap_other (by omega)).trans (hk1.marks.trans hd)
        have hw2 : KeepG n₀ k W (W₁.putObj (w.heap.size + 1) (.loop { rec .ready none with state := .busy })) :=
          ⟨hk1.below.trans (KD.grown (grownBy_putObj' W₁ (w.heap.size + 1) _) (fun j e hD => by injection e with e; have := hn₀ j hD; omega)), (World.putObj_heap_other (by omega)).trans hk1.own⟩
        have fin : ∀ (jump : Option Code) (W3 : World), RK w.heap.size n₀ k (W₁.putObj (w.heap.size + 1) (.loop { rec .ready none with state := .busy })) W3 →
            (Instr.endRound (w.heap.size + 1) jump).run P W3 = .ok (.bool jump.isNone) (W3.putObj (w.heap.size + 1) (.loop (rec (if jump.isNone then .ready else .done) jump))) ∧
            W3.heap[w.heap.size + 1]? = some (.loop { rec .ready none with state := .busy }) ∧
            (W3.putObj (w.heap.size + 1) (.loop (rec (if jump.isNone then .ready else .done) jump))).heap[w.heap.size + 1]? = some (.loop (rec (if jump.isNone then .ready else .done) jump)) ∧
            (W3.putObj (w.heap.size + 1) (.loop (rec (if jump.isNone then .ready else .done) jump))).heap[w.heap.size]? = some (.deferred (some [])) ∧ w.heap.size + 2 ≤ (W3.putObj (w.heap.size + 1) (.loop (rec (if jump.isNone then .ready else .done) jump))).heap.size := fun jump W3 hk3 => by
          have hl3 := hk3.record.trans hl2
          have := run_endRound (P := P) jump hl3
          rw [hrec] at this ⊢
          exact ⟨this, by rw [hrec] at hl3; exact hl3, World.putObj_heap_same (Array.getElem?_eq_some_iff.1 hl3).1, (World.putObj_heap_other (by omega)).trans (hk3.marks.trans hd2), by have := (Array.getElem?_eq_some_iff.1 hl3).1; rw [World.putObj_size]; omega⟩
        rintro e a3 W3 hp
        cases e with
        | normal =>
          obtain ⟨hk3, hi3⟩ := hp
          obtain ⟨hr, hl3, hl4, hd4, hz4⟩ := fin none W3 hk3
          exact ⟨_, _, hr, .inl ⟨rfl, ⟨hI k _ _ _ _ hi3 (grownBy_putObj' _ _ _) (fun r e => by injection e with e; omega), hl4, hd4, hk, hz4, by have h1 := hk1.below.size; have h2 := hk3.below.size; rw [World.putObj_size] at h2 ⊢; omega⟩,
            ⟨(hw2.below.trans hk3.below).trans (KD.grown (grownBy_putObj' W3 (w.heap.size + 1) _) (fun j e hD => by injection e with e; have := hn₀ j hD; omega)), (World.putObj_heap_other (by omega)).trans (hk3.own.trans hw2.own)⟩⟩⟩
        | ret =>
          obtain ⟨hk3, hi3⟩ := hp
          obtain ⟨hr, hl3, hl4, hd4, hz4⟩ := fin (some .ret) W3 hk3
          exact ⟨_, _, hr, .inr ⟨rfl, .ret, hIx _ k _ _ _ _ hi3 (grownBy_putObj' _ _ _) (fun r e => by injection e with e; omega), hl4, hd4, hk, hz4⟩⟩
        | exit id =>
          obtain ⟨hk3, hi3⟩ := hp
          obtain ⟨hr, hl3, hl4, hd4, hz4⟩ := fin (some (.exit id)) W3 hk3
          exact ⟨_, _, hr, .inr ⟨rfl, .exit id, hIx _ k _ _ _ _ hi3 (grownBy_putObj' _ _ _) (fun r e => by injection e with e; omega), hl4, hd4, hk, hz4⟩⟩
        | goto t =>
          obtain ⟨hk3, hi3⟩ := hp
          obtain ⟨hr, hl3, hl4, hd4, hz4⟩ := fin (some (.goto t)) W3 hk3
          exact ⟨_, _, hr, .inr ⟨rfl, .goto t, hIx _ k _ _ _ _ hi3 (grownBy_putObj' _ _ _) (fun r e => by injection e with e; omega), hl4, hd4, hk, hz4⟩⟩
        | panic ch => exact hp.elim
        | outgrown => exact hp.elim
      | ret => exact hp.elim
      | exit id => exact hp.elim
      | goto t => exact hp.elim
      | panic ch => exact hp.elim
      | outgrown => exact hp.elim
    · -- behind the iterator
      rintro e W2 ⟨⟨v, rfl⟩, (⟨k, xs, hS, hi, hl, hd, hk, hz, _⟩ | ⟨k, pre, hSp, c, hi, hl, hd, hk, hz⟩)⟩
      · exact ⟨none, _, by have := run_endLoop (P := P) hl (by rw [hrec]; simp); rw [hrec] at this; exact this, hdone k xs _ hk hS (hI k _ _ _ _ hi (grownBy_putObj' _ _ _) (fun r e => by injection e with e; omega)) ((World.putObj_heap_other (by omega)).trans hd)⟩
      · exact ⟨some c, _, by have := run_endLoop (P := P) hl (by rw [hrec]; simp); rw [hrec] at this; exact this, wpIn_wide.2 (hstop k c pre _ hk hSp (hIx c k _ _ _ _ hi (grownBy_putObj' _ _ _) (fun r e => by injection e with e; omega)) ((World.putObj_heap_other (by omega)).trans hd))⟩

section
open Go.Shelf
attribute [local go_sem] Oper.semAt_some
/-- What is told of an element: it is new. -/
def OkF (T : PT) (lo hi : Nat) (at_ : Nat → Nat) (g : Nat) (pre : List (Nat × Value)) (x : Nat × Value) (V W : World) : Prop :=
  pre.length < hi - lo ∧ x.1 = at_ pre.length ∧ PIn (fun b => g < b ∧ V.heap.size ≤ b) W x.2 (T.list.getD x.1 ([], [])).1 (T.list.getD x.1 ([], [])).2

set_option maxRecDepth 100000 in
set_option maxHeartbeats 6400000 in
theorem all_seqF {D : Nat → Prop} {w0 : World} {b1 b2 : Nat} {tu : Option Addr} {T : PT} {A A' : Option Addr} {n n' c c' : Nat} {f t : Bytes} {cl : Bool} (h : Clo D w0 b1 b2 tu T A A' n n' c c' f t cl) :
    SeqF Tryz.prog 62 #[.pointer (some ⟨b1, 0, none⟩), .pointer (some ⟨b2, 0, none⟩)] (fun x : Nat × Value => #[.int .i64 (x.1 : Int), x.2])
      (OkF T (T.belowT (fun k => decide (cmp k f = -1))) (endT T t cl) (fun j => T.belowT (fun k => decide (cmp k f = -1)) + j)) D
      (fun xs => xs.length = endT T t cl - T.belowT (fun k => decide (cmp k f = -1))) (fun pre => 0 < pre.length ∧ pre.length ≤ endT T t cl - T.belowT (fun k => decide (cmp k f = -1))) w0 := fun l J Jx W hW hJ hJx hY h0 => by
  have hC := h.below hW
  obtain ⟨c0, c1, c2, c3⟩ := hC.cells
  have HEN := Lib.hid (ends_any T (.pointer tu) (.agg #[.slice A n c, .slice A' n' c', .bool cl]) f t cl W hC.tin hC.sin hC.sz)
  have hlo := T.belowT_le (fun k => decide (cmp k f = -1))
  have hhi : endT T t cl ≤ T.size := by unfold endT; split; exact T.belowT_le _; exact Nat.le_refl _
  have HC := Lib.hid hC
  generalize T.belowT (fun k => decide (cmp k f = -1)) = lo at *
  generalize endT T t cl = hi at *
  have HY := Lib.hid hY
  have HJ := Lib.hid hJ
  have H0 := Lib.hid h0
  have hsz := hC.sz
  have HSL := Lib.hid T.size_list
  clear h hW hC hY hJ h0
  go_enter Tryz.func62, Tryz.ntmps62
  go_wp2_with fail
  refine HEN.out.mono ?_
  rintro e w1 ⟨rfl, hb1⟩
  have HB1 := Lib.hid hb1
  clear c0 c1 c2 c3 hb1
  obtain ⟨c0, c1, c2, c3⟩ := (HC.out.below HB1.out).cells
  have HWA := Lib.hid (wat_any T (.pointer tu) (lo : Int) w1 (HC.out.below HB1.out).tin (by omega))
  go_wp2_with fail
  refine HWA.out.mono ?_
  rintro e w2 ⟨rfl, h2⟩
  have hh : heldN (lo : Int) T.size = lo := by unfold heldN; rw [if_neg (by omega), if_neg (by omega)]; exact Int.toNat_natCast _
  have HS : Hid (TIn D w2 (.pointer tu) T ∧ Cur w2 w1.heap.size (.pointer tu) ((lo + ([] : List (Nat × Value)).length : Nat) : Int) ∧ J w1.heap.size [] w2) :=
    ⟨((HC.out.below HB1.out).below h2.out.2.1).tin, by have := h2.out.1; rw [hh] at this; exact this, H0.out w2 _ (HB1.out.trans (h2.out.2.1.mono HB1.out.size)) HB1.out.size h2.out.2.2⟩
  have HD : Hid (∀ b, D b → b < w1.heap.size) := (HC.out.below HB1.out).dom
  clear hh h2 HWA c0 c1 c2 c3
  generalize w1.heap.size = g at *
  go_wp2_with fail
  go_loopg [7] (hi - lo) (fun gk v wr => ∃ pre : List (Nat × Value), hi - lo - pre.length = gk ∧ pre.length ≤ hi - lo ∧ Hid (TIn D wr (.pointer tu) T ∧ Cur wr g (.pointer tu) ((lo + pre.length : Nat) : Int) ∧ J g pre wr))
  case atStart => exact ⟨[], rfl, by simp, HS⟩
  case round =>
    obtain ⟨pre, hgk, hpl, hI⟩ := hrel
    have HGK := Lib.hid hgk
    have HPL := Lib.hid (place_any _ g (.pointer tu) _ hI.out.2.1)
    obtain ⟨k, hk⟩ : ∃ k, lo + pre.length = k := ⟨_, rfl⟩
    rw [hk] at HPL
    clear hgk
    by_cases hlt : k < hi
    · have hlt2 : (k : Int) < (hi : Int) := by omega
      have hci : CI _ _ g tu T k := ⟨hI.out.1.imp (fun b _ hb => HD.out b hb), by have := hI.out.2.1; rw [hk] at this; exact this, Kept.refl _ _, by have := HSL.out; omega, hsz⟩
      have HN := Lib.hid (next_yes hci (by have := HSL.out; omega))
      have HK := Lib.hid hk
      have hpl2 : pre.length < hi - lo := by omega
      clear hci hk
      go_wp2_with fail
      refine HPL.out.mono ?_
      rintro e wz ⟨rfl, rfl⟩
      go_wp2_with fail
      refine HPL.out.mono ?_
      rintro e wz ⟨rfl, rfl⟩
      go_wp2_with fail
      refine HN.out.mono ?_
      rintro e w3 ⟨A1, n1, d1, A2, n2, d2, rfl, h3⟩
      have hbn : Below w3.heap.size w3 (w3.alloc (.cells #[.slice A1 n1 d1, .slice A2 n2 d2] 60)) := (Below.refl _ _).alloc (Nat.le_refl _) _
      have hkp : Kept (some g) _ (w3.alloc (.cells #[.slice A1 n1 d1, .slice A2 n2 d2] 60)) := h3.out.2.1.trans (Kept.of hbn)
      have HV : Hid (TIn D (w3.alloc (.cells #[.slice A1 n1 d1, .slice A2 n2 d2] 60)) (.pointer tu) T ∧ Cur (w3.alloc (.cells #[.slice A1 n1 d1, .slice A2 n2 d2] 60)) g (.pointer tu) ((k + 1 : Nat) : Int) ∧ J g pre (w3.alloc (.cells #[.slice A1 n1 d1, .slice A2 n2 d2] 60))) :=
        ⟨hI.out.1.kept hkp (fun b hb e => by injection e with e; subst e; exact Nat.lt_irrefl _ (HD.out _ hb)), (h3.out.2.2.below hbn).cur, HJ.out g pre _ _ hI.out.2.2 hkp.grownBy⟩
      have hok : OkF T lo hi (fun j => lo + j) g pre (k, .agg #[.slice A1 n1 d1, .slice A2 n2 d2]) wr (w3.alloc (.cells #[.slice A1 n1 d1, .slice A2 n2 d2] 60)) :=
        ⟨hpl2, HK.out.symm, (PIn.below h3.out.1 hbn).imp (fun b _ hb => ⟨Nat.lt_of_lt_of_le hI.out.2.1.lt hb, hb⟩)⟩
      have hyy := HY.out g pre (k, .agg #[.slice A1 n1 d1, .slice A2 n2 d2]) _ _ hI.out.2.2 hkp.grownBy HV.out.2.2 hok 0
      have HYY := Lib.hid hyy
      clear h3 hbn hkp hok hyy HN
      go_upto_region 5 with fail
      obtain ⟨fn, tmps, assign, body, hy, hR⟩ := HYY.out
      refine (wpIn_wide (n := 1)).1 ?_
      gi_wp2
      refine hR.mono ?_
      rintro e W3 (⟨rfl, hJ3, hk3⟩ | ⟨rfl, hJx3⟩)
      · have HN3 : Hid (TIn D W3 (.pointer tu) T ∧ Cur W3 g (.pointer tu) ((lo + (pre ++ [(k, (Value.agg #[.slice A1 n1 d1, .slice A2 n2 d2]))]).length : Nat) : Int) ∧ J g (pre ++ [(k, .agg #[.slice A1 n1 d1, .slice A2 n2 d2])]) W3) := by
          refine ⟨HV.out.1.kd hk3.below (fun _ h => h), ?_, hJ3⟩
          rw [show lo + (pre ++ [(k, (Value.agg #[.slice A1 n1 d1, .slice A2 n2 d2]))]).length = k + 1 by have := HK.out; simp; omega]
          exact hk3.own.trans HV.out.2.1
        clear hJ3 hk3 hR hy
        gi_wp2
        go_wp2_with fail
        go_roundg (hi - lo - (pre.length + 1))
        case rel => exact ⟨pre ++ [(k, .agg #[.slice A1 n1 d1, .slice A2 n2 d2])], by simp, by simp; omega, HN3⟩
        case measure => have := HGK.out; omega
      · have HN3 : Hid (Jx g (pre ++ [(k, .agg #[.slice A1 n1 d1, .slice A2 n2 d2])]) W3) := hJx3
        clear hJx3 hR hy
        gi_wp2
        go_wp2_with fail
        refine bodyPost_ret (results_none rfl _ _ _) rfl ?_
        exact ⟨⟨_, rfl⟩, .inr ⟨g, _, ⟨by simp, by simp; omega⟩, HN3.out⟩⟩
    · have hlt2 : ¬ (k : Int) < (hi : Int) := by omega
      have hpe : pre.length = hi - lo := by omega
      have HPE := Lib.hid hpe
      clear hk hpe
      go_wp2_with fail
      refine HPL.out.mono ?_
      rintro e wz ⟨rfl, rfl⟩
      go_wp2_with fail
      go_end0
      exact ⟨⟨_, rfl⟩, .inl ⟨g, pre, HPE.out, hI.out.2.2⟩⟩

set_option maxRecDepth 100000 in
set_option maxHeartbeats 6400000 in
theorem down_seqF {D : Nat → Prop} {w0 : World} {b1 b2 : Nat} {tu : Option Addr} {T : PT} {A A' : Option Addr} {n n' c c' : Nat} {f t : Bytes} {cl : Bool} (h : Clo D w0 b1 b2 tu T A A' n n' c c' f t cl) :
    SeqF Tryz.prog 72 #[.pointer (some ⟨b1, 0, none⟩), .pointer (some ⟨b2, 0, none⟩)] (fun x : Nat × Value => #[.int .i64 (x.1 : Int), x.2])
      (OkF T (T.belowT (fun k => decide (cmp k f = -1))) (endT T t cl) (fun j => endT T t cl - 1 - j)) D
      (fun xs => xs.length = endT T t cl - T.belowT (fun k => decide (cmp k f = -1))) (fun pre => 0 < pre.length ∧ pre.length ≤ endT T t cl - T.belowT (fun k => decide (cmp k f = -1))) w0 := fun l J Jx W hW hJ hJx hY h0 => by
  have hC := h.below hW
  obtain ⟨c0, c1, c2, c3⟩ := hC.cells
  have HEN := Lib.hid (ends_any T (.pointer tu) (.agg #[.slice A n c, .slice A' n' c', .bool cl]) f t cl W hC.tin hC.sin hC.sz)
  have hlo := T.belowT_le (fun k => decide (cmp k f = -1))
  have hhi : endT T t cl ≤ T.size := by unfold endT; split; exact T.belowT_le _; exact Nat.le_refl _
  have HC := Lib.hid hC
  generalize T.belowT (fun k => decide (cmp k f = -1)) = lo at *
  generalize endT T t cl = hi at *
  have HY := Lib.hid hY
  have HJ := Lib.hid hJ
  have H0 := Lib.hid h0
  have hsz := hC.sz
  have HSL := Lib.hid T.size_list
  clear h hW hC hY hJ h0
  go_enter Tryz.func72, Tryz.ntmps72
  go_wp2_with fail
  refine HEN.out.mono ?_
  rintro e w1 ⟨rfl, hb1⟩
  have HB1 := Lib.hid hb1
  clear c0 c1 c2 c3 hb1
  obtain ⟨c0, c1, c2, c3⟩ := (HC.out.below HB1.out).cells
  have HWA := Lib.hid (wat_any T (.pointer tu) (hi : Int) w1 (HC.out.below HB1.out).tin (by omega))
  go_wp2_with fail
  refine HWA.out.mono ?_
  rintro e w2 ⟨rfl, h2⟩
  have hh : heldN (hi : Int) T.size = hi := by unfold heldN; rw [if_neg (by omega), if_neg (by omega)]; exact Int.toNat_natCast _
  have HS : Hid (TIn D w2 (.pointer tu) T ∧ Cur w2 w1.heap.size (.pointer tu) ((hi - ([] : List (Nat × Value)).length : Nat) : Int) ∧ J w1.heap.size [] w2) :=
    ⟨((HC.out.below HB1.out).below h2.out.2.1).tin, by have := h2.out.1; rw [hh] at this; exact this, H0.out w2 _ (HB1.out.trans (h2.out.2.1.mono HB1.out.size)) HB1.out.size h2.out.2.2⟩
  have HD : Hid (∀ b, D b → b < w1.heap.size) := (HC.out.below HB1.out).dom
  clear hh h2 HWA c0 c1 c2 c3
  generalize w1.heap.size = g at *
  go_wp2_with fail
  go_loopg [7] (hi - lo) (fun gk v wr => ∃ pre : List (Nat × Value), hi - lo - pre.length = gk ∧ pre.length ≤ hi - lo ∧ Hid (TIn D wr (.pointer tu) T ∧ Cur wr g (.pointer tu) ((hi - pre.length : Nat) : Int) ∧ J g pre wr))
  case atStart => exact ⟨[], rfl, by simp, HS⟩
  case round =>
    obtain ⟨pre, hgk, hpl, hI⟩ := hrel
    have HGK := Lib.hid hgk
    have HPL := Lib.hid (place_any _ g (.pointer tu) _ hI.out.2.1)
    obtain ⟨k, hk⟩ : ∃ k, hi - pre.length = k := ⟨_, rfl⟩
    rw [hk] at HPL
    clear hgk
    by_cases hlt : lo < k
    · have hlt2 : (lo : Int) < (k : Int) := by omega
      have hci : CI _ _ g tu T k := ⟨hI.out.1.imp (fun b _ hb => HD.out b hb), by have := hI.out.2.1; rw [hk] at this; exact this, Kept.refl _ _, by have := HSL.out; omega, hsz⟩
      have HN := Lib.hid (back_yes hci (by omega))
      have HK := Lib.hid hk
      have hpl2 : pre.length < hi - lo := by omega
      clear hci hk
      go_wp2_with fail
      refine HPL.out.mono ?_
      rintro e wz ⟨rfl, rfl⟩
      go_wp2_with fail
      refine HN.out.mono ?_
      rintro e w3 ⟨A1, n1, d1, A2, n2, d2, rfl, h3⟩
      have hbn : Below w3.heap.size w3 (w3.alloc (.cells #[.slice A1 n1 d1, .slice A2 n2 d2] 60)) := (Below.refl _ _).alloc (Nat.le_refl _) _
      have hkp : Kept (some g) _ (w3.alloc (.cells #[.slice A1 n1 d1, .slice A2 n2 d2] 60)).drew := (h3.out.2.1.trans (Kept.of hbn)).drew
      have HV : Hid (TIn D (w3.alloc (.cells #[.slice A1 n1 d1, .slice A2 n2 d2] 60)).drew (.pointer tu) T ∧ Cur (w3.alloc (.cells #[.slice A1 n1 d1, .slice A2 n2 d2] 60)).drew g (.pointer tu) ((k - 1 : Nat) : Int) ∧ J g pre (w3.alloc (.cells #[.slice A1 n1 d1, .slice A2 n2 d2] 60)).drew) :=
        ⟨hI.out.1.kept hkp (fun b hb e => by injection e with e; subst e; exact Nat.lt_irrefl _ (HD.out _ hb)), (h3.out.2.2.below hbn).cur, HJ.out g pre _ _ hI.out.2.2 hkp.grownBy⟩
      have hok : OkF T lo hi (fun j => hi - 1 - j) g pre (k - 1, .agg #[.slice A1 n1 d1, .slice A2 n2 d2]) wr (w3.alloc (.cells #[.slice A1 n1 d1, .slice A2 n2 d2] 60)).drew :=
        ⟨hpl2, by have := HK.out; show k - 1 = hi - 1 - pre.length; omega, (PIn.below h3.out.1 (below_drew2 hbn)).imp (fun b _ hb => ⟨Nat.lt_of_lt_of_le hI.out.2.1.lt hb, hb⟩)⟩
      have hyy := HY.out g pre (k - 1, .agg #[.slice A1 n1 d1, .slice A2 n2 d2]) _ _ hI.out.2.2 hkp.grownBy HV.out.2.2 hok 0
      have HYY := Lib.hid hyy
      clear h3 hbn hkp hok hyy HN
      have HPL2 := Lib.hid (place_any ((w3.alloc (.cells #[.slice A1 n1 d1, .slice A2 n2 d2] 60)).drew) g (.pointer tu) _ HV.out.2.1)
      go_upto_region 4 with fail
      obtain ⟨fn, tmps, assign, body, hy, hR⟩ := HYY.out
      refine (wpIn_wide (n := 1)).1 ?_
      have hmx : Tryz.prog.follows .mixedOrders = true := by kernel_rfl
      have hRr : RoundIn Fence.wide 0 Tryz.prog l fn tmps assign body (w3.alloc (.cells #[.slice A1 n1 d1, .slice A2 n2 d2] 60)).drew (fun e W' => ∃ r : Bool, e = .returned (.bool r) ∧ Hid ((r = true ∧ J g (pre ++ [(k - 1, Value.agg #[.slice A1 n1 d1, .slice A2 n2 d2])]) W' ∧ KeepG D g (w3.alloc (.cells #[.slice A1 n1 d1, .slice A2 n2 d2] 60)).drew W') ∨ (r = false ∧ Jx g (pre ++ [(k - 1, Value.agg #[.slice A1 n1 d1, .slice A2 n2 d2])]) W'))) := hR.mono (by
        rintro e W' (⟨rfl, h1, h2⟩ | ⟨rfl, h1⟩)
        · exact ⟨true, rfl, .inl ⟨rfl, h1, h2⟩⟩
        · exact ⟨false, rfl, .inr ⟨rfl, h1⟩⟩)
      clear hR
      gi_region_with_o (first
        | (refine ⟨trivial, ?_⟩; gi_at_call 65; refine (callsIn_wide.2 (HPL2.out)).mono ?_; rintro e w' ⟨rfl, rfl⟩)
        | (refine hRr.mono ?_; rintro e W3 ⟨r, rfl, hYr⟩))
      all_goals rcases hYr.out with ⟨rfl, hJ3, hk3⟩ | ⟨rfl, hJx3⟩
      · have HN3 : Hid (TIn D W3 (.pointer tu) T ∧ Cur W3 g (.pointer tu) ((hi - (pre ++ [(k - 1, (Value.agg #[.slice A1 n1 d1, .slice A2 n2 d2]))]).length : Nat) : Int) ∧ J g (pre ++ [(k - 1, .agg #[.slice A1 n1 d1, .slice A2 n2 d2])]) W3) := by
          refine ⟨HV.out.1.kd hk3.below (fun _ h => h), ?_, hJ3⟩
          rw [show hi - (pre ++ [(k - 1, (Value.agg #[.slice A1 n1 d1, .slice A2 n2 d2]))]).length = k - 1 by have := HK.out; simp; omega]
          exact hk3.own.trans HV.out.2.1
        clear hJ3 hk3 hRr hy
        gi_wp2
        go_wp2_with fail
        go_roundg (hi - lo - (pre.length + 1))
        case rel => exact ⟨pre ++ [(k - 1, .agg #[.slice A1 n1 d1, .slice A2 n2 d2])], by simp, by simp; omega, HN3⟩
        case measure => have := HGK.out; omega
      · have HN3 : Hid (Jx g (pre ++ [(k - 1, .agg #[.slice A1 n1 d1, .slice A2 n2 d2])]) W3) := hJx3
        clear hJx3 hRr hy
        gi_wp2
        go_wp2_with fail
        refine bodyPost_ret (results_none rfl _ _ _) rfl ?_
        exact ⟨⟨_, rfl⟩, .inr ⟨g, _, ⟨by simp, by simp; omega⟩, HN3.out⟩⟩
      · have HN3 : Hid (TIn D W3 (.pointer tu) T ∧ Cur W3 g (.pointer tu) ((hi - (pre ++ [(k - 1, (Value.agg #[.slice A1 n1 d1, .slice A2 n2 d2]))]).length : Nat) : Int) ∧ J g (pre ++ [(k - 1, .agg #[.slice A1 n1 d1, .slice A2 n2 d2])]) W3) := by
          refine ⟨HV.out.1.kd hk3.below (fun _ h => h), ?_, hJ3⟩
          rw [show hi - (pre ++ [(k - 1, (Value.agg #[.slice A1 n1 d1, .slice A2 n2 d2]))]).length = k - 1 by have := HK.out; simp; omega]
          exact hk3.own.trans HV.out.2.1
        clear hJ3 hk3 hRr hy
        gi_wp2
        go_wp2_with fail
        go_roundg (hi - lo - (pre.length + 1))
        case rel => exact ⟨pre ++ [(k - 1, .agg #[.slice A1 n1 d1, .slice A2 n2 d2])], by simp, by simp; omega, HN3⟩
        case measure => have := HGK.out; omega
      · have HN3 : Hid (Jx g (pre ++ [(k - 1, .agg #[.slice A1 n1 d1, .slice A2 n2 d2])]) W3) := hJx3
        clear hJx3 hRr hy
        gi_wp2
        go_wp2_with fail
        refine bodyPost_ret (results_none rfl _ _ _) rfl ?_
        exact ⟨⟨_, rfl⟩, .inr ⟨g, _, ⟨by simp, by simp; omega⟩, HN3.out⟩⟩
    · have hlt2 : ¬ (lo : Int) < (k : Int) := by omega
      have hpe : pre.length = hi - lo := by omega
      have HPE := Lib.hid hpe
      clear hk hpe
      go_wp2_with fail
      refine HPL.out.mono ?_
      rintro e wz ⟨rfl, rfl⟩
      go_wp2_with fail
      go_end0
      exact ⟨⟨_, rfl⟩, .inl ⟨g, pre, HPE.out, hI.out.2.2⟩⟩

end


end Go.Proofs.YtphjaebkcimklaaGreatDoor

/- A range over an iterator that keeps state of its own in several blocks, all laid ahead of the first round: its contract, and the caller's law. -/
set_option linter.unusedVariables false
set_option linter.unusedSimpArgs false
namespace Go.Proofs.YtphjaebkcimklaaGreatDoor
open Go.RowKit

/-- Nothing turns but the blocks from lo on, below hi. -/
structure Outs (lo hi : Nat) (A B : World) : Prop where
  os : B.os = A.os
  tape : B.tape = A.tape
  output : B.output = A.output
  size : A.heap.size ≤ B.heap.size
  block : ∀ b, b < A.heap.size → ¬ (lo ≤ b ∧ b < hi) → B.heap[b]? = A.heap[b]?
theorem Outs.refl (lo hi : Nat) (A : World) : Outs lo hi A A := ⟨rfl, rfl, rfl, Nat.le_refl _, fun _ _ _ => rfl⟩
theorem Outs.trans {lo hi : Nat} {A B C : World} (h : Outs lo hi A B) (k : Outs lo hi B C) : Outs lo hi A C :=
  ⟨k.os.trans h.os, k.tape.trans h.tape, k.output.trans h.output, Nat.le_trans h.size k.size, fun b hb hn => (k.block b (Nat.lt_of_lt_of_le hb h.size) hn).trans (h.block b hb hn)⟩
theorem Outs.of {lo hi : Nat} {A B : World} (h : Below A.heap.size A B) : Outs lo hi A B := ⟨h.os, h.tape, h.output, h.size, fun b hb _ => h.block b hb⟩
theorem Outs.wide {lo hi lo' hi' : Nat} {A B : World} (h : Outs lo hi A B) (hl : lo' ≤ lo) (hh : hi ≤ hi') : Outs lo' hi' A B := ⟨h.os, h.tape, h.output, h.size, fun b hb hn => h.block b hb (by omega)⟩
theorem Outs.grown {lo hi : Nat} {A B : World} {row : Option Nat} (h : A.grownBy B row) (hr : ∀ r, row = some r → lo ≤ r ∧ r < hi) : Outs lo hi A B :=
  ⟨h.os, h.tape, h.output, h.size, fun b hb hn => h.block b hb (fun e => hn (hr b e.symm))⟩

/-- An iterator whose own blocks lie from the world's end on, below p. Own: the blocks that the caller's rounds may write. -/
def SeqO {α : Type} (P : Program) (gf : FuncId) (lb : Array Value) (encs : α → Array Value) (Ok : Nat → List α → α → World → Prop) (Own : Nat → Prop) (S Sp : List α → Prop) (w0 : World) : Prop :=
  ∀ (l : Nat) (J Jx : Nat → List α → World → Prop) (W : World), Below w0.heap.size w0 W → w0.heap.size ≤ l ∧ l < W.heap.size →
    (∀ p s A B, J p s A → Outs W.heap.size p A B → J p s B) →
    (∀ p s A B, Jx p s A → Outs W.heap.size p A B → Jx p s B) →
    (∀ p pre x W1, J p pre W1 → Ok p pre x W1 → p ≤ W1.heap.size → YieldW P l (encs x) W1 fun e W' =>
      (e = .returned (.bool true) ∧ J p (pre ++ [x]) W' ∧ KD (fun b => ¬ Own b) W1 W') ∨ (e = .returned (.bool false) ∧ Jx p (pre ++ [x]) W' ∧ KD (fun b => ¬ Own b ∧ b ≠ l) W1 W')) →
    (∀ W' p, Below W.heap.size W W' → W.heap.size ≤ p → p ≤ W'.heap.size → J p [] W') →
    Calls P gf (#[.func (.yield l) #[] #[]] ++ lb) W fun e W' => (∃ v, e = .returned v) ∧ ((∃ p xs, S xs ∧ J p xs W') ∨ (∃ p pre, Sp pre ∧ Jx p pre W'))

def privO {α : Type} (Own : Nat → Prop) (p : Nat) (I : Nat → List α → World → Prop) (Ix : Nat → Code → List α → World → Prop) (xs : List α) (W : World) : Exit → Act → World → Prop
  | .normal, _, W' => KD (fun b => ¬ Own b) W W' ∧ I p xs W'
  | .ret, _, W' => KD (fun b => ¬ Own b) W W' ∧ Ix p .ret xs W'
  | .exit id, _, W' => KD (fun b => ¬ Own b) W W' ∧ Ix p (.exit id) xs W'
  | .goto t, _, W' => KD (fun b => ¬ Own b) W W' ∧ Ix p (.goto t) xs W'
  | .panic _, _, _ => False
  | .outgrown, _, _ => False

theorem wp_rangeFunc_O {α : Type} {P : Program} {g : Operand} {ps : Array Tmp} {assign body : Code} {Q : Exit → Act → World → Prop} {a : Act} {w : World} {gf : Nat} {lb : Array Value}
    (hg : a.eval g = .func (.func gf) #[] lb) (eg : ∀ args w, (callFunc gf args).run P w = .ok (.enter gf args) w)
    {encs : α → Array Value} {Ok : Nat → List α → α → World → Prop} {Own : Nat → Prop} {S Sp : List α → Prop} {w0 : World} (hseq : SeqO P gf lb encs Ok Own S Sp w0) (hb0 : Below w0.heap.size w0 w) (hn₀ : ∀ b, Own b → b < w.heap.size) (hps : ∀ x, (encs x).size = ps.size)
    (I : Nat → List α → World → Prop) (Ix : Nat → Code → List α → World → Prop)
    (hI : ∀ k s A B, w.heap.size + 2 ≤ k → I k s A → Outs w.heap.size k A B → I k s B)
    (hIx : ∀ c k s A B, w.heap.size + 2 ≤ k → Ix k c s A → Outs w.heap.size k A B → Ix k c s B)
    (h0 : ∀ k W', Below w.heap.size w W' → w.heap.size + 2 ≤ k → k ≤ W'.heap.size → I k [] W')
    (hround : ∀ m l k pre x W, w.heap.size + 2 ≤ k → I k pre W → Ok k pre x W → w.heap.size + 1 < W.heap.size → k ≤ W.heap.size →
      assign.wpIn (Fence.wide.inRound l) m P (Exit.then (fun a₁ W₁ => KD (fun b => ¬ Own b) W W₁ ∧ ∀ W₂, W₁.grownBy W₂ (some (w.heap.size + 1)) → body.wpIn (Fence.wide.inRound l) m P (privO Own k I Ix (pre ++ [x]) W₂) a₁ W₂) (fun _ _ _ => False))
        { tmps := (ps.zip (encs x)).foldl (fun t (p, v) => t.setIfInBounds p v) a.tmps, defers := [] } W)
    (hdone : ∀ k xs W, w.heap.size + 2 ≤ k → S xs → I k xs W → W.heap[w.heap.size]? = some (.deferred (some [])) → Q .normal { a with defers := { target := .collected w.heap.size, args := #[] } :: a.defers } W)
    (hstop : ∀ k c pre W, w.heap.size + 2 ≤ k → Sp pre → Ix k c pre W → W.heap[w.heap.size]? = some (.deferred (some [])) → c.wp P Q { a with defers := { target := .collected w.heap.size, args := #[] } :: a.defers } W) :
    (Code.rangeFunc g ps assign body).wp P Q a w := by
  refine (wpIn_wide (n := 1)).1 (wpIn_rangeFunc ?_)
  intro fn hfn
  obtain ⟨rec, hrec⟩ : ∃ rec : LoopState → Option Code → Loop, rec = fun st pe => { state := st, pending := pe, fn, tmps := a.tmps, params := ps, assign, body, defers := w.heap.size } := ⟨_, rfl⟩
  obtain ⟨W1, hW1⟩ : ∃ W1, (w.alloc (.deferred (some []))).alloc (.loop (rec .ready none)) = W1 := ⟨_, rfl⟩
  have hsz : W1.heap.size = w.heap.size + 2 := by rw [← hW1]; simp
  have hL1 : W1.heap[w.heap.size + 1]? = some (.loop (rec .ready none)) := by
    rw [← hW1]; have := World.alloc_heap_new (w.alloc (.deferred (some []))) (.loop (rec .ready none)); rwa [World.size_alloc] at this
  have hK1 : W1.heap[w.heap.size]? = some (.deferred (some [])) := by
    rw [← hW1]; exact (Below.heap_alloc _ _ _ (by simp)).trans (World.alloc_heap_new w _)
  have hb1w : Below w.heap.size w W1 := by
    rw [← hW1]; exact ((Below.refl _ w).alloc (Nat.le_refl _) _).alloc (by simp) _
  have hb1 : Below w0.heap.size w0 W1 := hb0.trans (hb1w.mono hb0.size)
  refine ⟨w.heap.size + 1, [{ target := .collected w.heap.size, args := #[] }], W1, { target := .fn (.func gf) lb, args := #[.func (.yield (w.heap.size + 1)) #[] #[]] }, W1, gf,
    #[.func (.yield (w.heap.size + 1)) #[] #[]] ++ lb, W1, ?_, ?_, ?_, ?_, fun _ => Nat.le_refl _, ?_⟩
  · rw [← hW1, hrec]; exact run_enterLoop_outer _ _ _ _ _
  · simp only [resolve, hg]
    simp [go_sem]
  · intro f' _; trivial
  · simp [invoke, go_sem, eg]
  · have abide : ∀ {A B : World} {k b : Nat} {o : Option Obj}, b < w.heap.size + 2 → Outs W1.heap.size k A B → w.heap.size + 2 ≤ A.heap.size → A.heap[b]? = o → B.heap[b]? = o := fun hb hg hs h => by
      rw [← h]
      exact hg.block _ (by omega) (by omega)
    have nown : ∀ b, w.heap.size ≤ b → ¬ Own b := fun b hb ho => by have := hn₀ b ho; omega
    refine callsIn_wide.2 ((hseq (w.heap.size + 1)
      (fun k pre W => I k pre W ∧ W.heap[w.heap.size + 1]? = some (.loop (rec .ready none)) ∧ W.heap[w.heap.size]? = some (.deferred (some [])) ∧ w.heap.size + 2 ≤ k ∧ w.heap.size + 2 ≤ W.heap.size ∧ k ≤ W.heap.size)
      (fun k pre W => ∃ c, Ix k c pre W ∧ W.heap[w.heap.size + 1]? = some (.loop (rec .done (some c))) ∧ W.heap[w.heap.size]? = some (.deferred (some [])) ∧ w.heap.size + 2 ≤ k ∧ w.heap.size + 2 ≤ W.heap.size)
      W1 hb1 ⟨by have := hb0.size; omega, by omega⟩
      (fun k s A B hs hg' => ⟨hI k s A B hs.2.2.2.1 hs.1 (hg'.wide (by omega) (Nat.le_refl _)), abide (by omega) hg' hs.2.2.2.2.1 hs.2.1, abide (by omega) hg' hs.2.2.2.2.1 hs.2.2.1, hs.2.2.2.1, Nat.le_trans hs.2.2.2.2.1 hg'.size, Nat.le_trans hs.2.2.2.2.2 hg'.size⟩)
      (fun k s A B hs hg' => by
        obtain ⟨c, hc, hl, hd, hk, hz⟩ := hs
        exact ⟨c, hIx c k s A B hk hc (hg'.wide (by omega) (Nat.le_refl _)), abide (by omega) hg' hz hl, abide (by omega) hg' hz hd, hk, Nat.le_trans hz hg'.size⟩)
      ?_ (fun W' k hW' hk hk' => ⟨h0 k W' (hb1w.trans (hW'.mono (by omega))) (by omega) hk', (hW'.block _ (by omega)).trans hL1, (hW'.block _ (by omega)).trans hK1, by omega, by have := hW'.size; omega, hk'⟩)).mono ?_)
    · -- one round
      rintro k pre x W ⟨hi, hl, hd, hk, hz, hkl⟩ hok hple m
      have hlt : w.heap.size + 1 < W.heap.size := (Array.getElem?_eq_some_iff.1 hl).1
      have hy := run_yield (P := P) (args := encs x) hl (by rw [hrec]; exact hps x)
      rw [hrec] at hy
      refine ⟨fn, _, assign, body, hy, roundIn_of_wpIn hfn (wpIn_mono (hround m (w.heap.size + 1) k pre x W hk hi hok hlt hkl) ?_)⟩
      rintro e a₁ W₁ hp
      cases e with
      | normal =>
        obtain ⟨hk1, hbody⟩ := hp
        have hl1 : W₁.heap[w.heap.size + 1]? = some (.loop (rec .ready none)) := (hk1.block _ (nown _ (by omega)) hlt).trans hl
        have hlt1 : w.heap.size + 1 < W₁.heap.size := (Array.getElem?_eq_some_iff.1 hl1).1
        refine ⟨_, run_beginRound hl1 (by rw [hrec]), wpIn_mono (hbody _ (grownBy_putObj' W₁ (w.heap.size + 1) _)) ?_⟩
        have hl2 : (W₁.putObj (w.heap.size + 1) (.loop { rec .ready none with state := .busy })).heap[w.heap.size + 1]? = some (.loop { rec .ready none with state := .busy }) := World.putObj_heap_same hlt1
        have hd2 : (W₁.putObj (w.heap.size + 1) (.loop { rec .ready none with state := .busy })).heap[w.heap.size]? = some (.deferred (some [])) := (World.putObj_heap_other (by omega)).trans ((hk1.block _ (nown _ (Nat.le_refl _)) (by omega)).trans hd)
        have fin : ∀ (jump : Option Code) (W3 : World), KD (fun b => ¬ Own b) (W₁.putObj (w.heap.size + 1) (.loop { rec .ready none with state := .busy })) W3 →
            (Instr.endRound (w.heap.size + 1) jump).run P W3 = .ok (.bool jump.isNone) (W3.putObj (w.heap.size + 1) (.loop (rec (if jump.isNone then .ready else .done) jump))) ∧
            W3.heap[w.heap.size + 1]? = some (.loop { rec .ready none with state := .busy }) ∧
            (W3.putObj (w.heap.size + 1) (.loop (rec (if jump.isNone then .ready else .done) jump))).heap[w.heap.size + 1]? = some (.loop (rec (if jump.isNone then .ready else .done) jump)) ∧
            (W3.putObj (w.heap.size + 1) (.loop (rec (if jump.isNone then .ready else .done) jump))).heap[w.heap.size]? = some (.deferred (some [])) ∧ w.heap.size + 2 ≤ (W3.putObj (w.heap.size + 1) (.loop (rec (if jump.isNone then .ready else .done) jump))).heap.size := fun jump W3 hk3 => by
          have hl3 := (hk3.block _ (nown _ (by omega)) (by rw [World.putObj_size]; exact hlt1)).trans hl2
          have := run_endRound (P := P) jump hl3
          rw [hrec] at this ⊢
          exact ⟨this, by rw [hrec] at hl3; exact hl3, World.putObj_heap_same (Array.getElem?_eq_some_iff.1 hl3).1, (World.putObj_heap_other (by omega)).trans ((hk3.block _ (nown _ (Nat.le_refl _)) (by rw [World.putObj_size]; omega)).trans hd2), by have := (Array.getElem?_eq_some_iff.1 hl3).1; rw [World.putObj_size]; omega⟩
        have off : ∀ {jump : Option Code} {W3 : World}, KD (fun b => ¬ Own b) (W₁.putObj (w.heap.size + 1) (.loop { rec .ready none with state := .busy })) W3 → KD (fun b => ¬ Own b ∧ b ≠ w.heap.size + 1) W (W3.putObj (w.heap.size + 1) (.loop (rec (if jump.isNone then .ready else .done) jump))) := fun hk3 => by
          have hs3 := hk3.size
          have hs1 := hk1.size
          rw [World.putObj_size] at hs3
          exact ⟨hk3.os.trans hk1.os, hk3.tape.trans hk1.tape, hk3.output.trans hk1.output, by rw [World.putObj_size]; omega, fun b hb hlb => (World.putObj_heap_other hb.2).trans ((hk3.block b hb.1 (by rw [World.putObj_size]; omega)).trans ((World.putObj_heap_other hb.2).trans (hk1.block b hb.1 hlb)))⟩
        rintro e a3 W3 hp
        cases e with
        | normal =>
          obtain ⟨hk3, hi3⟩ := hp
          obtain ⟨hr, hl3, hl4, hd4, hz4⟩ := fin none W3 hk3
          have hs3 := hk3.size
          have hs1 := hk1.size
          rw [World.putObj_size] at hs3
          refine ⟨_, _, hr, .inl ⟨rfl, ⟨hI k _ _ _ hk hi3 (Outs.grown (grownBy_putObj' _ _ _) (fun r e => by injection e with e; omega)), hl4, hd4, hk, hz4, by rw [World.putObj_size]; omega⟩, ?_⟩⟩
          refine ⟨hk3.os.trans hk1.os, hk3.tape.trans hk1.tape, hk3.output.trans hk1.output, by rw [World.putObj_size]; omega, fun b hb hlb => ?_⟩
          by_cases hbe : b = w.heap.size + 1
          · subst hbe; exact hl4.trans hl.symm
          · refine (World.putObj_heap_other hbe).trans ((hk3.block b hb (by rw [World.putObj_size]; omega)).trans ?_)
            exact (World.putObj_heap_other hbe).trans (hk1.block b hb hlb)
        | ret =>
          obtain ⟨hk3, hi3⟩ := hp
          obtain ⟨hr, hl3, hl4, hd4, hz4⟩ := fin (some .ret) W3 hk3
          exact ⟨_, _, hr, .inr ⟨rfl, ⟨.ret, hIx _ k _ _ _ hk hi3 (Outs.grown (grownBy_putObj' _ _ _) (fun r e => by injection e with e; omega)), hl4, hd4, hk, hz4⟩, off hk3⟩⟩
        | exit id =>
          obtain ⟨hk3, hi3⟩ := hp
          obtain ⟨hr, hl3, hl4, hd4, hz4⟩ := fin (some (.exit id)) W3 hk3
          exact ⟨_, _, hr, .inr ⟨rfl, ⟨.exit id, hIx _ k _ _ _ hk hi3 (Outs.grown (grownBy_putObj' _ _ _) (fun r e => by injection e with e; omega)), hl4, hd4, hk, hz4⟩, off hk3⟩⟩
        | goto t =>
          obtain ⟨hk3, hi3⟩ := hp
          obtain ⟨hr, hl3, hl4, hd4, hz4⟩ := fin (some (.goto t)) W3 hk3
          exact ⟨_, _, hr, .inr ⟨rfl, ⟨.goto t, hIx _ k _ _ _ hk hi3 (Outs.grown (grownBy_putObj' _ _ _) (fun r e => by injection e with e; omega)), hl4, hd4, hk, hz4⟩, off hk3⟩⟩
        | panic ch => exact hp.elim
        | outgrown => exact hp.elim
      | ret => exact hp.elim
      | exit id => exact hp.elim
      | goto t => exact hp.elim
      | panic ch => exact hp.elim
      | outgrown => exact hp.elim
    · -- behind the iterator
      rintro e W2 ⟨⟨v, rfl⟩, (⟨k, xs, hS, hi, hl, hd, hk, hz, _⟩ | ⟨k, pre, hSp, c, hi, hl, hd, hk, hz⟩)⟩
      · exact ⟨none, _, by have := run_endLoop (P := P) hl (by rw [hrec]; simp); rw [hrec] at this; exact this, hdone k xs _ hk hS (hI k _ _ _ hk hi (Outs.grown (grownBy_putObj' _ _ _) (fun r e => by injection e with e; omega))) ((World.putObj_heap_other (by omega)).trans hd)⟩
      · exact ⟨some c, _, by have := run_endLoop (P := P) hl (by rw [hrec]; simp); rw [hrec] at this; exact this, wpIn_wide.2 (hstop k c pre _ hk hSp (hIx c k _ _ _ hk hi (Outs.grown (grownBy_putObj' _ _ _) (fun r e => by injection e with e; omega))) ((World.putObj_heap_other (by omega)).trans hd))⟩

end Go.Proofs.YtphjaebkcimklaaGreatDoor

/- Groups: the plain law of the beginnings of keys. -/
set_option linter.unusedVariables false
set_option linter.unusedSimpArgs false
namespace Go.Proofs.YtphjaebkcimklaaGreatDoor
open Go.RowKit

abbrev Grps := List (Bytes × Nat)
/-- One key more: what is handed over, and what is counted now. -/
def gAdd (wd : Nat) (s : Grps × Option (Bytes × Nat)) (k : Bytes) : Grps × Option (Bytes × Nat) :=
  match s.2 with
  | none => (s.1, some (k.take wd, 1))
  | some (l, n) => if k.take wd = l then (s.1, some (l, n + 1)) else (s.1 ++ [(l, n)], some (k.take wd, 1))
def gRun (wd : Nat) (M : Pairs) : Grps × Option (Bytes × Nat) := M.foldl (fun s p => gAdd wd s p.1) ([], none)
def grps (wd : Nat) (M : Pairs) : Grps := (gRun wd M).1 ++ (gRun wd M).2.toList
theorem gRun_snoc (wd : Nat) (M : Pairs) (p : Bytes × Bytes) : gRun wd (M ++ [p]) = gAdd wd (gRun wd M) p.1 := by simp [gRun]
theorem gRun_take (wd : Nat) (M : Pairs) (i : Nat) (h : i < M.length) : gRun wd (M.take (i + 1)) = gAdd wd (gRun wd (M.take i)) (M.getD i ([], [])).1 := by
  rw [List.take_succ_eq_append_getElem h, gRun_snoc, List.getD_eq_getElem?_getD, List.getElem?_eq_getElem h, Option.getD_some]
theorem gAdd_pre (wd : Nat) (s : Grps × Option (Bytes × Nat)) (k : Bytes) : s.1 <+: (gAdd wd s k).1 := by
  unfold gAdd
  split
  · exact List.prefix_rfl
  · split
    · exact List.prefix_rfl
    · exact List.prefix_append _ _
theorem gRun_pre (wd : Nat) : ∀ (M' M : Pairs), (gRun wd M).1 <+: (gRun wd (M ++ M')).1
  | [], M => by rw [List.append_nil]; exact List.prefix_rfl
  | p :: M', M => by
    have h1 := gRun_pre wd M' (M ++ [p])
    rw [List.append_assoc, List.singleton_append] at h1
    refine List.IsPrefix.trans ?_ h1
    rw [gRun_snoc]
    exact gAdd_pre wd _ _
theorem gRun_at (wd : Nat) (M : Pairs) (i : Nat) : (gRun wd (M.take i)).1 <+: grps wd M := by
  have := gRun_pre wd (M.drop i) (M.take i)
  rw [List.take_append_drop] at this
  exact this.trans (List.prefix_append _ _)
/-- What has been counted is at least one, and no more than the pairs. -/
theorem gRun_bound (wd : Nat) (M : Pairs) : (gRun wd M).1.length ≤ M.length ∧ (∀ l n, (gRun wd M).2 = some (l, n) → 1 ≤ n ∧ n ≤ M.length ∧ (gRun wd M).1.length + 1 ≤ M.length) ∧ ((gRun wd M).2 = none → M = []) := by
  suffices h : ∀ (M : Pairs) (i : Nat), i ≤ M.length → (gRun wd (M.take i)).1.length ≤ i ∧ (∀ l n, (gRun wd (M.take i)).2 = some (l, n) → 1 ≤ n ∧ n ≤ i ∧ (gRun wd (M.take i)).1.length + 1 ≤ i) ∧ ((gRun wd (M.take i)).2 = none → i = 0) by
    have := h M M.length (Nat.le_refl _)
    rw [List.take_length] at this
    exact ⟨this.1, this.2.1, fun hn => List.eq_nil_of_length_eq_zero (this.2.2 hn)⟩
  intro M i
  induction i with
  | zero => intro _; simp [gRun]
  | succ i ih =>
    intro hi
    obtain ⟨h1, h2, h3⟩ := ih (by omega)
    rw [gRun_take wd M i (by omega)]
    generalize gRun wd (M.take i) = s at *
    obtain ⟨em, cur⟩ := s
    cases cur with
    | none =>
      have h0 := h3 rfl
      subst h0
      have h1' : em.length ≤ 0 := h1
      simp only [gAdd]
      refine ⟨by omega, fun l n e => ?_, fun e => by simp at e⟩
      simp only [Option.some.injEq, Prod.mk.injEq] at e
      omega
    | some c =>
      obtain ⟨l, n⟩ := c
      have h4 := h2 l n rfl
      simp only [gAdd]
      split
      · refine ⟨by simp at h1 ⊢; omega, fun l' n' e => ?_, fun e => by simp at e⟩
        simp only [Option.some.injEq, Prod.mk.injEq] at e
        simp only at h4 ⊢
        omega
      · refine ⟨by simp at h4 ⊢; omega, fun l' n' e => ?_, fun e => by simp at e⟩
        simp only [Option.some.injEq, Prod.mk.injEq] at e
        simp at h4 ⊢
        omega

theorem BIn.take {S : Nat → Prop} {w : World} {A : Option Addr} {n c : Nat} {l : Bytes} (h : BIn S w (.slice A n c) l) (k : Nat) (hk : k ≤ n) : BIn S w (.slice A k c) (l.take k) := by
  obtain ⟨A', n', c', e, h1, h2, h3⟩ := h
  cases e
  refine ⟨_, _, _, rfl, ⟨by omega, by omega⟩, ⟨by rw [List.length_take, h2.len]; omega, by have := h2.le; omega, fun h0 => ?_⟩, fun b o h0 e => h3 b o (by omega) e⟩
  obtain ⟨b, o, e, hlt, hc⟩ := h2.cell (by omega)
  refine ⟨b, o, e, hlt, fun j hj => ?_⟩
  rw [hc j (by omega)]
  simp only [List.getD_eq_getElem?_getD, List.getElem?_take]
  rw [if_pos hj]

end Go.Proofs.YtphjaebkcimklaaGreatDoor
