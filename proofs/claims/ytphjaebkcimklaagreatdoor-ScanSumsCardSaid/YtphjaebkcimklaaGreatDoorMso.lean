/- Texts put together: FSome. -/
import Derived.Test.YtphjaebkcimklaaGreatDoorMr
import Derived.Test.YtphjaebkcimklaaGreatDoorMe
import Derived.Test.YtphjaebkcimklaaGreatDoorMgr
import Derived.Maps.OwnIn
/- scan.some: what of an iterator comes behind some of it, and how many at most. -/
set_option linter.unusedVariables false
set_option linter.unusedSimpArgs false
namespace Go.Proofs.YtphjaebkcimklaaGreatDoor
open Go.RowKit Go.Shelf
attribute [local go_sem] Oper.semAt_some

/-- A list that was made. -/
def GotL (w w' : World) (e : Ending) (L : Pairs) : Prop := ∃ A c, e = .returned (.slice A L.length c) ∧ L.length ≤ c ∧ LIn (New w.heap.size) w' A L.length L ∧ Below w.heap.size w w'

/-- some's loop behind i rounds. -/
structure SI (w : World) (sk mo : Int) (C : Pairs) (k i : Nat) (V : World) (A : Option Addr) (c : Nat) (vs : List Value) : Prop where
  below : Below w.heap.size w V
  q4 : One 3 V w.heap.size (.int .i64 (sk - ((min i sk.toNat : Nat) : Int)))
  q5 : One 3 V (w.heap.size + 1) (.int .i64 mo)
  var : One 69 V (w.heap.size + 1 + 1) (.slice A (sm sk mo (C.take i)).length c)
  own : V.ownsRow (k + 1) 60 2 (.slice A (sm sk mo (C.take i)).length c) (sm sk mo (C.take i)).length vs
  ps : PsOf (fun b => k < b ∧ (Value.slice A (sm sk mo (C.take i)).length c).ownBlock ≠ some b) V vs (sm sk mo (C.take i))
  far : w.heap.size + 1 + 1 + 1 + 2 ≤ k
  lt : k < V.heap.size
theorem SI.kd {w V V' : World} {sk mo : Int} {C : Pairs} {k i : Nat} {A : Option Addr} {c : Nat} {vs : List Value} (h : SI w sk mo C k i V A c vs) (hk : KD (fun b => b ≤ w.heap.size + 1 + 1 ∨ k < b) V V') : SI w sk mo C k i V' A c vs := by
  have hs := h.below.size
  refine ⟨⟨hk.os.trans h.below.os, hk.tape.trans h.below.tape, hk.output.trans h.below.output, Nat.le_trans hs hk.size, fun b hb => (hk.block b (.inl (by omega)) (by omega)).trans (h.below.block b hb)⟩,
    h.q4.block (hk.block _ (.inl (by omega)) h.q4.lt), h.q5.block (hk.block _ (.inl (by omega)) h.q5.lt), h.var.block (hk.block _ (.inl (by omega)) h.var.lt), ?_, h.ps.carry hk.size fun b hb hl => hk.block b (.inr hb.1) hl, h.far, Nat.lt_of_lt_of_le h.lt hk.size⟩
  refine ⟨h.own.1, h.own.2.imp id ?_⟩
  rintro ⟨g, cap, cur, e, hb, hg, hr⟩
  exact ⟨g, cap, cur, e, hb, (hk.block g (.inr (by omega)) (Array.getElem?_eq_some_iff.1 hg).1).trans hg, hr⟩
theorem SI.grown {w V V' : World} {sk mo : Int} {C : Pairs} {k i : Nat} {A : Option Addr} {c : Nat} {vs : List Value} {row : Option Nat} (h : SI w sk mo C k i V A c vs) (hg : V.grownBy V' row) (hr : ∀ r, row = some r → w.heap.size + 1 + 1 < r ∧ r ≤ k) : SI w sk mo C k i V' A c vs :=
  h.kd (KD.grown hg fun r e hD => by have := hr r e; omega)
/-- The next one is skipped, or the skipping is over: only skip is written. -/
theorem SI.skip {w V : World} {sk mo : Int} {C : Pairs} {k i : Nat} {A : Option Addr} {c : Nat} {vs : List Value} (h : SI w sk mo C k i V A c vs) (hi : i < C.length) (hsk : (i : Int) < sk) :
    SI w sk mo C k (i + 1) (V.setCell ⟨w.heap.size, 0, none⟩ (.int .i64 (sk - (i : Int) - 1))) A c vs := by
  have e : sm sk mo (C.take (i + 1)) = sm sk mo (C.take i) := by rw [sm_take _ _ _ _ hi, if_neg (fun h => by omega), List.append_nil]
  have hset : ∀ b, b ≠ w.heap.size → (V.setCell ⟨w.heap.size, 0, none⟩ (.int .i64 (sk - (i : Int) - 1))).heap[b]? = V.heap[b]? := fun b h2 => heap_setCell_other _ _ _ _ (by simpa using h2)
  have hs : (V.setCell ⟨w.heap.size, 0, none⟩ (.int .i64 (sk - (i : Int) - 1))).heap.size = V.heap.size := by simp
  have hf := h.far
  have q := h.q4.set (.int .i64 (sk - (i : Int) - 1))
  have hv : sk - ((min (i + 1) sk.toNat : Nat) : Int) = sk - (i : Int) - 1 := by rw [Nat.min_eq_left (by omega)]; omega
  refine ⟨?_, by rw [hv]; exact q, h.q5.block (hset _ (by omega)), by rw [e]; exact h.var.block (hset _ (by omega)), by rw [e]; exact own_set h.own (fun e2 => by have := (h.own.lt _ e2).1; omega) _ _, by rw [e]; exact h.ps.carry (by rw [hs]; exact Nat.le_refl _) fun b hb _ => hset b (by omega), h.far, by rw [hs]; exact h.lt⟩
  exact h.below.setCell (p := ⟨w.heap.size, 0, none⟩) (Nat.le_refl _) _
theorem SI.step {w V0 V2 w1 : World} {sk mo : Int} {C : Pairs} {k i : Nat} {A : Option Addr} {c g cap : Nat} {vs : List Value} {kv xv : Value} {o : Obj} (h0 : SI w sk mo C k i V0 A c vs) (h : SI w sk mo C k i V2 A c vs) (hs : V0.heap.size ≤ V2.heap.size) (hi : i < C.length)
    (hsk : sk ≤ (i : Int)) (hmo : ((sm sk mo (C.take i)).length : Int) < mo) (hk : BIn (fun b => k < b ∧ V0.heap.size ≤ b) V2 kv (C.getD i ([], [])).1) (hx : BIn (fun b => k < b ∧ V0.heap.size ≤ b) V2 xv (C.getD i ([], [])).2)
    (hown : w1.ownsRow (k + 1) 60 2 (.slice (some ⟨g, 0, none⟩) ((sm sk mo (C.take i)).length + 1) cap) ((sm sk mo (C.take i)).length + 1) (vs ++ [kv, xv]))
    (hgr : (V2.alloc o).grownBy w1 (Value.slice A (sm sk mo (C.take i)).length c).ownBlock) (hat : (Value.slice (some ⟨g, 0, none⟩) ((sm sk mo (C.take i)).length + 1) cap).ownBlock = (Value.slice A (sm sk mo (C.take i)).length c).ownBlock ∨ (Value.slice (some ⟨g, 0, none⟩) ((sm sk mo (C.take i)).length + 1) cap).ownBlock = some (V2.alloc o).heap.size) :
    SI w sk mo C k (i + 1) (w1.setCell ⟨w.heap.size + 1 + 1, 0, none⟩ (.slice (some ⟨g, 0, none⟩) ((sm sk mo (C.take i)).length + 1) cap)) (some ⟨g, 0, none⟩) cap (vs ++ [kv, xv]) ∧
      KD (fun b => b ≠ w.heap.size + 1 + 1 ∧ b ≤ k) V2 (w1.setCell ⟨w.heap.size + 1 + 1, 0, none⟩ (.slice (some ⟨g, 0, none⟩) ((sm sk mo (C.take i)).length + 1) cap)) := by
  have e : sm sk mo (C.take (i + 1)) = sm sk mo (C.take i) ++ [C.getD i ([], [])] := by rw [sm_take _ _ _ _ hi, if_pos ⟨hsk, hmo⟩]
  have hl : (sm sk mo (C.take (i + 1))).length = (sm sk mo (C.take i)).length + 1 := by rw [e, List.length_append, List.length_singleton]
  have hf := h.far
  have hlt := h.lt
  have hrow : ∀ r, (Value.slice A (sm sk mo (C.take i)).length c).ownBlock = some r → k + 1 ≤ r ∧ r < V0.heap.size := fun r e => h0.own.lt r e
  have hsz : (V2.alloc o).heap.size = V2.heap.size + 1 := by simp
  have hgs := hgr.size
  have hat2 : (Value.slice A (sm sk mo (C.take i)).length c).ownBlock = some g ∨ g = V2.heap.size + 1 := by
    rcases hat with e | e
    · exact .inl e.symm
    · rw [hsz] at e; exact .inr (Option.some.inj e)
  have hgk : k < g := by
    rcases hat2 with e | e
    · exact (hrow g e).1
    · omega
  -- a block that is neither the variable's nor the row's
  have far : ∀ b, b < V2.heap.size → b ≠ w.heap.size + 1 + 1 → (Value.slice A (sm sk mo (C.take i)).length c).ownBlock ≠ some b → (w1.setCell ⟨w.heap.size + 1 + 1, 0, none⟩ (.slice (some ⟨g, 0, none⟩) ((sm sk mo (C.take i)).length + 1) cap)).heap[b]? = V2.heap[b]? := by
    intro b hb h1 h2
    rw [heap_setCell_other _ _ _ _ (by simpa using h1), hgr.block b (by omega) (fun e => h2 e.symm), Below.heap_alloc V2 o b hb]
  have low : ∀ b, b ≤ k → (Value.slice A (sm sk mo (C.take i)).length c).ownBlock ≠ some b := fun b hb e => by have := (hrow b e).1; omega
  have hsize : V2.heap.size ≤ (w1.setCell ⟨w.heap.size + 1 + 1, 0, none⟩ (.slice (some ⟨g, 0, none⟩) ((sm sk mo (C.take i)).length + 1) cap)).heap.size := by simp; omega
  have hkd : KD (fun b => b ≠ w.heap.size + 1 + 1 ∧ b ≤ k) V2 (w1.setCell ⟨w.heap.size + 1 + 1, 0, none⟩ (.slice (some ⟨g, 0, none⟩) ((sm sk mo (C.take i)).length + 1) cap)) :=
    ⟨hgr.os, hgr.tape, hgr.output, hsize, fun b hb hl => far b hl hb.1 (low b hb.2)⟩
  have hv : sk - ((min (i + 1) sk.toNat : Nat) : Int) = sk - ((min i sk.toNat : Nat) : Int) := by rw [Nat.min_eq_right (by omega), Nat.min_eq_right (by omega)]
  have hbw := h.below.size
  refine ⟨⟨?_, ?_, ?_, ?_, ?_, ?_, h.far, Nat.lt_of_lt_of_le hlt hsize⟩, hkd⟩
  · exact ⟨hkd.os.trans h.below.os, hkd.tape.trans h.below.tape, hkd.output.trans h.below.output, Nat.le_trans hbw hsize, fun b hb => (hkd.block b ⟨by omega, by omega⟩ (by omega)).trans (h.below.block b hb)⟩
  · rw [hv]; exact h.q4.block (hkd.block _ ⟨by omega, by omega⟩ h.q4.lt)
  · exact h.q5.block (hkd.block _ ⟨by omega, by omega⟩ h.q5.lt)
  · have e1 : w1.heap[w.heap.size + 1 + 1]? = some (.cells #[.slice A (sm sk mo (C.take i)).length c] 69 (0, 0)) := by
      rw [hgr.block _ (by have := h.var.lt; omega) (fun e => low _ (by omega) e.symm), Below.heap_alloc V2 o _ h.var.lt]; exact h.var
    rw [hl]
    have e2 : One 69 w1 (w.heap.size + 1 + 1) _ := e1
    exact e2.set _
  · rw [hl]
    exact own_set hown (by simp [Value.ownBlock]; omega) _ _
  · rw [hl, e]
    have h1 : PsOf (fun b => k < b ∧ (Value.slice (some ⟨g, 0, none⟩) ((sm sk mo (C.take i)).length + 1) cap).ownBlock ≠ some b) (w1.setCell ⟨w.heap.size + 1 + 1, 0, none⟩ (.slice (some ⟨g, 0, none⟩) ((sm sk mo (C.take i)).length + 1) cap)) vs (sm sk mo (C.take i)) := by
      refine PsOf.imp (PsOf.carry (S := fun b => (k < b ∧ (Value.slice A (sm sk mo (C.take i)).length c).ownBlock ≠ some b) ∧ b < V2.heap.size) (h.ps.imp fun b hlt hb => ⟨hb, hlt⟩) hsize fun b hb hl => far b hl (by omega) hb.1.2) fun b _ hb => ⟨hb.1.1, fun e2 => ?_⟩
      have e3 : g = b := Option.some.inj e2
      rcases hat2 with e | e
      · exact hb.1.2 (e3 ▸ e)
      · have := hb.2; omega
    have new : ∀ b, b < V2.heap.size → (k < b ∧ V0.heap.size ≤ b) → k < b ∧ (Value.slice (some ⟨g, 0, none⟩) ((sm sk mo (C.take i)).length + 1) cap).ownBlock ≠ some b := fun b hl hb => ⟨hb.1, fun e2 => by
      have e3 : g = b := Option.some.inj e2
      rcases hat2 with e | e
      · have := (hrow g e).2; omega
      · omega⟩
    have mv : ∀ {v : Value} {l : Bytes}, BIn (fun b => k < b ∧ V0.heap.size ≤ b) V2 v l → BIn (fun b => k < b ∧ (Value.slice (some ⟨g, 0, none⟩) ((sm sk mo (C.take i)).length + 1) cap).ownBlock ≠ some b) (w1.setCell ⟨w.heap.size + 1 + 1, 0, none⟩ (.slice (some ⟨g, 0, none⟩) ((sm sk mo (C.take i)).length + 1) cap)) v l := fun hb =>
      BIn.imp (BIn.carry (S := fun b => (k < b ∧ V0.heap.size ≤ b) ∧ b < V2.heap.size) (hb.imp fun b hlt hb => ⟨hb, hlt⟩) hsize fun b hb hl => far b hl (by omega) (fun e => by have := (hrow b e).2; omega)) fun b _ hb => new b hb.2 hb.1
    exact h1.snoc (mv hk) (mv hx)

def SomeI (w : World) (sk mo : Int) (C : Pairs) (k : Nat) (s : List (Nat × Value)) (V : World) : Prop := ∃ A c vs, SI w sk mo C k s.length V A c vs
def SomeX (w : World) (sk mo : Int) (C : Pairs) (k : Nat) (cd : Code) (V : World) : Prop := cd = .exit 0 ∧ ∃ i A c vs, SI w sk mo C k i V A c vs ∧ sm sk mo (C.take i) = sm sk mo C
theorem leave_markT {F : Fence} {n : Nat} {fn : Func} {R : Ending → World → Prop} {tmps : Array Value} {w : World} {D : Nat} {p : Tmp} (h : fn.results = #[.tmp p]) (hD : w.heap[D]? = some (.deferred (some []))) (hR : R (.returned (tmps.getD p undef)) (w.putObj D (.deferred none))) :
    bodyPostM F n Tryz.prog fn R .ret { tmps := tmps, defers := [{ target := .collected D, args := #[] }] } w :=
  ⟨by simp, .inl ⟨_, _, rfl, run_takeDeferred hD, _, by simp [results, h], hR⟩⟩
theorem SI.rk {D : Nat → Prop} {w V V' : World} {k B : Nat} (hk : KD (fun b => b ≠ w.heap.size ∧ b ≠ w.heap.size + 1 + 1 ∧ b ≤ k) V V') (hD : ∀ b, D b → b < w.heap.size) (hB : B = w.heap.size + 1 + 1 + 1) (hf : w.heap.size + 1 + 1 + 1 + 2 ≤ k) (hl : k < V.heap.size) : RK B D k V V' :=
  ⟨⟨hk.os, hk.tape, hk.output, hk.size, fun b hb hlt => hk.block b (by have := hD b hb; omega) hlt⟩, hk.block _ (by omega) hl, hk.block _ (by omega) (by omega), hk.block _ (by omega) (by omega)⟩
theorem SI.fin {w V : World} {sk mo : Int} {C : Pairs} {k i : Nat} {A : Option Addr} {c : Nat} {vs : List Value} {B : Nat} (h : SI w sk mo C k i V A c vs) (e : sm sk mo (C.take i) = sm sk mo C) (hB : B = w.heap.size + 1 + 1 + 1) : GotL w (V.putObj B (.deferred none)) (.returned (.slice A (sm sk mo (C.take i)).length c)) (sm sk mo C) := by
  have hf := h.far
  have h2 := h.grown (grownBy_putObj' V B (.deferred none)) (fun r e => by injection e with e; omega)
  have hr := reads_own (S := New w.heap.size) h2.own h2.ps rfl (fun b _ hb => by have := hb.1; show w.heap.size ≤ b; omega) (fun b hb => by show w.heap.size ≤ b; omega)
  rw [e] at hr
  exact ⟨A, c, by rw [e], hr.2, hr.1, h2.below⟩

set_option maxRecDepth 100000 in
set_option maxHeartbeats 6400000 in
theorem some_any {gf : Nat} {lb : Array Value} {Ok : Nat → List (Nat × Value) → Nat × Value → World → World → Prop} {D : Nat → Prop} (sk mo : Int) (C : Pairs) (w : World)
    (hseq : SeqF Tryz.prog gf lb (fun x : Nat × Value => #[.int .i64 (x.1 : Int), x.2]) Ok D (fun xs => xs.length = C.length) (fun pre => 0 < pre.length ∧ pre.length ≤ C.length) w)
    (eg : ∀ args w, (callFunc gf args).run Tryz.prog w = .ok (.enter gf args) w) (hD : ∀ b, D b → b < w.heap.size)
    (hOk : ∀ g pre x V W, Ok g pre x V W → pre.length < C.length ∧ PIn (fun b => g < b ∧ V.heap.size ≤ b) W x.2 (C.getD pre.length ([], [])).1 (C.getD pre.length ([], [])).2) (hC : C.length ≤ 100000) (hsk : (Lit.int .i64 sk).wf = true) :
    Calls Tryz.prog 47 #[.func (.func gf) #[] lb, .int .i64 sk, .int .i64 mo] w fun e w' => GotL w w' e (sm sk mo C) := by
  obtain ⟨i0, hi, hz0, hz1, hz2⟩ := info_parts info39b
  have hX : ((w.alloc (.cells #[.int .i64 sk] 3)).alloc (.cells #[.int .i64 mo] 3)).heap.size = w.heap.size + 1 + 1 := by simp
  have hb : Below w.heap.size w (((w.alloc (.cells #[.int .i64 sk] 3)).alloc (.cells #[.int .i64 mo] 3)).alloc (.cells #[.slice none 0 0] 69)) := (((Below.refl _ _).alloc (Nat.le_refl _) _).alloc (by simp) _).alloc (by simp; omega) _
  have q4 : One 3 (((w.alloc (.cells #[.int .i64 sk] 3)).alloc (.cells #[.int .i64 mo] 3)).alloc (.cells #[.slice none 0 0] 69)) w.heap.size (.int .i64 sk) := heap_old _ (heap_old _ (heap_new w _))
  have q5 : One 3 (((w.alloc (.cells #[.int .i64 sk] 3)).alloc (.cells #[.int .i64 mo] 3)).alloc (.cells #[.slice none 0 0] 69)) (w.heap.size + 1) (.int .i64 mo) := by
    have := heap_new (w.alloc (.cells #[.int .i64 sk] 3)) (.cells #[.int .i64 mo] 3)
    rw [World.size_alloc] at this
    exact heap_old _ this
  have q7 : One 69 (((w.alloc (.cells #[.int .i64 sk] 3)).alloc (.cells #[.int .i64 mo] 3)).alloc (.cells #[.slice none 0 0] 69)) (w.heap.size + 1 + 1) (.slice none 0 0) := by
    have := heap_new ((w.alloc (.cells #[.int .i64 sk] 3)).alloc (.cells #[.int .i64 mo] 3)) (.cells #[.slice none 0 0] 69)
    rw [hX] at this
    exact this
  have hXs : (((w.alloc (.cells #[.int .i64 sk] 3)).alloc (.cells #[.int .i64 mo] 3)).alloc (.cells #[.slice none 0 0] 69)).heap.size = w.heap.size + 1 + 1 + 1 := by simp
  have HX := Lib.hid (And.intro hb (And.intro q4 (And.intro q5 (And.intro q7 hXs))))
  have HOK := Lib.hid hOk
  have HD := Lib.hid hD
  have HSK : Hid (-9223372036854775808 ≤ sk ∧ sk ≤ 9223372036854775807) := by
    have := hsk
    simp [Lit.wf, IntKind.min, IntKind.max, IntKind.signed, IntKind.bits] at this
    exact ⟨by omega, by omega⟩
  have HC := Lib.hid hC
  clear hX hb q4 q5 q7 hXs hOk hD hsk hC
  refine (callsIn_wide (n := 1)).1 (callsIn_of_wp_marks Tryz.func47 rfl trivial ((wpIn_wide (n := 1)).2 ?_) rfl)
  simp only [Tryz.ntmps47, List.size_toArray, List.length_cons, List.length_nil, Nat.reduceAdd, Nat.reduceSub, Array.replicate_succ, Array.replicate_zero, List.push_toArray, List.append_toArray, List.nil_append, List.cons_append]
  go_upto_region 2 with fail
  generalize ((w.alloc (.cells #[.int .i64 sk] 3)).alloc (.cells #[.int .i64 mo] 3)).alloc (.cells #[.slice none 0 0] 69) = X at *
  go_wp2_with fail
  refine wp_rangeFunc_F (gf := gf) (lb := lb) (by rfl) eg hseq HX.out.1 (fun b hb => by have h1 := HD.out b hb; have h2 := HX.out.2.2.2.2; omega) (fun _ => rfl)
    (fun k s V => SomeI w sk mo C k s V)
    (fun k cd s V => SomeX w sk mo C k cd V)
    ?hI ?hIx ?h0 ?round ?done ?stop
  case hI =>
    rintro k s A0 B0 row ⟨A, c, vs, h⟩ hg hr
    have hf := h.far
    have hxs := HX.out.2.2.2.2
    exact ⟨A, c, vs, h.grown hg fun r e => by rcases hr r e with e | e | e <;> omega⟩
  case hIx =>
    rintro cd k s A0 B0 row ⟨h0, i, A, c, vs, h, h2⟩ hg hr
    have hf := h.far
    have hxs := HX.out.2.2.2.2
    exact ⟨h0, i, A, c, vs, h.grown hg (fun r e => by rcases hr r e with e | e | e <;> omega), h2⟩
  case h0 =>
    intro k V hV hk hkl
    have hxs := HX.out.2.2.2.2
    obtain ⟨h1, h2, h3, h4, _⟩ := HX.out
    refine ⟨none, 0, [], h1.trans (hV.mono h1.size), ?_, h3.below hV h3.lt, ?_, ?_, ?_, by omega, hkl⟩
    · have := h2.below hV h2.lt
      simpa using this
    · have := h4.below hV h4.lt
      simpa [sm] using this
    · simp [sm]; exact World.ownsRow_nil _ _ _ _
    · exact ⟨by simp [sm], fun j hj => by simp [sm] at hj⟩
  case round =>
    rintro m' l' k pre ⟨i, v⟩ V0 V hk ⟨A, c, vs, h0⟩ hg0 _ hok hlt hkl
    obtain ⟨hpl, kv, xv, rfl, hk1, hx1⟩ := HOK.out _ _ _ _ _ hok
    obtain ⟨A1, n1, c1, rfl⟩ := hk1.slice
    obtain ⟨A2, n2, c2, rfl⟩ := hx1.slice
    have hxs := HX.out.2.2.2.2
    have hf := h0.far
    have hV := h0.grown hg0 (fun r e => by injection e with e; omega)
    have hbw : Below V.heap.size V (V.alloc (.cells #[.slice A1 n1 c1, .slice A2 n2 c2] 60)) := (Below.refl _ _).alloc (Nat.le_refl _) _
    have htw : Two (V.alloc (.cells #[.slice A1 n1 c1, .slice A2 n2 c2] 60)) V.heap.size (.slice A1 n1 c1) (.slice A2 n2 c2) := heap_new V _
    have HH := Lib.hid (And.intro h0 (And.intro hV (And.intro hk1 (And.intro hx1 (And.intro hbw (And.intro htw hg0.size))))))
    have HPL := Lib.hid hpl
    clear h0 hV hk1 hx1 hbw htw hg0 hok hpl
    gi_wp2
    refine ⟨RK.of HH.out.2.2.2.2.1 hkl hlt, fun V2 hg2 => ?_⟩
    have hsz2 : V.heap.size < V2.heap.size := Nat.lt_of_lt_of_le (by simp) hg2.size
    have hkd : KD (fun b => b ≤ w.heap.size + 1 + 1 ∨ k < b) V V2 := (KD.of HH.out.2.2.2.2.1).trans (KD.grown hg2 fun r e hD => by injection e with e; omega)
    have HI2 : Hid (SI w sk mo C k pre.length V2 A c vs) := HH.out.2.1.kd hkd
    have HBX : Hid (Two V2 V.heap.size (.slice A1 n1 c1) (.slice A2 n2 c2)) := (hg2.block V.heap.size (by simp) (by intro e; injection e with e; omega)).trans HH.out.2.2.2.2.2.1
    have HK2 : Hid (BIn (fun b => k < b ∧ V0.heap.size ≤ b) V2 (.slice A1 n1 c1) (C.getD pre.length ([], [])).1 ∧ BIn (fun b => k < b ∧ V0.heap.size ≤ b) V2 (.slice A2 n2 c2) (C.getD pre.length ([], [])).2 ∧ V0.heap.size ≤ V2.heap.size) :=
      ⟨HH.out.2.2.1.carry hkd.size fun b hb hl => hkd.block b (.inr hb.1) hl, HH.out.2.2.2.1.carry hkd.size fun b hb hl => hkd.block b (.inr hb.1) hl, Nat.le_trans HH.out.2.2.2.2.2.2 hkd.size⟩
    have H0 := Lib.hid HH.out.1
    clear HH hkd hg2
    obtain ⟨d0, d1⟩ := HBX.out.cells
    have y4 := HI2.out.q4.cell
    have z4 := HI2.out.q4.frozen
    have y5 := HI2.out.q5.cell
    have y7 := HI2.out.var.cell
    have z7 := HI2.out.var.frozen
    have hkk := HI2.out.lt
    have HXS : Hid (X.heap.size = w.heap.size + 1 + 1 + 1) := hxs
    obtain ⟨G, hG⟩ : ∃ G, (sm sk mo (C.take pre.length)).length = G := ⟨_, rfl⟩
    by_cases hs : (pre.length : Int) < sk
    · have e4 : sk - ((min pre.length sk.toNat : Nat) : Int) = sk - (pre.length : Int) := by rw [Nat.min_eq_left (by omega)]
      rw [e4] at y4
      have hp : 0 < sk - (pre.length : Int) := by omega
      have hsk := HSK.out
      have hw : IntKind.i64.wrap (sk - (pre.length : Int) - 1) = sk - (pre.length : Int) - 1 := i64_small (by omega)
      have hset : KD (fun b => b ≠ w.heap.size ∧ b ≠ w.heap.size + 1 + 1 ∧ b ≤ k) V2 (V2.setCell ⟨w.heap.size, 0, none⟩ (.int .i64 (sk - (pre.length : Int) - 1))) := ⟨rfl, rfl, rfl, by simp, fun b hb _ => heap_setCell_other _ _ _ _ (by simpa using hb.1)⟩
      have HFIN := Lib.hid (And.intro (SI.rk hset HD.out HXS.out hf hkk) (HI2.out.skip HPL.out hs))
      clear hset hsk e4 hG
      gi_wp2
      exact ⟨HFIN.out.1, A, c, vs, by rw [List.length_append]; exact HFIN.out.2⟩
    · have hn4 : ¬ 0 < sk - ((min pre.length sk.toNat : Nat) : Int) := by omega
      have hs2 : sk ≤ (pre.length : Int) := by omega
      generalize sk - ((min pre.length sk.toNat : Nat) : Int) = v4 at y4 hn4
      by_cases hm : mo ≤ (G : Int)
      · have HE : Hid (sm sk mo (C.take pre.length) = sm sk mo C) := sm_full sk mo C pre.length hs2 (by rw [hG]; exact hm)
        rw [hG] at y7
        clear hG
        gi_wp2
        exact ⟨RK.refl _ _ _ _, rfl, pre.length, A, c, vs, HI2.out, HE.out⟩
      · have hm2 : ¬ mo ≤ (G : Int) := hm
        have hmo : ((sm sk mo (C.take pre.length)).length : Int) < mo := by rw [hG]; omega
        have hGC : G ≤ C.length := by rw [← hG, sm_len, List.length_take]; omega
        have HST : Hid (∀ (w1 : World) (g cap : Nat), w1.ownsRow (k + 1) 60 2 (.slice (some ⟨g, 0, none⟩) (G + 1) cap) (G + 1) (vs ++ [.slice A1 n1 c1, .slice A2 n2 c2]) → (V2.alloc (.cells #[.slice A1 n1 c1, .slice A2 n2 c2] 60)).grownBy w1 (Value.slice A G c).ownBlock →
            ((Value.slice (some ⟨g, 0, none⟩) (G + 1) cap).ownBlock = (Value.slice A G c).ownBlock ∨ (Value.slice (some ⟨g, 0, none⟩) (G + 1) cap).ownBlock = some (V2.alloc (.cells #[.slice A1 n1 c1, .slice A2 n2 c2] 60)).heap.size) →
            (SI w sk mo C k (pre.length + 1) (w1.setCell ⟨w.heap.size + 1 + 1, 0, none⟩ (.slice (some ⟨g, 0, none⟩) (G + 1) cap)) (some ⟨g, 0, none⟩) cap (vs ++ [.slice A1 n1 c1, .slice A2 n2 c2]) ∧
            RK X.heap.size D k V2 (w1.setCell ⟨w.heap.size + 1 + 1, 0, none⟩ (.slice (some ⟨g, 0, none⟩) (G + 1) cap))) ∧ One 69 w1 (w.heap.size + 1 + 1) (.slice A G c)) := fun w1 g cap h1 h2 h3 => by
          have hst := SI.step (kv := .slice A1 n1 c1) (xv := .slice A2 n2 c2) (o := .cells #[.slice A1 n1 c1, .slice A2 n2 c2] 60) (g := g) (cap := cap) (w1 := w1) H0.out HI2.out HK2.out.2.2 HPL.out hs2 hmo HK2.out.1 HK2.out.2.1
          rw [hG] at hst
          have h4 := hst h1 h2 h3
          refine ⟨⟨h4.1, SI.rk ⟨h4.2.os, h4.2.tape, h4.2.output, h4.2.size, fun b hb hl => h4.2.block b ⟨hb.2.1, hb.2.2⟩ hl⟩ HD.out HXS.out hf hkk⟩, ?_⟩
          have hv := HI2.out.var
          rw [hG] at hv
          have hlt7 := hv.lt
          exact hv.block ((h2.block _ (by simp; omega) (fun e => by
            have := (HI2.out.own.lt (w.heap.size + 1 + 1) (by rw [hG]; exact e.symm)).1; omega)).trans (Below.heap_alloc V2 _ _ hlt7))
        have HOW : Hid (V2.ownsRow (k + 1) 60 2 (.slice A G c) G vs) := by
          have := HI2.out.own
          rw [hG] at this
          exact this
        have hC5 := HC.out
        rw [hG] at y7
        clear hG hmo
        gi_wp2_with (gi_at_builtin; refine wpListIn_append_own_at _ rfl _ _ 69 rfl (k + 1) 60 i0 (.agg #[.slice none 0 0, .slice none 0 0]) 2 48 Tryz.underlying69 hi hz0 hz1 hz2 rfl (by decide) _ G vs rfl (HOW.out.alloc _) ⟨V2.heap.size, 0, none⟩ 1 1 [.slice A1 n1 c1, .slice A2 n2 c2] rfl rfl (by have := World.news_of_block (heap_new V2 (.cells #[.slice A1 n1 c1, .slice A2 n2 c2] 60)); simpa using this) (by intro u hu; simp at hu; rcases hu with rfl | rfl <;> rfl) ?c3 ?c4 ?c5 ?_)
        case c3 => unfold maxLen; omega
        case c4 => omega
        case c5 => omega
        intro v' w1 hown1 hgrow _ hat
        obtain ⟨g', cap', rfl⟩ := ownsRow_succ hown1
        have hst := HST.out w1 g' cap' hown1 hgrow (by rw [World.size_alloc]; exact hat)
        have HFIN := Lib.hid hst.1
        have y7' := hst.2.cell
        have z7' := hst.2.frozen
        clear hst hown1 hgrow hat
        gi_wp2
        exact ⟨HFIN.out.2, _, _, _, by rw [List.length_append]; exact HFIN.out.1⟩
  case done =>
    rintro k s V hk hS ⟨A, c, vs, h⟩ hK
    rw [hS] at h
    have y7 := h.var.cell
    have hF := h.fin (by rw [List.take_length]) HX.out.2.2.2.2
    rw [List.take_length] at hF y7
    have HF := Lib.hid hF
    have HK := Lib.hid hK
    clear h hK hF
    go_wp2_with fail
    exact leave_markT rfl HK.out HF.out
  case stop =>
    rintro k cd s V hk hS ⟨rfl, i, A, c, vs, h, h2⟩ hK
    have y7 := h.var.cell
    have hF := h.fin h2 HX.out.2.2.2.2
    rw [h2] at hF y7
    have HF := Lib.hid hF
    have HK := Lib.hid hK
    clear h hK hF
    go_wp2_with fail
    exact leave_markT rfl HK.out HF.out

end Go.Proofs.YtphjaebkcimklaaGreatDoor
