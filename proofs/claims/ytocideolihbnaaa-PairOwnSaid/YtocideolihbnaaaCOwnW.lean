/- Bytes written into new blocks; the reference's Same. -/
import Derived.Test.YtocideolihbnaaaCOwnF
import Derived.Test.YtocideolihbnaaaLComes
import Derived.Laws.StructEq
import Derived.Deep.Heap
set_option linter.unusedVariables false
set_option linter.unusedSimpArgs false
namespace Go.Proofs.Ytocideolihbnaaa
open Go.RowKit Stab

theorem cell_lt' {W : World} {a : Addr} {v : Value} (h : W.cell? a = some v) : a.block < W.heap.size := by
  unfold World.cell? at h
  split at h
  · rename_i c e f hb
    exact (Array.getElem?_eq_some_iff.1 hb).1
  · cases h
theorem cell_blk {A B : World} {a : Addr} (h : B.heap[a.block]? = A.heap[a.block]?) : B.cell? a = A.cell? a := by unfold World.cell?; rw [h]
/-- What is left by bytes put into unfrozen blocks from H on. -/
structure Wr (H : Nat) (W W' : World) : Prop where
  below : Below H W W'
  size : W.heap.size ≤ W'.heap.size
  keep : ∀ a v, W.cell? a = some v → (∀ x, v ≠ .int .u8 x) → W'.cell? a = some v
  byte : ∀ a x, W.cell? a = some (.int .u8 x) → ∃ y, W'.cell? a = some (.int .u8 y)
  nf : ∀ b, Nf W b → Nf W' b
theorem Wr.refl (H : Nat) (W : World) : Wr H W W := ⟨Below.refl _ _, Nat.le_refl _, fun _ _ h _ => h, fun _ x h => ⟨x, h⟩, fun _ h => h⟩
theorem Wr.trans {H : Nat} {A B C : World} (h : Wr H A B) (h' : Wr H B C) : Wr H A C :=
  ⟨⟨h'.below.os.trans h.below.os, h'.below.tape.trans h.below.tape, h'.below.output.trans h.below.output, Nat.le_trans h.size h'.size, fun b hb => (h'.below.block b hb).trans (h.below.block b hb)⟩, Nat.le_trans h.size h'.size, fun a v hv hn => h'.keep a v (h.keep a v hv hn) hn, fun a x hx => by
    obtain ⟨y, hy⟩ := h.byte a x hx
    exact h'.byte a y hy, fun b hb => h'.nf b (h.nf b hb)⟩
theorem Wr.of_below {H : Nat} {A B : World} (hH : H ≤ A.heap.size) (h : Below A.heap.size A B) : Wr H A B :=
  ⟨h.mono hH, h.size, fun a v hv _ => (cell_blk (h.block a.block (cell_lt' hv))).trans hv, fun a x hx => ⟨x, (cell_blk (h.block a.block (cell_lt' hx))).trans hx⟩, fun b hb => hb.same (h.block b hb.lt)⟩
theorem Nf.free {W : World} {b : Nat} (h : Nf W b) (o : Nat) : W.frozen? ⟨b, o, none⟩ = false := by
  obtain ⟨arr, T, h⟩ := h
  simp [World.frozen?, h]
theorem Nf.setCell {W : World} {b : Nat} (h : Nf W b) (b' o : Nat) (v : Value) : Nf (W.setCell ⟨b', o, none⟩ v) b := by
  obtain ⟨arr, T, h⟩ := h
  by_cases e : b = b'
  · subst e
    exact ⟨arr.setIfInBounds o v, T, by simp [World.setCell, Array.getElem?_modify, h]⟩
  · exact ⟨arr, T, (Go.Deep.blk_setCell_other W ⟨b', o, none⟩ v b e).trans h⟩
theorem Wr.set {H b o : Nat} {W : World} {x y : Int} (hc : W.cell? ⟨b, o, none⟩ = some (.int .u8 x)) (hH : H ≤ b) : Wr H W (W.setCell ⟨b, o, none⟩ (.int .u8 y)) := by
  have hs : (W.setCell ⟨b, o, none⟩ (.int .u8 y)).heap.size = W.heap.size := by simp
  refine ⟨⟨rfl, rfl, rfl, by omega, fun k hk => Go.Deep.blk_setCell_other _ _ _ _ (by show k ≠ b; omega)⟩, by omega, fun a v hv hn => ?_, fun a z hz => ?_, fun k hk => hk.setCell _ _ _⟩
  · by_cases e : (⟨b, o, none⟩ : Addr) = a
    · subst e; rw [hc] at hv; injection hv with hv; exact absurd hv.symm (hn x)
    · exact (World.cell?_setCell_other W _ _ _ e).trans hv
  · by_cases e : (⟨b, o, none⟩ : Addr) = a
    · subst e; exact ⟨y, World.cell?_setCell_same W _ _ hc⟩
    · exact ⟨z, (World.cell?_setCell_other W _ _ _ e).trans hz⟩

/-- A slice of bytes that may be written. -/
def SW (H : Nat) (W : World) (v : Value) : Prop := ∃ A n c, v = .slice A n c ∧ n ≤ 100000 ∧ (0 < n → ∃ b o, A = some ⟨b, o, none⟩ ∧ H ≤ b ∧ Nf W b ∧ ∀ i, i < n → ∃ x, W.cell? ⟨b, o + i, none⟩ = some (.int .u8 x))
theorem SW.wr {H : Nat} {W W' : World} {v : Value} (h : SW H W v) (hw : Wr H W W') : SW H W' v := by
  obtain ⟨A, n, c, rfl, h5, h⟩ := h
  exact ⟨A, n, c, rfl, h5, fun hn => by
    obtain ⟨b, o, e, h1, h2, h3⟩ := h hn
    exact ⟨b, o, e, h1, hw.nf b h2, fun i hi => by
      obtain ⟨x, hx⟩ := h3 i hi
      exact hw.byte _ x hx⟩⟩
theorem SW.of {H : Nat} {W : World} {v : Value} {l : Bytes} (h : BIn (New H) W v l) (hf : NfV W v) : SW H W v := by
  obtain ⟨A, n, c, rfl, h5, hr, hs⟩ := h
  refine ⟨A, n, c, rfl, h5.2, fun hn => ?_⟩
  obtain ⟨b, o, rfl, hc⟩ : ∃ b o, A = some ⟨b, o, none⟩ ∧ ∀ i, i < n → ∃ x, W.cell? ⟨b, o + i, none⟩ = some (.int .u8 x) := by
    obtain ⟨b, o, e, _, hc⟩ := hr.cell hn
    exact ⟨b, o, e, fun i hi => ⟨_, hc i hi⟩⟩
  exact ⟨b, o, rfl, hs b o hn rfl, hf _ n c b o rfl hn rfl, hc⟩
/-- A row of pairs of such slices. -/
def PW (H : Nat) (W : World) (A : Option Addr) (n : Nat) : Prop := 0 < n → ∃ b o, A = some ⟨b, o, none⟩ ∧ ∀ j, j < n → ∃ kv xv, W.cell? ⟨b, o + j * 2, none⟩ = some kv ∧ W.cell? ⟨b, o + j * 2 + 1, none⟩ = some xv ∧ SW H W kv ∧ SW H W xv
theorem PW.wr {H : Nat} {W W' : World} {A : Option Addr} {n : Nat} (h : PW H W A n) (hw : Wr H W W') : PW H W' A n := fun hn => by
  obtain ⟨b, o, e, h⟩ := h hn
  refine ⟨b, o, e, fun j hj => ?_⟩
  obtain ⟨kv, xv, h1, h2, h3, h4⟩ := h j hj
  refine ⟨kv, xv, hw.keep _ _ h1 ?_, hw.keep _ _ h2 ?_, h3.wr hw, h4.wr hw⟩
  · obtain ⟨_, _, _, e, _⟩ := h3; subst e; intro x e; cases e
  · obtain ⟨_, _, _, e, _⟩ := h4; subst e; intro x e; cases e
theorem PW.of {H n : Nat} {W : World} {A : Option Addr} {L : Pairs} (h : LIn (New H) W A n L) (hf : NfR W A n) : PW H W A n := fun hn => by
  obtain ⟨b, o, e, _, _, hc⟩ := h.cell hn
  obtain ⟨b', o', e', hf⟩ := hf hn
  rw [e] at e'
  injection e' with e'
  injection e' with e1 e2
  subst e1 e2
  refine ⟨b, o, e, fun j hj => ?_⟩
  obtain ⟨kv, xv, h1, h2, h3, h4⟩ := hc j hj
  obtain ⟨kv', xv', g1, g2, g3, g4⟩ := hf j hj
  rw [h1] at g1
  rw [h2] at g2
  injection g1 with g1
  injection g2 with g2
  subst g1 g2
  exact ⟨kv, xv, h1, h2, SW.of h3 g3, SW.of h4 g4⟩

theorem neq56 (w : World) (a b c d : ByteArray) : (binOp .neq 56 (.agg #[.string a, .string b]) (.agg #[.string c, .string d])).run Try.prog w = .ok (.bool (!(a.toList == c.toList && b.toList == d.toList))) w := by
  have u9 := Try.underlying9
  have hS : Try.prog.underlying 56 = some (.struct (Try.prog.fieldsOf 56)) := by kernel_rfl
  have hp : Try.prog.stoodInHeld 56 = false := by kernel_rfl
  rw [run_neq_struct, show (10000 : Nat) = 9999 + 1 from rfl, run_equalIn_agg w 9999 56 _ _ hS hp]
  simp only [Program.fieldsOf, Try.underlying56]
  go_simp
  by_cases h1 : a.toList = c.toList <;> by_cases h2 : b.toList = d.toList <;> simp [h1, h2]

set_option maxRecDepth 100000 in
set_option maxHeartbeats 1600000 in
theorem rsame_any {S S' : Nat → Prop} (L M : Pairs) (A A' : Option Addr) (n n' c c' : Nat) (w : World) (hL : MIn S w A n L) (hM : MIn S' w A' n' M) (hn : n ≤ 1000000) (hn' : n' ≤ 1000000) :
    Calls Try.prog 16 #[.slice A n c, .slice A' n' c'] w fun e w' => e = .returned (.bool (decide (L = M))) ∧ Below w.heap.size w w' := by
  have HL := Lib.hid hL
  have HM := Lib.hid hM
  clear hL hM
  by_cases hlen : n = n'
  · subst hlen
    go_enter Try.func16, Try.ntmps16
    go_wp2_with fail
    go_loopw [13] (fun v wr => ∃ (j : Nat), v = .int .i64 (j : Int) ∧ j ≤ n ∧ Hid ((∀ i, i < j → L.getD i ([], []) = M.getD i ([], [])) ∧ Below w.heap.size w wr)) (fun v _ => n - (intOf v).toNat)
    case atStart => exact ⟨0, rfl, by omega, Lib.hid ⟨fun i hi => by omega, Below.refl _ _⟩⟩
    case round =>
      obtain ⟨j, rfl, hj, hI⟩ := hrel
      by_cases hlt : j < n
      · obtain ⟨b, o, rfl, hbl, hSb, hc⟩ := (HL.out.below hI.out.2).cell (by omega)
        obtain ⟨b', o', rfl, hbl', hSb', hc'⟩ := (HM.out.below hI.out.2).cell (by omega)
        obtain ⟨c0, c1⟩ := hc j hlt
        obtain ⟨d0, d1⟩ := hc' j hlt
        have HB := Lib.hid (fun i => hI.out.2.trans ((below_drewN' (w := wr) i).mono hI.out.2.size))
        simp only [bs] at c0 c1 d0 d1
        obtain ⟨sk, hsk⟩ : ∃ sk, strO (L.getD j ([], [])).1 = sk := ⟨_, rfl⟩
        obtain ⟨sx, hsx⟩ : ∃ sx, strO (L.getD j ([], [])).2 = sx := ⟨_, rfl⟩
        obtain ⟨tk, htk⟩ : ∃ sk, strO (M.getD j ([], [])).1 = sk := ⟨_, rfl⟩
        obtain ⟨tx, htx⟩ : ∃ sx, strO (M.getD j ([], [])).2 = sx := ⟨_, rfl⟩
        rw [hsk] at c0
        rw [hsx] at c1
        rw [htk] at d0
        rw [htx] at d1
        have HEK : Hid (sk = tk ↔ (L.getD j ([], [])).1 = (M.getD j ([], [])).1) := ⟨fun e => by rw [← hsk, ← htk] at e; have := congrArg strL e; rwa [strL_strO, strL_strO] at this, fun e => by rw [← hsk, ← htk, e]⟩
        have HEX : Hid (sx = tx ↔ (L.getD j ([], [])).2 = (M.getD j ([], [])).2) := ⟨fun e => by rw [← hsx, ← htx] at e; have := congrArg strL e; rwa [strL_strO, strL_strO] at this, fun e => by rw [← hsx, ← htx, e]⟩
        have al : (0 : Int) ≤ (j : Int) := by omega
        have al3 : (j : Int) < (n : Int) := by omega
        clear hc hc' hsk hsx htk htx
        have hq := fun w => neq56 w sk sx tk tx
        by_cases hek : sk = tk ∧ sx = tx
        · obtain ⟨hek, hex⟩ := hek
          have HN : Hid (∀ i, i < j + 1 → L.getD i ([], []) = M.getD i ([], [])) := fun i hi => by
            rcases Nat.lt_succ_iff_lt_or_eq.1 hi with h | rfl
            · exact hI.out.1 i h
            · exact Prod.ext (HEK.out.1 hek) (HEX.out.1 hex)
          subst hek hex
          simp only [beq_self_eq_true, Bool.and_self, Bool.not_true] at hq
          go_wp2_with fail
          go_quiet (fail)
          go_wp2_with fail
          go_roundw
          case rel => exact ⟨j + 1, by go_num, by omega, Lib.hid ⟨HN.out, HB.out nq⟩⟩
          case measure => simp [intOf]; omega
        · have HR : Hid (decide (L = M) = false) := decide_eq_false fun e => hek ⟨HEK.out.2 (by rw [e]), HEX.out.2 (by rw [e])⟩
          have hb : (!(sk.toList == tk.toList && sx.toList == tx.toList)) = true := by
            rw [text_eq, text_eq, ← Bool.decide_and, decide_eq_false hek]; rfl
          simp only [hb] at hq
          clear hb hek
          go_wp2_with fail
          go_quiet (fail)
          go_wp2_with fail
          go_ret
          exact ⟨by rw [HR.out]; rfl, HB.out nq⟩
      · obtain rfl : j = n := by omega
        have HR : Hid (decide (L = M) = true) := decide_eq_true (pairs_ext (by rw [HL.out.len, HM.out.len]) fun i hi => hI.out.1 i (by rw [HL.out.len] at hi; exact hi))
        go_wp2_with fail
        go_ret
        exact ⟨by rw [HR.out]; rfl, hI.out.2⟩
  · have hl2 : ¬ (n : Int) = (n' : Int) := by omega
    have HR : Hid (decide (L = M) = false) := decide_eq_false fun e => hlen (by rw [← HL.out.len, e, HM.out.len])
    rw [HR.out]
    clear hlen
    go_enter Try.func16, Try.ntmps16
    go_wp2_with fail
    go_ret
    exact ⟨rfl, Below.refl _ _⟩

end Go.Proofs.Ytocideolihbnaaa
