/- The law TreeStays. -/
import Derived.Test.YtlnlgahokifolaaTClone
set_option linter.unusedVariables false
set_option linter.unusedSimpArgs false
namespace Go.Proofs.Ytlnlgahokifolaa
open Go.RowKit Go.Deep

/-- What the law keeps: two own rows, of trees and of maps, and the tree and the map in hand. -/
structure St (w W : World) (j : Nat) (u A : Option Addr) (c : Nat) (T : PT) (U : Option Addr) (cu : Nat) (V : Option Addr) (cv : Nat) (us ms : List Value) (Ts : List PT) : Prop where
  ou : W.ownsRow w.heap.size 25 1 (.slice U j cu) j us
  om : W.ownsRow w.heap.size 26 1 (.slice V j cv) j ms
  ne : ∀ g, (Value.slice U j cu).ownBlock = some g → (Value.slice V j cv).ownBlock ≠ some g
  cur : Pt (fun b => (Value.slice U j cu).ownBlock ≠ some b ∧ (Value.slice V j cv).ownBlock ≠ some b) W u A c T j
  len : Ts.length = j
  kept : ∀ i, i < j → ∃ u A c, us[i]? = some (.pointer u) ∧ ms[i]? = some (.slice A (Ts.getD i .nil).list.length c) ∧ Pt (fun b => (Value.slice U j cu).ownBlock ≠ some b ∧ (Value.slice V j cv).ownBlock ≠ some b) W u A c (Ts.getD i .nil) 80
  below : Below w.heap.size w W
def Sts (w W : World) (j : Nat) (u A : Option Addr) (c : Nat) (T : PT) (U : Option Addr) (cu : Nat) (V : Option Addr) (cv : Nat) : Prop := ∃ us ms Ts, St w W j u A c T U cu V cv us ms Ts
theorem Pt.nil (S : Nat → Prop) (W : World) : Pt S W none none 0 .nil 0 :=
  ⟨rfl, ⟨rfl, fun h => by simp [PT.list] at h⟩, by simp [PT.list], trivial, List.Pairwise.nil, by simp [PT.list], by simp [PT.size]⟩
theorem Sts.start (w W : World) (h : Below w.heap.size w W) : Sts w W 0 none none 0 .nil none 0 none 0 :=
  ⟨[], [], [], World.ownsRow_nil _ _ _ _, World.ownsRow_nil _ _ _ _, fun g e => by simp [Value.ownBlock] at e, Pt.nil _ _, rfl, fun i hi => by omega, h⟩

theorem own_keep {w w1 : World} {base : Nat} {e : TypeId} {size n : Nat} {v : Value} {xs : List Value} (h : w.ownsRow base e size v n xs) (hs : w.heap.size ≤ w1.heap.size) (hb : ∀ k, v.ownBlock = some k → w1.heap[k]? = w.heap[k]?) : w1.ownsRow base e size v n xs := by
  refine ⟨h.1, ?_⟩
  rcases h.2 with h2 | ⟨g, cap, cur, hv, h3, hg, h4⟩
  · exact .inl h2
  · exact .inr ⟨g, cap, cur, hv, h3, (hb g (by rw [hv]; rfl)).trans hg, h4⟩
theorem St.carry {w W W' : World} {j : Nat} {u A : Option Addr} {c : Nat} {T : PT} {U : Option Addr} {cu : Nat} {V : Option Addr} {cv : Nat} {us ms : List Value} {Ts : List PT} (h : St w W j u A c T U cu V cv us ms Ts) (hb : Below W.heap.size W W') : St w W' j u A c T U cu V cv us ms Ts :=
  ⟨own_below h.ou hb, own_below h.om hb, h.ne, h.cur.below hb, h.len, fun i hi => by
    obtain ⟨u, A, c, h1, h2, h3⟩ := h.kept i hi
    exact ⟨u, A, c, h1, h2, h3.below hb⟩, h.below.trans (hb.mono h.below.size)⟩
theorem St.next {w W7 w8 w9 : World} {j : Nat} {U : Option Addr} {cu : Nat} {V : Option Addr} {cv : Nat} {us ms : List Value} {Ts : List PT} {u A : Option Addr} {c : Nat} {T : PT} {o1 o2 : Obj} {U' : Option Addr} {cu' : Nat} {V' : Option Addr} {cv' : Nat}
    (ou : W7.ownsRow w.heap.size 25 1 (.slice U j cu) j us) (om : W7.ownsRow w.heap.size 26 1 (.slice V j cv) j ms) (ne : ∀ g, (Value.slice U j cu).ownBlock = some g → (Value.slice V j cv).ownBlock ≠ some g)
    (cur : Pt (fun b => (Value.slice U j cu).ownBlock ≠ some b ∧ (Value.slice V j cv).ownBlock ≠ some b) W7 u A c T (j + 1)) (len : Ts.length = j) (hj : j < 80)
    (kept : ∀ i, i < j → ∃ u A c, us[i]? = some (.pointer u) ∧ ms[i]? = some (.slice A (Ts.getD i .nil).list.length c) ∧ Pt (fun b => (Value.slice U j cu).ownBlock ≠ some b ∧ (Value.slice V j cv).ownBlock ≠ some b) W7 u A c (Ts.getD i .nil) 80)
    (below : Below w.heap.size w W7)
    (h8 : w8.ownsRow w.heap.size 25 1 (.slice U' (j + 1) cu') (j + 1) (us ++ [.pointer u])) (g8 : (W7.alloc o1).grownBy w8 (Value.slice U j cu).ownBlock) (a8 : (Value.slice U' (j + 1) cu').ownBlock = (Value.slice U j cu).ownBlock ∨ (Value.slice U' (j + 1) cu').ownBlock = some (W7.alloc o1).heap.size)
    (h9 : w9.ownsRow w.heap.size 26 1 (.slice V' (j + 1) cv') (j + 1) (ms ++ [.slice A T.list.length c])) (g9 : (w8.alloc o2).grownBy w9 (Value.slice V j cv).ownBlock) (a9 : (Value.slice V' (j + 1) cv').ownBlock = (Value.slice V j cv).ownBlock ∨ (Value.slice V' (j + 1) cv').ownBlock = some (w8.alloc o2).heap.size) :
    Sts w w9 (j + 1) u A c T U' cu' V' cv' := by
  have s7 : (W7.alloc o1).heap.size = W7.heap.size + 1 := by simp
  have s8 : (w8.alloc o2).heap.size = w8.heap.size + 1 := by simp
  have q8 := g8.size
  have q9 := g9.size
  have lU := fun k (e : (Value.slice U j cu).ownBlock = some k) => ou.lt k e
  have lV := fun k (e : (Value.slice V j cv).ownBlock = some k) => om.lt k e
  have lU' := fun k (e : (Value.slice U' (j + 1) cu').ownBlock = some k) => h8.lt k e
  -- old blocks but the two rows stay
  have far : ∀ b, b < W7.heap.size → (Value.slice U j cu).ownBlock ≠ some b → (Value.slice V j cv).ownBlock ≠ some b → w9.heap[b]? = W7.heap[b]? := fun b hb h1 h2 =>
    (g9.block b (by omega) (fun e => h2 e.symm)).trans ((Below.heap_alloc w8 o2 b (by omega)).trans ((g8.block b (by omega) (fun e => h1 e.symm)).trans (Below.heap_alloc W7 o1 b hb)))
  have put : ∀ {u A c T n}, Pt (fun b => (Value.slice U j cu).ownBlock ≠ some b ∧ (Value.slice V j cv).ownBlock ≠ some b) W7 u A c T n → Pt (fun b => (Value.slice U' (j + 1) cu').ownBlock ≠ some b ∧ (Value.slice V' (j + 1) cv').ownBlock ≠ some b) w9 u A c T n := fun {u A c T n} h => by
    have h1 : Pt (fun b => ((Value.slice U j cu).ownBlock ≠ some b ∧ (Value.slice V j cv).ownBlock ≠ some b) ∧ b < W7.heap.size) W7 u A c T n := h.imp fun b hlt hb => ⟨hb, hlt⟩
    refine (h1.carry (by omega) fun b hb hlt => far b hlt hb.1.1 hb.1.2).imp fun b _ hb => ⟨fun e => ?_, fun e => ?_⟩
    · rcases a8 with a | a
      · exact hb.1.1 (a ▸ e)
      · rw [a] at e; injection e with e; have := hb.2; omega
    · rcases a9 with a | a
      · exact hb.1.2 (a ▸ e)
      · rw [a] at e; injection e with e; have := hb.2; omega
  refine ⟨us ++ [.pointer u], ms ++ [.slice A T.list.length c], Ts ++ [T], own_keep h8 (by omega) fun k hk => ?_, h9, fun g e1 e2 => ?_, put cur, by simp [len], fun i hi => ?_, ?_⟩
  · have hlt := (lU' k hk).2
    refine (g9.block k (by omega) fun e => ?_).trans (Below.heap_alloc w8 o2 k hlt)
    have := (lV k e.symm).2
    rcases a8 with a | a
    · exact ne k (a ▸ hk) e.symm
    · rw [a] at hk; injection hk with hk; omega
  · have h1 := (lU' g e1).2
    rcases a8 with a | a
    · rcases a9 with a' | a'
      · exact ne g (a ▸ e1) (a' ▸ e2)
      · rw [a'] at e2; injection e2 with e2; omega
    · rcases a9 with a' | a'
      · rw [a'] at e2; have := (lV g e2).2; rw [a] at e1; injection e1 with e1; omega
      · rw [a'] at e2; injection e2 with e2; omega
  · have hul : us.length = j := by have := ou.1; omega
    have hml : ms.length = j := by have := om.1; omega
    by_cases hlt : i < j
    · obtain ⟨u', A', c', h1, h2, h3⟩ := kept i hlt
      have e : (Ts ++ [T]).getD i .nil = Ts.getD i .nil := by simp [List.getD_eq_getElem?_getD, List.getElem?_append_left (show i < Ts.length by omega)]
      rw [e]
      exact ⟨u', A', c', by rw [List.getElem?_append_left (by omega)]; exact h1, by rw [List.getElem?_append_left (by omega)]; exact h2, put h3⟩
    · obtain rfl : i = j := by omega
      have e : (Ts ++ [T]).getD i .nil = T := by simp [List.getD_eq_getElem?_getD, ← len]
      rw [e]
      have hp := put cur
      exact ⟨u, A, c, by rw [List.getElem?_append_right (by omega), hul]; simp, by rw [List.getElem?_append_right (by omega), hml]; simp, ⟨hp.tin, hp.min, hp.cap, hp.even, hp.asc, hp.keys, by have := hp.size; omega⟩⟩
  · have b1 : Below w.heap.size w (W7.alloc o1) := below.alloc below.size o1
    have b2 : Below w.heap.size w w8 := b1.grown g8 b1.size (fun k e => (lU k e).1)
    have b3 : Below w.heap.size w (w8.alloc o2) := b2.alloc b2.size o2
    exact b3.grown g9 b3.size (fun k e => (lV k e).1)

theorem info25 : (Try.prog.info? 25).map (fun i => (i.zero, i.size, i.bytes)) = some (some (.pointer none), 1, 8) := by kernel_rfl
theorem info26 : (Try.prog.info? 26).map (fun i => (i.zero, i.size, i.bytes)) = some (some (.slice none 0 0), 1, 24) := by kernel_rfl
/-- What the law keeps, in the midst of a round. -/
structure Midw (w W : World) (j : Nat) (u A : Option Addr) (c : Nat) (T : PT) (U : Option Addr) (cu : Nat) (V : Option Addr) (cv : Nat) (us ms : List Value) (Ts : List PT) : Prop where
  ou : W.ownsRow w.heap.size 25 1 (.slice U j cu) j us
  om : W.ownsRow w.heap.size 26 1 (.slice V j cv) j ms
  cur : Pt (fun b => (Value.slice U j cu).ownBlock ≠ some b ∧ (Value.slice V j cv).ownBlock ≠ some b) W u A c T (j + 1)
  kept : ∀ i, i < j → ∃ u A c, us[i]? = some (.pointer u) ∧ ms[i]? = some (.slice A (Ts.getD i .nil).list.length c) ∧ Pt (fun b => (Value.slice U j cu).ownBlock ≠ some b ∧ (Value.slice V j cv).ownBlock ≠ some b) W u A c (Ts.getD i .nil) 80
  below : Below w.heap.size w W
theorem Midw.on {w W W' : World} {j : Nat} {u A : Option Addr} {c : Nat} {T : PT} {U : Option Addr} {cu : Nat} {V : Option Addr} {cv : Nat} {us ms : List Value} {Ts : List PT} (h : Midw w W j u A c T U cu V cv us ms Ts) (hb : Below W.heap.size W W') : Midw w W' j u A c T U cu V cv us ms Ts :=
  ⟨own_below h.ou hb, own_below h.om hb, h.cur.below hb, fun i hi => by
    obtain ⟨u, A, c, h1, h2, h3⟩ := h.kept i hi
    exact ⟨u, A, c, h1, h2, h3.below hb⟩, h.below.trans (hb.mono h.below.size)⟩
/-- The step has come, own bytes are written. -/
theorem St.mid {w W Y wc w3 W' : World} {j : Nat} {u A : Option Addr} {c : Nat} {T : PT} {U : Option Addr} {cu : Nat} {V : Option Addr} {cv : Nat} {us ms : List Value} {Ts : List PT} {u2 A2 : Option Addr} {c2 : Nat} {T2 : PT} {D : Nat → Prop}
    (h : St w W j u A c T U cu V cv us ms Ts) (h1 : Below W.heap.size W Y) (h2 : Below Y.heap.size Y wc) (h3 : Below wc.heap.size wc w3) (hD : ∀ b, D b ↔ (Y.heap.size ≤ b ∧ b < wc.heap.size))
    (hcur : Pt (Up (fun b => ((Value.slice U j cu).ownBlock ≠ some b ∧ (Value.slice V j cv).ownBlock ≠ some b) ∧ b < Y.heap.size) wc.heap.size) w3 u2 A2 c2 T2 (j + 1)) (hW : Wr D w3 W') : Midw w W' j u2 A2 c2 T2 U cu V cv us ms Ts := by
  have b3 : Below W.heap.size W w3 := (h1.trans (h2.mono h1.size)).trans (h3.mono (Nat.le_trans h1.size h2.size))
  have s1 := h1.size
  have s2 := h2.size
  have s3 := h3.size
  have bW : Below W.heap.size W W' := ⟨hW.os.trans b3.os, hW.tape.trans b3.tape, hW.output.trans b3.output, Nat.le_trans b3.size hW.size, fun b hb => (hW.block b (by omega) (fun hd => by have := (hD b).1 hd; omega)).trans (b3.block b hb)⟩
  refine ⟨own_below h.ou bW, own_below h.om bW, (hcur.wr hW fun b _ hb hd => ?_).imp fun b _ hb => ?_, fun i hi => ?_, h.below.trans (bW.mono h.below.size)⟩
  · have := (hD b).1 hd
    rcases hb with hb | hb
    · have := hb.2; omega
    · omega
  · rcases hb with hb | hb
    · exact hb.1
    · exact ⟨fun e => by have := (h.ou.lt b e).2; omega, fun e => by have := (h.om.lt b e).2; omega⟩
  · obtain ⟨u, A, c, k1, k2, k3⟩ := h.kept i hi
    exact ⟨u, A, c, k1, k2, k3.below bW⟩

theorem is_tree {S S' : Nat → Prop} (T : PT) (A A' : Option Addr) (c c' : Nat) (w : World) (hL : LIn S w A T.list.length T.list) (hM : MIn S' w A' T.list.length T.list) (hn : T.size ≤ 1000000) :
    Calls Try.prog 16 #[.slice A T.size c, .slice A' T.list.length c'] w fun e w' => e = .returned (.bool true) ∧ Below w.heap.size w w' := by
  have := mis_any T.list A A' T.list.length c c' w hL hM (by rw [PT.size_list]; exact hn)
  have e : (Value.slice A T.size c) = .slice A T.list.length c := by rw [PT.size_list]
  rw [e]
  exact this.mono fun e w' ⟨h, q, hq⟩ => ⟨h, hq ▸ below_drewN' q⟩

set_option maxRecDepth 100000 in
set_option maxHeartbeats 1600000 in
theorem stays_any (A : Option Addr) (n c : Nat) (L : List (Int × Bytes × Bytes)) (w : World) (h : Ops w A n L) :
    Calls Try.prog 4 #[.slice A n c] w fun e w' => e = .returned (.bool true) ∧ Below w.heap.size w w' := by
  have HO := Lib.hid h
  have HF := Lib.hid (fine_any A n c L 40 w h (by omega))
  clear h
  go_enter Try.func4, Try.ntmps4
  go_wp2_with fail
  refine HF.out.mono ?_
  rintro e w1 ⟨r, rfl, hr, hb1⟩
  have HB1 := Lib.hid hb1
  clear hb1
  cases r with
  | false =>
    clear hr
    go_wp2_with fail
    refine (awake_any w1).mono ?_
    rintro e w2 ⟨rfl, hb2⟩
    have HB2 : Hid (Below w.heap.size w w2) := HB1.out.trans (hb2.mono HB1.out.size)
    clear hb2
    go_wp2_with fail
    go_ret
    exact ⟨rfl, HB2.out⟩
  | true =>
    have HFI := Lib.hid (hr rfl)
    have hn40 : n ≤ 40 := by have := (hr rfl).1; rw [HO.out.len] at this; exact this
    clear hr
    go_wp2_with fail
    go_loopw [3, 4, 5, 6, 22] (fun t x us ms v wr => ∃ (j : Nat) (u A' : Option Addr) (c' : Nat) (T : PT) (U : Option Addr) (cu : Nat) (V : Option Addr) (cv : Nat), t = .pointer u ∧ x = .slice A' T.list.length c' ∧ us = .slice U j cu ∧ ms = .slice V j cv ∧ v = .int .i64 (j : Int) ∧ j ≤ n ∧ Hid (Sts w wr j u A' c' T U cu V cv)) (fun _ _ _ _ v _ => n - (intOf v).toNat)
    case atStart => exact ⟨0, none, none, 0, .nil, none, 0, none, 0, rfl, rfl, rfl, rfl, rfl, by omega, Lib.hid (Sts.start w _ HB1.out)⟩
    case round =>
      obtain ⟨j, u, A', c', T, U, cu, V, cv, rfl, rfl, rfl, rfl, rfl, hj, hI⟩ := hrel
      obtain ⟨us, ms, Ts, hSt⟩ := hI.out
      have HST := Lib.hid hSt
      by_cases hlt : j < n
      · obtain ⟨b, o, rfl, hbl, hc⟩ := (HO.out.below hSt.below).cell (by omega)
        obtain ⟨kv, xv, c0, c1, c2, hk, hx⟩ := hc j hlt
        have hmem : L.getD j (0, [], []) ∈ L := by
          have hjl : j < L.length := by rw [HO.out.len]; exact hlt
          rw [List.getD_eq_getElem?_getD, List.getElem?_eq_getElem hjl, Option.getD_some]; exact List.getElem_mem hjl
        have hfl := HFI.out.2 _ hmem
        obtain ⟨op, hop⟩ : ∃ op, (L.getD j (0, [], [])).1 = op := ⟨_, rfl⟩
        obtain ⟨k, hkk⟩ : ∃ k, (L.getD j (0, [], [])).2.1 = k := ⟨_, rfl⟩
        obtain ⟨x, hxx⟩ : ∃ k, (L.getD j (0, [], [])).2.2 = k := ⟨_, rfl⟩
        rw [hop] at c0
        rw [hkk] at hk hfl
        rw [hxx] at hx hfl
        have hOI : OIn (fun _ => True) wr (.agg #[.int .i64 op, kv, xv]) op k x := OIn.of hk hx hfl.1 hfl.2
        obtain ⟨Ak, nk, ck, rfl, _⟩ := hk
        obtain ⟨Ax, nx, cx, rfl, _⟩ := hx
        have hbx : Below wr.heap.size wr (wr.alloc (.cells #[.int .i64 op, .slice Ak nk ck, .slice Ax nx cx] 29)) := (Below.refl _ _).alloc (Nat.le_refl _) _
        have HBX := Lib.hid hbx
        have hO2 := hOI.below hbx
        have hK2 : BIn (fun _ => True) (wr.alloc (.cells #[.int .i64 op, .slice Ak nk ck, .slice Ax nx cx] 29)) (.slice Ak nk ck) k := by
          obtain ⟨_, _, e, h1, h2⟩ := hO2; cases e; exact h1
        have hX2 : BIn (fun _ => True) (wr.alloc (.cells #[.int .i64 op, .slice Ak nk ck, .slice Ax nx cx] 29)) (.slice Ax nx cx) x := by
          obtain ⟨_, _, e, h1, h2⟩ := hO2; cases e; exact h2
        have HK2 := Lib.hid hK2
        have HX2 := Lib.hid hX2
        have HFL := Lib.hid hfl
        have HBOX : Hid ((wr.alloc (.cells #[.int .i64 op, .slice Ak nk ck, .slice Ax nx cx] 29)).heap[wr.heap.size]? = some (.cells #[.int .i64 op, .slice Ak nk ck, .slice Ax nx cx] 29 (0, 0))) := heap_new wr _
        have al : (0 : Int) ≤ (j : Int) := by omega
        have al3 : (j : Int) < (n : Int) := by omega
        have HI := Lib.hid hI
        clear hI hc hmem hfl hop hkk hxx hOI hbx hO2 hK2 hX2 hSt
        go_upto_region 2 with fail
        obtain ⟨g0, hg0⟩ : ∃ g, wr.heap.size = g := ⟨_, rfl⟩
        obtain ⟨Y, hYY⟩ : ∃ Y, wr.alloc (.cells #[.int .i64 op, .slice Ak nk ck, .slice Ax nx cx] 29) = Y := ⟨_, rfl⟩
        have HG0 := Lib.hid hg0
        rw [hYY] at HK2 HX2 HBOX HBX ⊢
        rw [hg0] at HBOX
        simp only [hg0]
        clear hYY hg0
        have HGL : Hid (g0 < Y.heap.size) := (Array.getElem?_eq_some_iff.1 HBOX.out).1
        have HCY : Hid (∀ W, Below Y.heap.size Y W → W.cell? ⟨g0, 0, none⟩ = some (.int .i64 op) ∧ W.cell? ⟨g0, 1, none⟩ = some (.slice Ak nk ck) ∧ W.cell? ⟨g0, 2, none⟩ = some (.slice Ax nx cx)) := fun W h => by
          have h2 := (h.block g0 HGL.out).trans HBOX.out
          exact ⟨cell_of_row W g0 0 _ _ _ h2, cell_of_row W g0 1 _ _ _ h2, cell_of_row W g0 2 _ _ _ h2⟩
        go_cut [9] (fun v wx => ∃ g A1 n1 c1 A2 n2 c2, v = .pointer (some ⟨g, 0, none⟩) ∧ Hid (Ob Y wx g op A1 n1 c1 A2 n2 c2 k x))
        case first =>
          go_region_held3 (fun W => W.cell? ⟨g0, 0, none⟩ = some (.int .i64 op) ∧ W.cell? ⟨g0, 1, none⟩ = some (.slice Ak nk ck) ∧ W.cell? ⟨g0, 2, none⟩ = some (.slice Ax nx cx))
            (first | (refine HCY.out _ ?_; (repeat (first | with_reducible exact Below.refl _ _ | with_reducible exact HBb.out | with_reducible exact HBa.out | with_reducible refine by_drew ?_ | with_reducible refine by_alloc ?_ _)); done) | with_reducible exact HCY.out _ OB.out.below | with_reducible exact HCY.out _ (by_drew OB.out.below))
            (first
              | (refine step_clone _ (by rfl) (.tmp 28) (.tmp 30) (by rfl) _ rfl (Em.at_ (Y := Y) ?_) (.slice Ak nk ck) k rfl (HK2.out.below ?_) ?_
                 · (repeat (first | (with_reducible refine Em.made' (by (first | rfl | (simp; done) | (simp; omega) | omega)) ?_) | with_reducible refine Em.drew ?_ | with_reducible refine Em.alloc ?_ _ | (with_reducible refine Em.grown ?_ G1.out (by (first | rfl | (simp; done) | (simp; omega) | omega)) (by (first | rfl | (simp; done) | (simp; omega) | omega))))); (repeat (first | with_reducible exact Below.refl _ _ | with_reducible exact HBb.out | with_reducible exact HBa.out | with_reducible refine by_drew ?_ | with_reducible refine by_alloc ?_ _))
                 · (repeat (first | with_reducible exact Below.refl _ _ | with_reducible exact HBb.out | with_reducible exact HBa.out | with_reducible refine by_drew ?_ | with_reducible refine by_alloc ?_ _))
                 intro A1 n1 c1 wa hB1 hN1 hG1
                 have G1 := Lib.hid hG1
                 have HBa : Hid (Below Y.heap.size Y wa) := by
                   refine by_grown ?_ G1.out (by (first | rfl | (simp; done) | (simp; omega) | omega))
                   (repeat (first | with_reducible exact Below.refl _ _ | with_reducible exact HBb.out | with_reducible exact HBa.out | with_reducible refine by_drew ?_ | with_reducible refine by_alloc ?_ _))
                 have K1 : Hid (BIn (New Y.heap.size) wa (.slice A1 n1 c1) k ∧ NfV wa (.slice A1 n1 c1)) := ⟨hB1.imp fun b _ hb => by rcases hb with hb | hb <;> (simp [New] at hb ⊢; omega), hN1⟩
                 clear hB1 hN1 hG1)
              | (have hs := HBa.out.size
                 have hs2 := G1.out.size
                 try simp at hs2
                 refine step_clone _ (by rfl) (.tmp 32) (.tmp 34) (by rfl) _ rfl (Em.at_ (Y := Y) ?_) (.slice Ax nx cx) x rfl (HX2.out.below ?_) ?_
                 · (repeat (first | (with_reducible refine Em.made' (by (first | rfl | (simp; done) | (simp; omega) | omega)) ?_) | with_reducible refine Em.drew ?_ | with_reducible refine Em.alloc ?_ _ | (with_reducible refine Em.grown ?_ G1.out (by (first | rfl | (simp; done) | (simp; omega) | omega)) (by (first | rfl | (simp; done) | (simp; omega) | omega))))); (repeat (first | with_reducible exact Below.refl _ _ | with_reducible exact HBb.out | with_reducible exact HBa.out | with_reducible refine by_drew ?_ | with_reducible refine by_alloc ?_ _))
                 · (repeat (first | with_reducible exact Below.refl _ _ | with_reducible exact HBb.out | with_reducible exact HBa.out | with_reducible refine by_drew ?_ | with_reducible refine by_alloc ?_ _))
                 intro A2 n2 c2 wb hB2 hN2 hG2
                 have K12 : Hid (BIn (New Y.heap.size) wb (.slice A1 n1 c1) k ∧ NfV wb (.slice A1 n1 c1)) := by
                   refine ⟨BIn.past (K1.out.1.below ?_) (Em.at_ (Y := Y) ?_) hG2, NfV.past (K1.out.2.below ?_) (K1.out.1.below ?_) (Em.at_ (Y := Y) ?_) hG2⟩
                   · (repeat (first | with_reducible exact Below.refl _ _ | with_reducible refine by_drew ?_ | with_reducible refine by_alloc ?_ _))
                   · (repeat (first | (with_reducible refine Em.made' (by (first | rfl | (simp; done) | (simp; omega) | omega)) ?_) | with_reducible refine Em.drew ?_ | with_reducible refine Em.alloc ?_ _ | (with_reducible refine Em.grown ?_ G1.out (by (first | rfl | (simp; done) | (simp; omega) | omega)) (by (first | rfl | (simp; done) | (simp; omega) | omega))))); (repeat (first | with_reducible exact Below.refl _ _ | with_reducible exact HBb.out | with_reducible exact HBa.out | with_reducible refine by_drew ?_ | with_reducible refine by_alloc ?_ _))
                   · (repeat (first | with_reducible exact Below.refl _ _ | with_reducible refine by_drew ?_ | with_reducible refine by_alloc ?_ _))
                   · (repeat (first | with_reducible exact Below.refl _ _ | with_reducible refine by_drew ?_ | with_reducible refine by_alloc ?_ _))
                   · (repeat (first | (with_reducible refine Em.made' (by (first | rfl | (simp; done) | (simp; omega) | omega)) ?_) | with_reducible refine Em.drew ?_ | with_reducible refine Em.alloc ?_ _ | (with_reducible refine Em.grown ?_ G1.out (by (first | rfl | (simp; done) | (simp; omega) | omega)) (by (first | rfl | (simp; done) | (simp; omega) | omega))))); (repeat (first | with_reducible exact Below.refl _ _ | with_reducible exact HBb.out | with_reducible exact HBa.out | with_reducible refine by_drew ?_ | with_reducible refine by_alloc ?_ _))
                 have HBb : Hid (Below Y.heap.size Y wb) := by
                   refine by_grown ?_ hG2 (by (first | rfl | (simp; done) | (simp; omega) | omega))
                   (repeat (first | with_reducible exact Below.refl _ _ | with_reducible exact HBb.out | with_reducible exact HBa.out | with_reducible refine by_drew ?_ | with_reducible refine by_alloc ?_ _))
                 have K2 : Hid (BIn (New Y.heap.size) wb (.slice A2 n2 c2) x ∧ NfV wb (.slice A2 n2 c2)) := ⟨hB2.imp fun b _ hb => by rcases hb with hb | hb <;> (simp [New] at hb ⊢; omega), hN2⟩
                 (first
                   | (with_reducible refine with_ (p := Hid (Bx Y wb (Y.heap.size))) ?_ ?_; (focus (refine Lib.hid (Bx.grown ?_ hG2 ?_ ?_); rotate_left 1; (focus (first | rfl | (simp; done) | (simp; omega) | omega)); (focus (first | rfl | (simp; done) | (simp; omega) | omega)); (repeat (first | (with_reducible refine Bx.made' (by (first | rfl | (simp; done) | (simp; omega) | omega)) ?_) | with_reducible refine Bx.drew ?_ | with_reducible refine Bx.alloc ?_ _ | (with_reducible refine Bx.grown ?_ G1.out (by (first | rfl | (simp; done) | (simp; omega) | omega)) (by (first | rfl | (simp; done) | (simp; omega) | omega))))); (repeat (first | with_reducible exact Below.refl _ _ | with_reducible exact HBb.out | with_reducible exact HBa.out | with_reducible refine by_drew ?_ | with_reducible refine by_alloc ?_ _)); done)); intro BZ; have OB := Lib.hid (Ob.fill (op := op) BZ.out K12.out K2.out); obtain ⟨z0, z1, z2⟩ := BZ.out.zs; obtain ⟨f0, f1, f2⟩ := BZ.out.fs)
                   | (with_reducible refine with_ (p := Hid (Bx Y wb (Y.heap.size + 1))) ?_ ?_; (focus (refine Lib.hid (Bx.grown ?_ hG2 ?_ ?_); rotate_left 1; (focus (first | rfl | (simp; done) | (simp; omega) | omega)); (focus (first | rfl | (simp; done) | (simp; omega) | omega)); (repeat (first | (with_reducible refine Bx.made' (by (first | rfl | (simp; done) | (simp; omega) | omega)) ?_) | with_reducible refine Bx.drew ?_ | with_reducible refine Bx.alloc ?_ _ | (with_reducible refine Bx.grown ?_ G1.out (by (first | rfl | (simp; done) | (simp; omega) | omega)) (by (first | rfl | (simp; done) | (simp; omega) | omega))))); (repeat (first | with_reducible exact Below.refl _ _ | with_reducible exact HBb.out | with_reducible exact HBa.out | with_reducible refine by_drew ?_ | with_reducible refine by_alloc ?_ _)); done)); intro BZ; have OB := Lib.hid (Ob.fill (op := op) BZ.out K12.out K2.out); obtain ⟨z0, z1, z2⟩ := BZ.out.zs; obtain ⟨f0, f1, f2⟩ := BZ.out.fs)
                   | (with_reducible refine with_ (p := Hid (Bx Y wb (Y.heap.size + 1 + 1))) ?_ ?_; (focus (refine Lib.hid (Bx.grown ?_ hG2 ?_ ?_); rotate_left 1; (focus (first | rfl | (simp; done) | (simp; omega) | omega)); (focus (first | rfl | (simp; done) | (simp; omega) | omega)); (repeat (first | (with_reducible refine Bx.made' (by (first | rfl | (simp; done) | (simp; omega) | omega)) ?_) | with_reducible refine Bx.drew ?_ | with_reducible refine Bx.alloc ?_ _ | (with_reducible refine Bx.grown ?_ G1.out (by (first | rfl | (simp; done) | (simp; omega) | omega)) (by (first | rfl | (simp; done) | (simp; omega) | omega))))); (repeat (first | with_reducible exact Below.refl _ _ | with_reducible exact HBb.out | with_reducible exact HBa.out | with_reducible refine by_drew ?_ | with_reducible refine by_alloc ?_ _)); done)); intro BZ; have OB := Lib.hid (Ob.fill (op := op) BZ.out K12.out K2.out); obtain ⟨z0, z1, z2⟩ := BZ.out.zs; obtain ⟨f0, f1, f2⟩ := BZ.out.fs)
                   | (with_reducible refine with_ (p := Hid (Bx Y wb (Y.heap.size + 2))) ?_ ?_; (focus (refine Lib.hid (Bx.grown ?_ hG2 ?_ ?_); rotate_left 1; (focus (first | rfl | (simp; done) | (simp; omega) | omega)); (focus (first | rfl | (simp; done) | (simp; omega) | omega)); (repeat (first | (with_reducible refine Bx.made' (by (first | rfl | (simp; done) | (simp; omega) | omega)) ?_) | with_reducible refine Bx.drew ?_ | with_reducible refine Bx.alloc ?_ _ | (with_reducible refine Bx.grown ?_ G1.out (by (first | rfl | (simp; done) | (simp; omega) | omega)) (by (first | rfl | (simp; done) | (simp; omega) | omega))))); (repeat (first | with_reducible exact Below.refl _ _ | with_reducible exact HBb.out | with_reducible exact HBa.out | with_reducible refine by_drew ?_ | with_reducible refine by_alloc ?_ _)); done)); intro BZ; have OB := Lib.hid (Ob.fill (op := op) BZ.out K12.out K2.out); obtain ⟨z0, z1, z2⟩ := BZ.out.zs; obtain ⟨f0, f1, f2⟩ := BZ.out.fs)
                   | (with_reducible refine with_ (p := Hid (Bx Y wb (wa.heap.size))) ?_ ?_; (focus (refine Lib.hid (Bx.grown ?_ hG2 ?_ ?_); rotate_left 1; (focus (first | rfl | (simp; done) | (simp; omega) | omega)); (focus (first | rfl | (simp; done) | (simp; omega) | omega)); (repeat (first | (with_reducible refine Bx.made' (by (first | rfl | (simp; done) | (simp; omega) | omega)) ?_) | with_reducible refine Bx.drew ?_ | with_reducible refine Bx.alloc ?_ _ | (with_reducible refine Bx.grown ?_ G1.out (by (first | rfl | (simp; done) | (simp; omega) | omega)) (by (first | rfl | (simp; done) | (simp; omega) | omega))))); (repeat (first | with_reducible exact Below.refl _ _ | with_reducible exact HBb.out | with_reducible exact HBa.out | with_reducible refine by_drew ?_ | with_reducible refine by_alloc ?_ _)); done)); intro BZ; have OB := Lib.hid (Ob.fill (op := op) BZ.out K12.out K2.out); obtain ⟨z0, z1, z2⟩ := BZ.out.zs; obtain ⟨f0, f1, f2⟩ := BZ.out.fs)
                   | (with_reducible refine with_ (p := Hid (Bx Y wb (wa.heap.size + 1))) ?_ ?_; (focus (refine Lib.hid (Bx.grown ?_ hG2 ?_ ?_); rotate_left 1; (focus (first | rfl | (simp; done) | (simp; omega) | omega)); (focus (first | rfl | (simp; done) | (simp; omega) | omega)); (repeat (first | (with_reducible refine Bx.made' (by (first | rfl | (simp; done) | (simp; omega) | omega)) ?_) | with_reducible refine Bx.drew ?_ | with_reducible refine Bx.alloc ?_ _ | (with_reducible refine Bx.grown ?_ G1.out (by (first | rfl | (simp; done) | (simp; omega) | omega)) (by (first | rfl | (simp; done) | (simp; omega) | omega))))); (repeat (first | with_reducible exact Below.refl _ _ | with_reducible exact HBb.out | with_reducible exact HBa.out | with_reducible refine by_drew ?_ | with_reducible refine by_alloc ?_ _)); done)); intro BZ; have OB := Lib.hid (Ob.fill (op := op) BZ.out K12.out K2.out); obtain ⟨z0, z1, z2⟩ := BZ.out.zs; obtain ⟨f0, f1, f2⟩ := BZ.out.fs)
                   | skip)
                 clear hB2 hN2 hG2 hs hs2))
          all_goals
            go_wp2_with fail
            go_meet
            exact ⟨_, A1, n1, c1, A2, n2, c2, rfl, (by first | with_reducible exact OB | with_reducible exact Lib.hid (Ob.lay HBb.out K12.out K2.out) | exact Lib.hid OB.out.drew | exact Lib.hid (Ob.lay HBb.out K12.out K2.out).drew)⟩
        case rest =>
          obtain ⟨g, A1, n1, c1, A2, n2, c2, rfl, hOb⟩ := hcut
          clear HCY
          have hn1 : n1 ≤ 100000 := by obtain ⟨_, _, _, e, h, _⟩ := hOb.out.key; cases e; exact h.2
          have hn2 : n2 ≤ 100000 := by obtain ⟨_, _, _, e, h, _⟩ := hOb.out.val; cases e; exact h.2
          -- what is kept, where the law stands now
          have HP : Hid (Pt (fun b => ((Value.slice U j cu).ownBlock ≠ some b ∧ (Value.slice V j cv).ownBlock ≠ some b) ∧ b < Y.heap.size) wc u A' c' T j) :=
            ((HST.out.cur.below HBX.out).imp fun b hlt hb => ⟨hb, hlt⟩).carry hOb.out.below.size fun b hb _ => hOb.out.below.block b hb.2
          have HSTEP := Lib.hid (step_pt (S' := fun _ => True) op k x wc u A' c' j T (.agg #[.int .i64 op, .slice A1 n1 c1, .slice A2 n2 c2]) HP.out ⟨_, _, rfl, hOb.out.key.imp fun _ _ _ => trivial, hOb.out.val.imp fun _ _ _ => trivial⟩ (by have := HFL.out.1; omega) (by omega))
          have d0 := cell_of_row wc g 0 _ _ _ hOb.out.at_
          have d1 := cell_of_row wc g 1 _ _ _ hOb.out.at_
          have d2 := cell_of_row wc g 2 _ _ _ hOb.out.at_
          dsimp at d0 d1 d2
          go_wp2_with fail
          refine HSTEP.out.mono ?_
          rintro e w3 ⟨u2, A3, c3, T2, rfl, hN⟩
          clear d0 d1 d2 HSTEP
          have HB3 : Hid (Below wc.heap.size wc w3) := hN.out.2
          have HAT : Hid (w3.heap[g]? = some (.cells #[.int .i64 op, .slice A1 n1 c1, .slice A2 n2 c2] 29 (0, 0))) := (HB3.out.block g (Array.getElem?_eq_some_iff.1 hOb.out.at_).1).trans hOb.out.at_
          obtain ⟨D1, hD1⟩ : ∃ D : Nat → Prop, ∀ b, D b ↔ (Y.heap.size ≤ b ∧ b < wc.heap.size) := ⟨_, fun _ => Iff.rfl⟩
          have HD1 := Lib.hid hD1
          have HK1 : Hid (SW D1 w3 (.slice A1 n1 c1)) := (SW.of (hOb.out.key.imp fun b hlt hb => (hD1 b).2 ⟨hb, hlt⟩) hOb.out.nk).wr (Wr.of_below (D := D1) HB3.out)
          have HV1 : Hid (SW D1 w3 (.slice A2 n2 c2)) := (SW.of (hOb.out.val.imp fun b hlt hb => (hD1 b).2 ⟨hb, hlt⟩) hOb.out.nx).wr (Wr.of_below (D := D1) HB3.out)
          have HBC : Hid (∀ W, Wr D1 w3 W → W.cell? ⟨g, 1, none⟩ = some (.slice A1 n1 c1) ∧ W.cell? ⟨g, 2, none⟩ = some (.slice A2 n2 c2)) := fun W h =>
            ⟨h.keep _ _ (cell_of_row w3 g 1 _ _ _ HAT.out) (fun x e => by cases e), h.keep _ _ (cell_of_row w3 g 2 _ _ _ HAT.out) (fun x e => by cases e)⟩
          clear hD1
          have HMID : Hid (∀ W, Wr D1 w3 W → Midw w W j u2 A3 c3 T2 U cu V cv us ms Ts) := fun W hW => HST.out.mid HBX.out hOb.out.below HB3.out HD1.out hN.out.1 hW
          obtain ⟨d0, d1⟩ := HBC.out w3 (Wr.refl _ _)
          go_wp2_with fail
          clear d0 d1
          go_loopw [48] (fun v wx => ∃ (i : Nat), v = .int .i64 (i : Int) ∧ i ≤ n1 ∧ Hid (Wr D1 w3 wx)) (fun v _ => n1 - (intOf v).toNat)
          case atStart => exact ⟨0, by go_num, by omega, Lib.hid (Wr.refl _ _)⟩
          case round =>
            obtain ⟨i, rfl, hi, hXk⟩ := hrel
            obtain ⟨d0, d1⟩ := HBC.out _ hXk.out
            by_cases hlti : i < n1
            · obtain ⟨_, _, _, e, _, hsw⟩ := (HK1.out.wr hXk.out)
              cases e
              obtain ⟨b2, o2, rfl, hbD, hnf, hcl⟩ := hsw (by omega)
              obtain ⟨y, hy⟩ := hcl i hlti
              have hfz := hnf.free (o2 + i)
              have HS := Lib.hid (fun z => hXk.out.trans (Wr.set (y := z) hy hbD))
              have bl : (0 : Int) ≤ (i : Int) := by omega
              have bl3 : (i : Int) < (n1 : Int) := by omega
              clear hcl hnf hsw
              go_wp2_with fail
              go_roundw
              case rel => exact ⟨i + 1, by go_num, by omega, Lib.hid (HS.out _)⟩
              case measure => simp [intOf]; omega
            · obtain rfl : i = n1 := by omega
              clear hlti
              go_wp2_with fail
              go_loopw [62] (fun v wx => ∃ (i : Nat), v = .int .i64 (i : Int) ∧ i ≤ n2 ∧ Hid (Wr D1 w3 wx)) (fun v _ => n2 - (intOf v).toNat)
              case atStart => exact ⟨0, by go_num, by omega, hXk⟩
              case round =>
                obtain ⟨i, rfl, hi, hXx⟩ := hrel
                obtain ⟨d0, d1⟩ := HBC.out _ hXx.out
                by_cases hlti : i < n2
                · obtain ⟨_, _, _, e, _, hsw⟩ := (HV1.out.wr hXx.out)
                  cases e
                  obtain ⟨b2, o2, rfl, hbD, hnf, hcl⟩ := hsw (by omega)
                  obtain ⟨y, hy⟩ := hcl i hlti
                  have hfz := hnf.free (o2 + i)
                  have HS := Lib.hid (fun z => hXx.out.trans (Wr.set (y := z) hy hbD))
                  have bl : (0 : Int) ≤ (i : Int) := by omega
                  have bl3 : (i : Int) < (n2 : Int) := by omega
                  clear hcl hnf hsw
                  go_wp2_with fail
                  go_roundw
                  case rel => exact ⟨i + 1, by go_num, by omega, Lib.hid (HS.out _)⟩
                  case measure => simp [intOf]; omega
                · obtain rfl : i = n2 := by omega
                  clear hlti
                  go_wp2_with fail
                  have HM5 := Lib.hid (HMID.out _ hXx.out)
                  have hsz : T2.size ≤ 41 := by have := HM5.out.cur.size; omega
                  obtain ⟨w5, hw5⟩ : ∃ W, W = wr := ⟨_, rfl⟩
                  rw [← hw5] at HM5 ⊢
                  clear hw5
                  have HLS := Lib.hid (list_nf T2 (.pointer u2) w5 HM5.out.cur.tin (by omega))
                  clear d0 d1
                  go_wp2_with fail
                  refine HLS.out.mono ?_
                  rintro e w6 ⟨A6, c6, rfl, hc6, hL6, hb6, hnf6⟩
                  obtain ⟨D2, hD2⟩ : ∃ D : Nat → Prop, ∀ b, D b ↔ w5.heap.size ≤ b := ⟨_, fun _ => Iff.rfl⟩
                  have HPW : Hid (PW D2 w6 A6 T2.size) := PW.of (hL6.imp fun b _ hb => (hD2 b).2 hb) hnf6
                  have HM6 : Hid (∀ W, Wr D2 w6 W → Midw w W j u2 A3 c3 T2 U cu V cv us ms Ts) := fun W hW => HM5.out.on (hb6.trans (hW.below hb6.size fun b hb hd => by have := (hD2 b).1 hd; omega))
                  clear hc6 hL6 hb6 hnf6 hD2 HLS
                  go_wp2_with fail
                  go_loopw [76] (fun v wr => ∃ (q : Nat), v = .int .i64 (q : Int) ∧ q ≤ T2.size ∧ Hid (Wr D2 w6 wr)) (fun v _ => T2.size - (intOf v).toNat)
                  case atStart => exact ⟨0, by go_num, by omega, Lib.hid (Wr.refl _ _)⟩
                  case round =>
                    obtain ⟨q, rfl, hq, hJ⟩ := hrel
                    by_cases hltq : q < T2.size
                    · obtain ⟨b, o, rfl, hcc⟩ := (HPW.out.wr hJ.out) (by omega)
                      obtain ⟨kv, xv, c0, c1, hkv, hxv⟩ := hcc q hltq
                      have HX := Lib.hid hxv
                      obtain ⟨Bk, mk, dk, rfl, hmk, _⟩ := hkv
                      obtain ⟨Bx', mx, dx, rfl, hmx, _⟩ := hxv
                      have al' : (0 : Int) ≤ (q : Int) := by omega
                      have al3' : (q : Int) < (T2.size : Int) := by omega
                      have HWX : Hid (Wr D2 w6 (wr.alloc (.cells #[.slice Bk mk dk, .slice Bx' mx dx] 39)) ∧ Wr D2 wr (wr.alloc (.cells #[.slice Bk mk dk, .slice Bx' mx dx] 39))) := by
                        have hq : Wr D2 wr (wr.alloc (.cells #[.slice Bk mk dk, .slice Bx' mx dx] 39)) := Wr.of_below ((Below.refl _ _).alloc (Nat.le_refl _) _)
                        exact ⟨hJ.out.trans hq, hq⟩
                      have HG : Hid ((wr.alloc (.cells #[.slice Bk mk dk, .slice Bx' mx dx] 39)).cell? ⟨wr.heap.size, 0, none⟩ = some (.slice Bk mk dk) ∧ (wr.alloc (.cells #[.slice Bk mk dk, .slice Bx' mx dx] 39)).cell? ⟨wr.heap.size, 1, none⟩ = some (.slice Bx' mx dx)) :=
                        ⟨by rw [World.cell?_alloc_new]; rfl, by rw [World.cell?_alloc_new]; rfl⟩
                      clear hcc
                      go_wp2_with fail
                      obtain ⟨X, hXX⟩ : ∃ X, wr.alloc (.cells #[.slice Bk mk dk, .slice Bx' mx dx] 39) = X := ⟨_, rfl⟩
                      obtain ⟨gx, hgg⟩ : ∃ g, wr.heap.size = g := ⟨_, rfl⟩
                      rw [hXX] at HWX HG ⊢
                      rw [hgg] at HG
                      simp only [hgg]
                      clear hXX hgg
                      go_loopw [83] (fun v wx => ∃ (i : Nat), v = .int .i64 (i : Int) ∧ i ≤ mx ∧ Hid (Wr D2 X wx)) (fun v _ => mx - (intOf v).toNat)
                      case atStart => exact ⟨0, by go_num, by omega, Lib.hid (Wr.refl _ _)⟩
                      case round =>
                        obtain ⟨i, rfl, hi, hXy⟩ := hrel
                        have d1 := hXy.out.keep _ _ HG.out.2 (fun x e => by cases e)
                        by_cases hlti : i < mx
                        · obtain ⟨_, _, _, e, _, hsw⟩ := (HX.out.wr (HWX.out.2.trans hXy.out))
                          cases e
                          obtain ⟨b2, o2, rfl, hbD, hnf, hcl⟩ := hsw (by omega)
                          obtain ⟨y, hy⟩ := hcl i hlti
                          have hfz := hnf.free (o2 + i)
                          have HS := Lib.hid (fun z => hXy.out.trans (Wr.set (y := z) hy hbD))
                          have bl : (0 : Int) ≤ (i : Int) := by omega
                          have bl3 : (i : Int) < (mx : Int) := by omega
                          clear hcl hnf hsw
                          go_wp2_with fail
                          go_roundw
                          case rel => exact ⟨i + 1, by go_num, by omega, Lib.hid (HS.out _)⟩
                          case measure => simp [intOf]; omega
                        · obtain rfl : i = mx := by omega
                          clear hlti
                          go_wp2_with fail
                          go_roundw
                          case rel => exact ⟨q + 1, by go_num, by omega, Lib.hid (HWX.out.1.trans hXy.out)⟩
                          case measure => simp [intOf]; omega
                    · obtain rfl : q = T2.size := by omega
                      clear hltq
                      have HM7 := Lib.hid (HM6.out _ hJ.out)
                      obtain ⟨w7, hw7⟩ : ∃ W, W = wr := ⟨_, rfl⟩
                      rw [← hw7] at HM7 ⊢
                      clear hw7
                      obtain ⟨i25, hi25, hz25, hz25b, hz25c⟩ := info_parts info25
                      obtain ⟨i26, hi26, hz26, hz26b, hz26c⟩ := info_parts info26
                      have hw0 := HM7.out.below.size
                      go_wp2_with (at_builtin; go_loud (refine wpList_append_own_at _ rfl _ _ 36 rfl w.heap.size 25 i25 _ 1 8 Try.underlying36 hi25 hz25 hz25b hz25c rfl (by decide) (.slice U j cu) j us rfl (HM7.out.ou.alloc _) ⟨w7.heap.size, 0, none⟩ 1 1 [.pointer u2] rfl rfl (World.news_of_block (heap_new w7 _)) (by simp [Value.oneCell']) (by unfold maxLen; omega) (by omega) (by simp; omega) ?_))
                      intro v8 w8 h8 g8 _ a8
                      obtain ⟨U', cu', rfl⟩ := own_slice h8
                      have H8 : Hid (w8.ownsRow w.heap.size 25 1 (.slice U' (j + 1) cu') (j + 1) (us ++ [.pointer u2]) ∧ (w7.alloc (.cells #[.pointer u2] 25)).grownBy w8 (Value.slice U j cu).ownBlock ∧ ((Value.slice U' (j + 1) cu').ownBlock = (Value.slice U j cu).ownBlock ∨ (Value.slice U' (j + 1) cu').ownBlock = some (w7.alloc (.cells #[.pointer u2] 25)).heap.size)) := ⟨h8, g8, a8.imp_right fun h => by rw [World.size_alloc]; exact h⟩
                      have hbv : w7.heap.size + 1 ≤ w8.heap.size := by have h1 := g8.size; simp at h1; exact h1
                      have HOV : Hid (w8.ownsRow w.heap.size 26 1 (.slice V j cv) j ms) := by
                        refine own_keep HM7.out.om (by omega) fun k hk => (g8.block k (by have := (HM7.out.om.lt k hk).2; simp; omega) fun e => ?_).trans (Below.heap_alloc w7 _ k (HM7.out.om.lt k hk).2)
                        exact HST.out.ne k e.symm hk
                      clear h8 g8 a8
                      go_wp2_with (at_builtin; go_loud (refine wpList_append_own_at _ rfl _ _ 37 rfl w.heap.size 26 i26 _ 1 24 Try.underlying37 hi26 hz26 hz26b hz26c rfl (by decide) (.slice V j cv) j ms rfl (HOV.out.alloc _) ⟨w8.heap.size, 0, none⟩ 1 1 [.slice A3 T2.list.length c3] rfl rfl (World.news_of_block (heap_new w8 _)) (by simp [Value.oneCell']) (by unfold maxLen; omega) (by omega) (by simp; omega) ?_))
                      intro v9 w9 h9 g9 _ a9
                      obtain ⟨V', cv', rfl⟩ := own_slice h9
                      have HN9 : Hid (Sts w w9 (j + 1) u2 A3 c3 T2 U' cu' V' cv') := Lib.hid (St.next HM7.out.ou HM7.out.om HST.out.ne HM7.out.cur HST.out.len (by omega) HM7.out.kept HM7.out.below H8.out.1 H8.out.2.1 H8.out.2.2 h9 g9 (a9.imp_right fun h => by rw [World.size_alloc]; exact h))
                      clear h9 g9 a9
                      go_wp2_with fail
                      go_roundw
                      case rel => exact ⟨j + 1, u2, A3, c3, T2, U', cu', V', cv', rfl, rfl, rfl, rfl, by go_num, by omega, HN9⟩
                      case measure => simp [intOf]; omega
      · obtain rfl : j = n := by omega
        clear hlt hI
        go_wp2_with fail
        go_loopw [106] (fun v wr => ∃ (i : Nat), v = .int .i64 (i : Int) ∧ i ≤ j ∧ Hid (St w wr j u A' c' T U cu V cv us ms Ts)) (fun v _ => j - (intOf v).toNat)
        case atStart => exact ⟨0, by go_num, by omega, HST⟩
        case round =>
          obtain ⟨i, rfl, hi, hJ⟩ := hrel
          by_cases hlti : i < j
          · obtain ⟨ui, Ai, ci, r1, r2, hP⟩ := hJ.out.kept i hlti
            obtain ⟨bU, hbU⟩ : ∃ b, U = some ⟨b, 0, none⟩ := by
              rcases hJ.out.ou.2 with ⟨_, h0⟩ | ⟨g, cap, cur, hv, _⟩
              · omega
              · cases hv; exact ⟨_, rfl⟩
            obtain ⟨bV, hbV⟩ : ∃ b, V = some ⟨b, 0, none⟩ := by
              rcases hJ.out.om.2 with ⟨_, h0⟩ | ⟨g, cap, cur, hv, _⟩
              · omega
              · cases hv; exact ⟨_, rfl⟩
            subst hbU hbV
            have c0 : wr.cell? ⟨bU, i, none⟩ = some (.pointer ui) := (hJ.out.ou.cellAt i (by omega)).trans r1
            have c1 : wr.cell? ⟨bV, i, none⟩ = some (.slice Ai (Ts.getD i .nil).list.length ci) := (hJ.out.om.cellAt i (by omega)).trans r2
            obtain ⟨Ti, hTi⟩ : ∃ Ti, Ts.getD i .nil = Ti := ⟨_, rfl⟩
            rw [hTi] at hP c1
            have HPI := Lib.hid hP
            have HCC : Hid (∀ W, Below wr.heap.size wr W → W.cell? ⟨bU, i, none⟩ = some (.pointer ui) ∧ W.cell? ⟨bV, i, none⟩ = some (.slice Ai Ti.list.length ci)) := fun W h => ⟨(cell_blk (h.block _ (cell_lt' c0))).trans c0, (cell_blk (h.block _ (cell_lt' c1))).trans c1⟩
            have hsz : Ti.size ≤ 80 := hP.size
            have al : (0 : Int) ≤ (i : Int) := by omega
            have al3 : (i : Int) < (j : Int) := by omega
            clear hTi hP r1 r2
            go_upto_region 2 with fail
            go_region_held3 (fun W => W.cell? ⟨bU, i, none⟩ = some (.pointer ui) ∧ W.cell? ⟨bV, i, none⟩ = some (.slice Ai Ti.list.length ci))
              (first | with_reducible exact ⟨c0, c1⟩ | with_reducible exact HCC.out _ (Below.refl _ _) | with_reducible exact HCC.out _ (by_drew (Below.refl _ _)) | with_reducible exact HCC.out _ BA.out | with_reducible exact HCC.out _ BB.out | with_reducible exact HCC.out _ BC.out)
              (first
                | (go_at_call 17; (with_reducible refine (list_any Ti (.pointer ui) _ (HPI.out.tin.below (by_drew (Below.refl _ _))) (by omega)).mono ?_); rintro e wa ⟨A6, c6, rfl, h1, h2, h3⟩
                   have BA : Hid (Below wr.heap.size wr wa) := below_drew1 h3
                   have LA : Hid (LIn (fun _ => True) wa A6 Ti.list.length Ti.list) := by rw [PT.size_list]; exact Lib.hid (h2.imp fun _ _ _ => trivial)
                   clear h1 h2 h3)
                | (go_at_call 16; (with_reducible refine (is_tree Ti A6 Ai c6 ci _ LA.out (HPI.out.min.below BA.out) (by omega)).mono ?_); rintro e wb ⟨rfl, hb⟩
                   have BB : Hid (Below wr.heap.size wr wb) := BA.out.trans (hb.mono BA.out.size)
                   clear hb)
                | (go_at_call 18; (with_reducible refine (sound_any Ti (.pointer ui) _ (HPI.out.tin.below BB.out) HPI.out.even HPI.out.asc (by omega)).mono ?_); rintro e wd ⟨rfl, hb⟩
                   have BC : Hid (Below wr.heap.size wr wd) := BB.out.trans (hb.mono BB.out.size)
                   clear hb))
            have HNX : Hid (St w wd j u A' c' T (some ⟨bU, 0, none⟩) cu (some ⟨bV, 0, none⟩) cv us ms Ts) := hJ.out.carry BC.out
            go_wp2_with fail
            go_roundw
            case rel => exact ⟨i + 1, by go_num, by omega, HNX⟩
            case measure => simp [intOf]; omega
          · obtain rfl : i = j := by omega
            go_wp2_with fail
            refine (awake_any wr).mono ?_
            rintro e w2 ⟨rfl, hb2⟩
            have HB2 : Hid (Below w.heap.size w w2) := hJ.out.below.trans (hb2.mono hJ.out.below.size)
            clear hb2
            go_wp2_with fail
            go_ret
            exact ⟨rfl, HB2.out⟩

end Go.Proofs.Ytlnlgahokifolaa
