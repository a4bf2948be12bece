/- The contract of the tree's even: a node, a turn, or a tree anew. -/
import Derived.Test.YtphjaebkcimklaaGreatDoorTTurn
import Derived.Deep.CutBlock
import Derived.Deep.DeepCutAuto
import Derived.Deep.CutRange
set_option linter.unusedVariables false
set_option linter.unusedSimpArgs false
namespace Go.Proofs.YtphjaebkcimklaaGreatDoor
open Go.RowKit

/-- 'append' onto a slice that the call owns, of any number of elements, at a step of a region that draws its order. -/
theorem step_append_v {P : Program} (w : World) {ops : Array Oper} {o : Oper} {a : Act} {K : Act → World → Prop} {Q : Exit → Act → World → Prop} {E : Prop} (hgd : o.guard = none) (s x : Operand) (t : TypeId)
    (ho : o.op = .call { callee := .builtin .append, args := #[s, x], argTypes := #[t, t] })
    (base : Nat) (e : TypeId) (i : TypeInfo) (z : Value) (size bytes : Nat) (ht : P.underlying t = some (.slice e)) (hi : P.info? e = some i) (hz : i.zero = some z)
    (hsize : i.size = size) (hby : i.bytes = bytes) (hzs : z.cells.size = size) (hsz : 0 < size)
    (v : Value) (n : Nat) (xs : List Value) (hs : a.eval s = v) (hown : w.ownsRow base e size v n xs)
    (ad : Addr) (m c : Nat) (news : List Value) (hx : a.eval x = .slice (some ad) m c) (hl : news.length = m * size) (hnews : ∀ j u, news[j]? = some u → w.cell? (ad.add j) = some u) (h1 : ∀ u ∈ news, u.oneCell' = true)
    (h63 : n + m ≤ maxLen) (hbytes : (n + m) * bytes ≤ 140737488355328) (hbase : base ≤ w.heap.size)
    (h : ∀ A' c' w', w'.ownsRow base e size (.slice A' (n + m) c') (n + m) (xs ++ news) → w.grownBy w' v.ownBlock → ((Value.slice A' (n + m) c').ownBlock = v.ownBlock ∨ (Value.slice A' (n + m) c').ownBlock = some w.heap.size) → K (a.put o.dst (.slice A' (n + m) c')) w') :
    if Region.wanted o (yielded ops a.tmps) = true then Oper.wp P o a w K Q else E := by
  have hw : Region.wanted o (yielded ops a.tmps) = true := by simp [Region.wanted, hgd]
  rw [if_pos hw]
  obtain ⟨v', w', hr, h2, h3, _, h5⟩ := run_append_own_at (P := P) w base t o.type e i z size bytes ht hi hz hsize hby hzs hsz v n xs hown ad m c news hl hnews h1 h63 hbytes hbase
  have hv : ∃ A' c', v' = .slice A' (n + m) c' := by
    rcases h2.2 with ⟨e1, e2⟩ | ⟨g, cap, cur, e1, _⟩
    · exact ⟨none, 0, by rw [e1, e2]⟩
    · exact ⟨_, _, e1⟩
  obtain ⟨A', c', rfl⟩ := hv
  unfold Oper.wp execOp
  simp only [ho, resolve, invoke, builtin, Sem.run_bind, Sem.run_pure, Result.andThen_ok, List.map_toArray, List.map_cons, List.map_nil, hs, hx, hr]
  exact h A' c' w' h2 h3 h5

/-- A list that grew: its own blocks; where each pair lies. -/
theorem PsOf.append {S : Nat → Prop} {W : World} {vs us : List Value} {L M : Pairs} (h : PsOf S W vs L) (h' : PsOf S W us M) : PsOf S W (vs ++ us) (L ++ M) := by
  have hl := h.len
  refine ⟨by simp [h.len, h'.len, Nat.add_mul], fun j hj => ?_⟩
  rw [List.length_append] at hj
  by_cases hlt : j < L.length
  · obtain ⟨a, b, h1, h2, h3, h4⟩ := h.at_ j hlt
    have e : (L ++ M).getD j ([], []) = L.getD j ([], []) := by simp [List.getD_eq_getElem?_getD, List.getElem?_append_left hlt]
    rw [e]
    exact ⟨a, b, by rw [List.getElem?_append_left (by omega)]; exact h1, by rw [List.getElem?_append_left (by omega)]; exact h2, h3, h4⟩
  · obtain ⟨a, b, h1, h2, h3, h4⟩ := h'.at_ (j - L.length) (by omega)
    have e : (L ++ M).getD j ([], []) = M.getD (j - L.length) ([], []) := by simp [List.getD_eq_getElem?_getD, List.getElem?_append_right (show L.length ≤ j by omega)]
    rw [e]
    refine ⟨a, b, ?_, ?_, h3, h4⟩
    · rw [List.getElem?_append_right (by omega), hl, show j * 2 - L.length * 2 = (j - L.length) * 2 by omega]; exact h1
    · rw [List.getElem?_append_right (by omega), hl, show j * 2 + 1 - L.length * 2 = (j - L.length) * 2 + 1 by omega]; exact h2

/-- The cells of what the call owns, at its head. -/
theorem own_news {w : World} {base n c : Nat} {e : TypeId} {A : Option Addr} {vs : List Value} (h : w.ownsRow base e 2 (.slice A n c) n vs) (hA : A ≠ none) : ∃ ad, A = some ad ∧ ∀ j u, vs[j]? = some u → w.cell? (ad.add j) = some u := by
  rcases h.2 with ⟨hv, hn⟩ | ⟨g, cap, cur, hv, hb, hg, hc, hm, hs, ht⟩
  · injection hv with h1 h2 h3
    exact absurd h1 hA
  · injection hv with h1 h2 h3
    exact ⟨⟨g, 0, none⟩, h1, h.cells (by rw [h1]; rfl)⟩
theorem PsOf.grown {S : Nat → Prop} {W W' : World} {row : Option Nat} {vs : List Value} {L : Pairs} (h : PsOf S W vs L) (hg : W.grownBy W' row) (hS : ∀ b, S b → b < W.heap.size → row ≠ some b) : PsOf S W' vs L :=
  h.carry hg.size fun b hb hlt => hg.block b hlt (fun e => hS b hb hlt e.symm)
theorem BIn.grown {S : Nat → Prop} {W W' : World} {row : Option Nat} {v : Value} {l : Bytes} (h : BIn S W v l) (hg : W.grownBy W' row) (hS : ∀ b, S b → b < W.heap.size → row ≠ some b) : BIn S W' v l :=
  h.carry hg.size fun b hb hlt => hg.block b hlt (fun e => hS b hb hlt e.symm)
theorem PsOf.one_ {n : Nat} (vs : List Value) (h : ∀ u ∈ vs, ∃ A n c, u = Value.slice A n c) : ∀ u ∈ vs, u.oneCell' = true := fun u hu => by
  obtain ⟨A, n, c, rfl⟩ := h u hu; rfl
theorem PsOf.slices {S : Nat → Prop} {W : World} {vs : List Value} {L : Pairs} (h : PsOf S W vs L) : ∀ u ∈ vs, u.oneCell' = true := by
  intro u hu
  obtain ⟨i, hi, rfl⟩ := List.getElem_of_mem hu
  have hl := h.len
  obtain ⟨kv, xv, e1, e2, e3, e4⟩ := h.at_ (i / 2) (by omega)
  rcases Nat.mod_two_eq_zero_or_one i with hm | hm
  · have ei : i / 2 * 2 = i := by omega
    rw [ei, List.getElem?_eq_getElem hi] at e1
    cases e1
    obtain ⟨A, n, c, e⟩ := e3.slice
    rw [e]; rfl
  · have ei : i / 2 * 2 + 1 = i := by omega
    rw [ei, List.getElem?_eq_getElem hi] at e2
    cases e2
    obtain ⟨A, n, c, e⟩ := e4.slice
    rw [e]; rfl

theorem fallback {S : Nat → Prop} {w W0 w1 Wb w3 w4 w5 : World} {B0 : Nat} {A1 A3 A4 A5 : Option Addr} {n1 c1 c3 n4 c4 c5 : Nat} {vs1 vs4 : List Value} {p1 p2 : Value} {k x : Bytes} {L R : Pairs}
    (hB0 : w.heap.size ≤ B0) (h0 : Below w.heap.size w w1) (h1 : OwnL B0 w1 A1 n1 c1 vs1 L) (hk : BIn S w p1 k) (hx : BIn S w p2 x) (hb : Below w1.heap.size w1 Wb)
    (h3 : w3.ownsRow B0 60 2 (.slice A3 (n1 + 1) c3) (n1 + 1) (vs1 ++ [p1, p2])) (g3 : Wb.grownBy w3 (Value.slice A1 n1 c1).ownBlock) (o3 : (Value.slice A3 (n1 + 1) c3).ownBlock = (Value.slice A1 n1 c1).ownBlock ∨ (Value.slice A3 (n1 + 1) c3).ownBlock = some Wb.heap.size)
    (h4 : OwnL w3.heap.size w4 A4 n4 c4 vs4 R) (b4 : Below w3.heap.size w3 w4)
    (h5 : w5.ownsRow B0 60 2 (.slice A5 (n1 + 1 + n4) c5) (n1 + 1 + n4) (vs1 ++ [p1, p2] ++ vs4)) (g5 : w4.grownBy w5 (Value.slice A3 (n1 + 1) c3).ownBlock) :
    (LIn (fun _ => True) w5 A5 (n1 + 1 + n4) (L ++ (k, x) :: R) ∧ n1 + 1 + n4 ≤ c5) ∧ Below w.heap.size w w5 := by
  have own1 := fun b (e : (Value.slice A1 n1 c1).ownBlock = some b) => h1.own.lt b e
  have own3 := fun b (e : (Value.slice A3 (n1 + 1) c3).ownBlock = some b) => h3.lt b e
  have s1 := h0.size
  have sb := hb.size
  have s3 := g3.size
  have s4 := b4.size
  have s5 := g5.size
  have hb1 : Below w.heap.size w Wb := h0.trans (hb.mono s1)
  have hb3 : Below w.heap.size w w3 := hb1.grown g3 (by omega) (fun b e => by have := own1 b e; omega)
  have hb4 : Below w.heap.size w w4 := hb3.trans (b4.mono (by omega))
  have hb5 : Below w.heap.size w w5 := hb4.grown g5 (by omega) (fun b e => by have := own3 b e; omega)
  -- the first list's pairs
  have q1 : PsOf (fun b => (B0 ≤ b ∧ (Value.slice A1 n1 c1).ownBlock ≠ some b) ∧ b < w1.heap.size) w1 vs1 L := h1.ps.imp fun b hlt h => ⟨h, hlt⟩
  have q3 := (q1.carry hb.size fun b hb' hlt => hb.block b hlt).grown g3 (fun b h _ => h.1.2)
  have q5 := (q3.carry b4.size fun b hb' hlt => b4.block b hlt).grown g5 (fun b h _ e => by
    rcases o3 with e3 | e3
    · exact h.1.2 (e3.symm.trans e)
    · rw [e3] at e; cases e; have := h.2; omega)
  -- the pair
  have far : ∀ b, b < w.heap.size → w5.heap[b]? = w.heap[b]? := fun b hlt => hb5.block b hlt
  have kk : BIn S w5 p1 k := hk.below hb5
  have xx : BIn S w5 p2 x := hx.below hb5
  -- the second list's pairs
  have r4 : PsOf (fun b => w3.heap.size ≤ b) w4 vs4 R := h4.ps.imp fun b _ h => h.1
  have r5 := r4.grown g5 (fun b h _ e => by have := (own3 b e).2; omega)
  have all : PsOf (fun _ => True) w5 (vs1 ++ [p1, p2] ++ vs4) (L ++ [(k, x)] ++ R) :=
    ((q5.imp fun _ _ _ => trivial).snoc (kk.imp fun _ _ _ => trivial) (xx.imp fun _ _ _ => trivial)).append (r5.imp fun _ _ _ => trivial)
  have hlen : (L ++ [(k, x)] ++ R).length = n1 + 1 + n4 := by simp [h1.len, h4.len]; omega
  have hres := reads_own (S := fun _ => True) h5 all hlen (fun _ _ _ => trivial) (fun _ _ => trivial)
  refine ⟨?_, hb5⟩
  rw [show L ++ (k, x) :: R = L ++ [(k, x)] ++ R by simp]
  exact hres


/-- What makes a tree tells: an even tree of these pairs. -/
def Made (S : Nat → Prop) (w w' : World) (e : Ending) (L : Pairs) : Prop := ∃ u T, e = .returned (.pointer u) ∧ T.list = L ∧ T.even ∧ TIn (Up S w.heap.size) w' (.pointer u) T ∧ Below w.heap.size w w'

/-- The first list with the pair behind it. -/
def Mid (w w3 : World) (p1 p2 : Value) (n1 : Nat) (L : Pairs) (A3 : Option Addr) (c3 : Nat) (vs3 : List Value) (B0 : Nat) : Prop :=
  ∃ w1 Wb A1 c1 vs1, w.heap.size ≤ B0 ∧ Below w.heap.size w w1 ∧ OwnL B0 w1 A1 n1 c1 vs1 L ∧ Below w1.heap.size w1 Wb ∧ vs3 = vs1 ++ [p1, p2] ∧
    w3.ownsRow B0 60 2 (.slice A3 (n1 + 1) c3) (n1 + 1) vs3 ∧ Wb.grownBy w3 (Value.slice A1 n1 c1).ownBlock ∧ ((Value.slice A3 (n1 + 1) c3).ownBlock = (Value.slice A1 n1 c1).ownBlock ∨ (Value.slice A3 (n1 + 1) c3).ownBlock = some Wb.heap.size)
theorem Mid.below {w3 X w1 Wb : World} {n1 B0 B c1 : Nat} {L : Pairs} {A1 : Option Addr} {vs1 : List Value}
    (hX : Below B X w1) (hB : B ≤ B0) (hB1 : B ≤ w1.heap.size) (h1 : OwnL B0 w1 A1 n1 c1 vs1 L) (hb : Below w1.heap.size w1 Wb) (g3 : Wb.grownBy w3 (Value.slice A1 n1 c1).ownBlock) : Below B X w3 :=
  (hX.trans (hb.mono hB1)).grown g3 (by have := hb.size; omega) (fun b e => by have := h1.own.lt b e; omega)
theorem Mid.end_ {S : Nat → Prop} {w w3 w4 w5 : World} {B0 : Nat} {A3 A4 A5 : Option Addr} {n1 c3 n4 c4 c5 : Nat} {vs3 vs4 : List Value} {p1 p2 : Value} {k x : Bytes} {L R : Pairs}
    (hm : Mid w w3 p1 p2 n1 L A3 c3 vs3 B0) (hk : BIn S w p1 k) (hx : BIn S w p2 x) (h4 : OwnL w3.heap.size w4 A4 n4 c4 vs4 R) (b4 : Below w3.heap.size w3 w4)
    (h5 : w5.ownsRow B0 60 2 (.slice A5 (n1 + 1 + n4) c5) (n1 + 1 + n4) (vs3 ++ vs4)) (g5 : w4.grownBy w5 (Value.slice A3 (n1 + 1) c3).ownBlock) :
    (LIn (fun _ => True) w5 A5 (n1 + 1 + n4) (L ++ (k, x) :: R) ∧ n1 + 1 + n4 ≤ c5) ∧ Below w.heap.size w w5 := by
  obtain ⟨w1, Wb, A1, c1, vs1, e1, e2, e3, e4, rfl, e6, e7, e8⟩ := hm
  exact fallback (W0 := w) e1 e2 e3 hk hx e4 e6 e7 e8 h4 b4 h5 g5

set_option maxRecDepth 100000 in
set_option maxHeartbeats 12800000 in
theorem mk_any {S : Nat → Prop} (lv pv rv : Value) (l r : PT) (k x : Bytes) (w : World) (hl : TIn S w lv l) (hp : PIn S w pv k x) (hr : TIn S w rv r)
    (hn : l.size + 1 + r.size ≤ 500000) (hel : l.even) (her : r.even) :
    Calls Tryz.prog 99 #[lv, pv, rv] w fun e w' => Made S w w' e (l.list ++ (k, x) :: r.list) := by
  obtain ⟨i0, hi, hz0, hz1, hz2⟩ := info_parts info39b
  obtain ⟨kv, xv, rfl, hk, hx⟩ := hp
  obtain ⟨lu, rfl⟩ := hl.ptr
  obtain ⟨ru, rfl⟩ := hr.ptr
  obtain ⟨A, n, c, rfl⟩ := hk.slice
  obtain ⟨A', n', c', rfl⟩ := hx.slice
  have hbox : Two (w.alloc (.cells #[.slice A n c, .slice A' n' c'] 60)) w.heap.size (.slice A n c) (.slice A' n' c') := heap_new w _
  have hb := (Below.refl _ w).alloc (Nat.le_refl _) (.cells #[.slice A n c, .slice A' n' c'] 60)
  have HB := Lib.hid hb
  have HL := Lib.hid (fun W (h : Below w.heap.size w W) => hl.below h)
  have HR := Lib.hid (fun W (h : Below w.heap.size w W) => hr.below h)
  have HP : Hid (∀ W, Below w.heap.size w W → PIn S W (.agg #[.slice A n c, .slice A' n' c']) k x) := fun W h => ⟨_, _, rfl, hk.below h, hx.below h⟩
  have HBC := Lib.hid (fun W (h : Below (w.heap.size + 1) (w.alloc (.cells #[.slice A n c, .slice A' n' c'] 60)) W) => (hbox.below h (by omega)).cells)
  have HEV := Lib.hid (And.intro hel her)
  have HK := Lib.hid (And.intro hk hx)
  have HNN := Lib.hid hn
  have hX1 : Hid (Below (w.heap.size + 1) (w.alloc (.cells #[.slice A n c, .slice A' n' c'] 60)) (w.alloc (.cells #[.slice A n c, .slice A' n' c'] 60))) := Below.refl _ _
  have HXS : Hid (w.heap.size + 1 ≤ (w.alloc (.cells #[.slice A n c, .slice A' n' c'] 60)).heap.size) := (by simp : w.heap.size + 1 ≤ (w.alloc (.cells #[.slice A n c, .slice A' n' c'] 60)).heap.size)
  have HES := Lib.hid (fun W => even_any l.size r.size W (by omega) (by omega))
  clear hbox hb hl hk hx hr hel her
  go_enter Tryz.func99, Tryz.ntmps99
  go_upto_block 0 with fail
  generalize w.alloc (.cells #[.slice A n c, .slice A' n' c'] 60) = X at *
  go_cut [] (fun wx => Below w.heap.size w wx ∧ Below (w.heap.size + 1) X wx ∧ w.heap.size + 1 ≤ wx.heap.size)
  case first =>
    have HLX := HL.out X HB.out
    have HRX := HR.out X HB.out
    have HT1 := Lib.hid (tsize_any l (.pointer lu) X HLX)
    have HT2 := Lib.hid (tsize_any r (.pointer ru) X HRX)
    obtain ⟨b0, b1⟩ := HBC.out _ hX1.out
    have hcl : Hid ((l.size : Int) < r.size ↔ l.size < r.size) := by constructor <;> (intro h; omega)
    clear HLX HRX
    go_wp2_with fail
    refine HT1.out.mono ?_
    rintro e w1 ⟨rfl, rfl⟩
    go_wp2_with fail
    refine HT2.out.mono ?_
    rintro e w1 ⟨rfl, rfl⟩
    go_wp2_with fail
    refine (HES.out _).mono ?_
    rintro e w1 ⟨rfl, rfl⟩
    have HX := Lib.hid (trivial : True)
    cases hev : evenB l.size r.size
    · have HEV0 := Lib.hid hev
      clear hev
      go_wp2_with fail
      refine HT1.out.mono ?_
      rintro e w1 ⟨rfl, rfl⟩
      go_wp2_with fail
      refine HT2.out.mono ?_
      rintro e w1 ⟨rfl, rfl⟩
      by_cases hlt : (l.size : Int) < r.size
      · cases r with
        | nil => simp only [PT.size] at hlt; omega
        | node I ok ox U =>
          have HTL := Lib.hid (turnLeft_any (.pointer lu) (.agg #[.slice A n c, .slice A' n' c']) (.pointer ru) l I U k x ok ox X (HL.out X HB.out) (HP.out X HB.out) (HR.out X HB.out) (by have := HNN.out; simp only [PT.size] at this; omega) HEV.out.1 HEV.out.2.2.1 HEV.out.2.2.2)
          go_wp2_with fail
          refine HTL.out.mono ?_
          rintro e w2 ⟨hT | ⟨bt, T, rfl, t1, t2, t3⟩, hbw⟩
          · subst hT
            have HW := Lib.hid hbw
            clear hbw
            go_wp2_with fail
            go_meet
            exact ⟨HB.out.trans (HW.out.mono HB.out.size), hX1.out.trans (HW.out.mono HXS.out), Nat.le_trans HXS.out HW.out.size⟩
          · have HF : Hid (T.list = l.list ++ (k, x) :: (PT.node I ok ox U).list ∧ T.even ∧ TIn (Up S w.heap.size) w2 (.pointer (some bt)) T ∧ Below w.heap.size w w2) := ⟨t1, t2, t3.imp (fun b _ hb => by rcases hb with hb | hb; exact .inl hb; exact .inr (Nat.le_trans HB.out.size hb)), HB.out.trans (hbw.mono HB.out.size)⟩
            clear t1 t2 t3 hbw
            go_wp2_with fail
            go_ret
            exact ⟨some bt, T, rfl, HF.out⟩
      · cases l with
        | nil =>
          exfalso
          have h0 := HEV0.out
          simp only [PT.size] at h0 hlt
          have h1 : r.size = 0 := by omega
          rw [h1] at h0
          exact absurd h0 (by decide)
        | node U ok ox I =>
          have HTL := Lib.hid (turnRight_any (.pointer lu) (.agg #[.slice A n c, .slice A' n' c']) (.pointer ru) r I U k x ok ox X (HL.out X HB.out) (HP.out X HB.out) (HR.out X HB.out) (by have := HNN.out; simp only [PT.size] at this; omega) HEV.out.2 HEV.out.1.2.2 HEV.out.1.2.1)
          go_wp2_with fail
          refine HTL.out.mono ?_
          rintro e w2 ⟨hT | ⟨bt, T, rfl, t1, t2, t3⟩, hbw⟩
          · subst hT
            have HW := Lib.hid hbw
            clear hbw
            go_wp2_with fail
            go_meet
            exact ⟨HB.out.trans (HW.out.mono HB.out.size), hX1.out.trans (HW.out.mono HXS.out), Nat.le_trans HXS.out HW.out.size⟩
          · have HF : Hid (T.list = (PT.node U ok ox I).list ++ (k, x) :: r.list ∧ T.even ∧ TIn (Up S w.heap.size) w2 (.pointer (some bt)) T ∧ Below w.heap.size w w2) := ⟨t1, t2, t3.imp (fun b _ hb => by rcases hb with hb | hb; exact .inl hb; exact .inr (Nat.le_trans HB.out.size hb)), HB.out.trans (hbw.mono HB.out.size)⟩
            clear t1 t2 t3 hbw
            go_wp2_with fail
            go_ret
            exact ⟨some bt, T, rfl, HF.out⟩
    · have HE1 := Lib.hid hev
      clear hev
      go_wp2_with fail
      refine (node_any (.pointer lu) (.agg #[.slice A n c, .slice A' n' c']) (.pointer ru) l r k x _ (HL.out X HB.out) (HP.out X HB.out) (HR.out X HB.out) (by have := HNN.out; omega)).mono ?_
      rintro e w2 ⟨q, rfl, t1, t2⟩
      have HF : Hid (TIn (Up S w.heap.size) w2 (.pointer (some q)) (.node l k x r) ∧ Below w.heap.size w w2) := ⟨t1.imp (fun b _ hb => by rcases hb with hb | hb; exact .inl hb; exact .inr (Nat.le_trans HB.out.size hb)), HB.out.trans (t2.mono HB.out.size)⟩
      clear t1 t2
      go_wp2_with fail
      go_ret
      exact ⟨some q, .node l k x r, rfl, rfl, ⟨HE1.out, HEV.out.1, HEV.out.2⟩, HF.out⟩
  case rest =>
    obtain ⟨hb1, hb2, hsz⟩ := hcut
    have H0 := Lib.hid hb1
    have H1 := Lib.hid hb2
    have HSZ := Lib.hid hsz
    clear hb1 hb2 hsz
    obtain ⟨b0, b1⟩ := HBC.out _ H1.out
    have HL0 := Lib.hid (HL.out _ (below_drew2 H0.out))
    have HL1 := Lib.hid (HL.out _ (below_drew2 (H0.out.alloc (by have := HSZ.out; omega) (.cells #[.slice A n c, .slice A' n' c'] 60))))
    have hn1 : l.size ≤ 1000000 := by omega
    have hn2 : r.size ≤ 1000000 := by omega
    have HC := Lib.hid (fun W (h : Below (w.heap.size + 1) X W) => HBC.out _ h)
    go_wp2_with fail
    go_region_held3 (fun w' => w'.cell? ⟨w.heap.size, 0, none⟩ = some (.slice A n c) ∧ w'.cell? ⟨w.heap.size, 1, none⟩ = some (.slice A' n' c'))
      (first | with_reducible exact HC.out _ H1.out | with_reducible exact HC.out _ (below_drew2 H1.out) | with_reducible exact HC.out _ H11.out | with_reducible exact HC.out _ H31.out | with_reducible exact HC.out _ H41.out | with_reducible exact HC.out _ H51.out | go_keep)
      (first
        | (go_at_call_of 117 (Value.pointer lu); (with_reducible refine (listO_any l (.pointer lu) _ HL0.out hn1).mono ?_); rintro e w1 ⟨A1, c1, vs1, rfl, ho1, hbb1⟩; have H11 : Hid (Below (w.heap.size + 1) X w1) := (below_drew2 H1.out).trans (hbb1.mono HSZ.out); have HOO : Hid (OwnL wc.heap.size w1 A1 l.size c1 vs1 l.list ∧ Below w.heap.size w w1 ∧ Below wc.heap.size wc w1) := ⟨ho1, (below_drew2 H0.out).trans (hbb1.mono H0.out.size), below_drew1 hbb1⟩; clear ho1 hbb1)
        | (go_at_call_of 117 (Value.pointer lu); (with_reducible refine (listO_any l (.pointer lu) _ HL1.out hn1).mono ?_); rintro e w1 ⟨A1, c1, vs1, rfl, ho1, hbb1⟩; have H11 : Hid (Below (w.heap.size + 1) X w1) := (below_drew2 (H1.out.alloc HSZ.out _)).trans (hbb1.mono (by have := HSZ.out; simp; omega)); have HOO : Hid (OwnL (wc.heap.size + 1) w1 A1 l.size c1 vs1 l.list ∧ Below w.heap.size w w1 ∧ w1.heap[wc.heap.size]? = some (.cells #[.slice A n c, .slice A' n' c'] 60 (0, 0)) ∧ wc.heap.size + 1 ≤ w1.heap.size) := ⟨by simpa using ho1, (below_drew2 (H0.out.alloc H0.out.size _)).trans (hbb1.mono (by have := H0.out.size; simp; omega)), (hbb1.block _ (by simp)).trans (heap_new wc _), by have := hbb1.size; simpa using this⟩; clear ho1 hbb1)
        | (go_at_call_of 117 (Value.pointer ru); (with_reducible refine (listO_any r (.pointer ru) _ (HR.out _ H30.out) hn2).mono ?_); rintro e w4 ⟨A4, c4, vs4, rfl, ho4, hbb4⟩; have H41 : Hid (Below (w.heap.size + 1) X w4) := H31.out.trans (hbb4.mono (by have h1 := HSZ.out; have h2 := HB0S.out; omega)); have HO4 : Hid (OwnL w3.heap.size w4 A4 r.size c4 vs4 r.list ∧ Below w3.heap.size w3 w4) := ⟨ho4, hbb4⟩; clear ho4 hbb4)
        | (refine step_append_v _ (by rfl) (.tmp 41) (.tmp 43) 69 (by rfl) wc.heap.size 60 i0 _ 2 48 Tryz.underlying69 hi hz0 hz1 hz2 rfl (by omega) (.slice A1 l.size c1) l.size vs1 (by simp [Act.eval]) (HOO.out.1.own.alloc _) ⟨w1.heap.size, 0, none⟩ 1 1 [.slice A n c, .slice A' n' c'] (by simp [Act.eval]) rfl (World.news_of_block (heap_new w1 _)) (by simp [Value.oneCell']) (by unfold maxLen; omega) (by omega) (by have := HOO.out.2.2.size; simp; omega) ?_; intro A3 c3 w3 h3 g3 o3; have hbn : Below w1.heap.size w1 (w1.alloc (.cells #[.slice A n c, .slice A' n' c'] 60)) := (Below.refl _ _).alloc (Nat.le_refl _) _; have H31 : Hid (Below (w.heap.size + 1) X w3) := Mid.below H11.out HSZ.out (Nat.le_trans HSZ.out HOO.out.2.2.size) HOO.out.1 hbn g3; have H30 : Hid (Below w.heap.size w w3) := Mid.below HOO.out.2.1 H0.out.size HOO.out.2.1.size HOO.out.1 hbn g3; have HMID : Hid (Mid w w3 (.slice A n c) (.slice A' n' c') l.size l.list A3 c3 (vs1 ++ [.slice A n c, .slice A' n' c']) wc.heap.size) := ⟨w1, _, A1, c1, vs1, H0.out.size, HOO.out.2.1, HOO.out.1, hbn, rfl, h3, g3, o3⟩; have HB0S : Hid (wc.heap.size ≤ w3.heap.size) := (by have h1 := HOO.out.2.2.size; have h2 := g3.size; simp at h2; exact (by omega : wc.heap.size ≤ w3.heap.size)); clear h3 g3 o3 hbn)
        | (refine step_append_v _ (by rfl) (.tmp 41) (.tmp 43) 69 (by rfl) (wc.heap.size + 1) 60 i0 _ 2 48 Tryz.underlying69 hi hz0 hz1 hz2 rfl (by omega) (.slice A1 l.size c1) l.size vs1 (by simp [Act.eval]) HOO.out.1.own ⟨wc.heap.size, 0, none⟩ 1 1 [.slice A n c, .slice A' n' c'] (by simp [Act.eval]) rfl (World.news_of_block HOO.out.2.2.1) (by simp [Value.oneCell']) (by unfold maxLen; omega) (by omega) HOO.out.2.2.2 ?_; intro A3 c3 w3 h3 g3 o3; have hbn : Below w1.heap.size w1 w1 := Below.refl _ _; have H31 : Hid (Below (w.heap.size + 1) X w3) := Mid.below H11.out (by have := HSZ.out; omega) (by have := HSZ.out; have := HOO.out.2.2.2; omega) HOO.out.1 hbn g3; have H30 : Hid (Below w.heap.size w w3) := Mid.below HOO.out.2.1 (by have := HSZ.out; omega) HOO.out.2.1.size HOO.out.1 hbn g3; have HMID : Hid (Mid w w3 (.slice A n c) (.slice A' n' c') l.size l.list A3 c3 (vs1 ++ [.slice A n c, .slice A' n' c']) (wc.heap.size + 1)) := ⟨w1, _, A1, c1, vs1, by have := HSZ.out; omega, HOO.out.2.1, HOO.out.1, hbn, rfl, h3, g3, o3⟩; have HB0S : Hid (wc.heap.size + 1 ≤ w3.heap.size) := Nat.le_trans HOO.out.2.2.2 g3.size; clear h3 g3 o3 hbn)
        | (obtain ⟨w1', Wb, A1', c1', vs1', e1, e2, e3, e4, e5, e6, e7, e8⟩ := HMID.out; obtain ⟨ad4, rfl, hnw4⟩ := own_news HO4.out.1.own HO4.out.1.is; refine step_append_v _ (by rfl) (.tmp 44) (.tmp 46) 69 (by rfl) wc.heap.size 60 i0 _ 2 48 Tryz.underlying69 hi hz0 hz1 hz2 rfl (by omega) (.slice A3 (l.size + 1) c3) (l.size + 1) (vs1 ++ [.slice A n c, .slice A' n' c']) (by simp [Act.eval]) (own_below e6 HO4.out.2) ad4 r.size c4 vs4 (by simp [Act.eval]) HO4.out.1.own.1 hnw4 HO4.out.1.ps.slices (by unfold maxLen; omega) (by omega) (Nat.le_trans HB0S.out HO4.out.2.size) ?_; intro A5 c5 w5 h5 g5 o5; have HRES : Hid ((LIn (fun _ => True) w5 A5 (l.size + 1 + r.size) (l.list ++ (k, x) :: r.list) ∧ l.size + 1 + r.size ≤ c5) ∧ Below w.heap.size w w5) := Mid.end_ HMID.out HK.out.1 HK.out.2 HO4.out.1 HO4.out.2 h5 g5; have H51 : Hid (Below (w.heap.size + 1) X w5) := H41.out.grown g5 (Nat.le_trans HSZ.out (by have := HB0S.out; have := HO4.out.2.size; omega)) (fun b e => by have := e6.lt b e; have := HSZ.out; omega); clear h5 g5 o5 e1 e2 e3 e4 e5 e6 e7 e8 hnw4)
        | (obtain ⟨w1', Wb, A1', c1', vs1', e1, e2, e3, e4, e5, e6, e7, e8⟩ := HMID.out; obtain ⟨ad4, rfl, hnw4⟩ := own_news HO4.out.1.own HO4.out.1.is; refine step_append_v _ (by rfl) (.tmp 44) (.tmp 46) 69 (by rfl) (wc.heap.size + 1) 60 i0 _ 2 48 Tryz.underlying69 hi hz0 hz1 hz2 rfl (by omega) (.slice A3 (l.size + 1) c3) (l.size + 1) (vs1 ++ [.slice A n c, .slice A' n' c']) (by simp [Act.eval]) (own_below e6 HO4.out.2) ad4 r.size c4 vs4 (by simp [Act.eval]) HO4.out.1.own.1 hnw4 HO4.out.1.ps.slices (by unfold maxLen; omega) (by omega) (Nat.le_trans HB0S.out HO4.out.2.size) ?_; intro A5 c5 w5 h5 g5 o5; have HRES : Hid ((LIn (fun _ => True) w5 A5 (l.size + 1 + r.size) (l.list ++ (k, x) :: r.list) ∧ l.size + 1 + r.size ≤ c5) ∧ Below w.heap.size w w5) := Mid.end_ HMID.out HK.out.1 HK.out.2 HO4.out.1 HO4.out.2 h5 g5; have H51 : Hid (Below (w.heap.size + 1) X w5) := H41.out.grown g5 (Nat.le_trans HSZ.out (by have := HB0S.out; have := HO4.out.2.size; omega)) (fun b e => by have := e6.lt b e; have := HSZ.out; omega); clear h5 g5 o5 e1 e2 e3 e4 e5 e6 e7 e8 hnw4))
    all_goals
      go_wp2_with fail
      refine (from_any (l.size + 1 + r.size) (l.list ++ (k, x) :: r.list) A5 c5 _ HRES.out.1.1 HRES.out.1.2 HNN.out).mono ?_
      rintro e w6 ⟨u, T, rfl, e1, e2, e3, e4⟩
      obtain ⟨u', rfl⟩ := e3.ptr
      have HF : Hid (T.list = l.list ++ (k, x) :: r.list ∧ T.even ∧ TIn (Up S w.heap.size) w6 (.pointer u') T ∧ Below w.heap.size w w6) := ⟨e1, e2, e3.imp (fun b _ hb => .inr (Nat.le_trans HRES.out.2.size hb)), HRES.out.2.trans (e4.mono HRES.out.2.size)⟩
      clear e1 e2 e3 e4
      go_wp2_with fail
      go_ret
      exact ⟨u', T, rfl, HF.out⟩

end Go.Proofs.YtphjaebkcimklaaGreatDoor
