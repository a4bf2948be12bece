/- Texts put together: FBehind FOf FSum. -/
import Derived.Test.YtphjaebkcimklaaGreatDoorMe
import Derived.Test.YtphjaebkcimklaaGreatDoorMr
import Derived.Test.YtphjaebkcimklaaGreatDoorMy
import Derived.Test.YtphjaebkcimklaaGreatDoorMz
/- The least key behind all that begin so: the plain law. -/
set_option linter.unusedVariables false
set_option linter.unusedSimpArgs false
namespace Go.Proofs.YtphjaebkcimklaaGreatDoor
open Go.RowKit
attribute [local go_sem] Oper.semAt_some

/-- The least key behind all that begin so. -/
def behind : Bytes → Option Bytes
  | [] => none
  | a :: l => match behind l with
    | some b => some (a :: b)
    | none => if a = 255 then none else some [a + 1]
theorem behind_all : ∀ l : Bytes, (∀ x ∈ l, x = 255) → behind l = none
  | [], _ => rfl
  | a :: l, h => by
    rw [behind, behind_all l fun x hx => h x (List.mem_cons_of_mem _ hx)]
    simp [h a (List.mem_cons_self ..)]
theorem behind_at (b : UInt8) (s : Bytes) (hb : b ≠ 255) (hs : ∀ x ∈ s, x = 255) : ∀ p : Bytes, behind (p ++ b :: s) = some (p ++ [b + 1])
  | [] => by rw [List.nil_append, behind, behind_all s hs]; simp [hb]
  | a :: p => by rw [List.cons_append, behind, behind_at b s hb hs p]; rfl
theorem u8_lt (a b : UInt8) : a < b ↔ a.toNat < b.toNat := UInt8.lt_iff_toNat_lt
/-- A key begins so just if it lies between. -/
theorem behind_in : ∀ (l k : Bytes), (¬ cmp k l = -1 ∧ ∀ b, behind l = some b → cmp k b = -1) ↔ l <+: k
  | [], k => by
    have : ¬ cmp k [] = -1 := by cases k <;> simp [Lib.compareBytes]
    simp [behind, this]
  | a :: l, [] => by simp [Lib.compareBytes]
  | a :: l, c :: k => by
    have ih := behind_in l k
    rw [List.cons_prefix_cons]
    by_cases h1 : c = a
    · subst h1
      have hself : ∀ x y : Bytes, cmp (c :: x) (c :: y) = cmp x y := fun x y => by simp [Lib.compareBytes]
      rw [hself]
      constructor
      · rintro ⟨h2, h3⟩
        refine ⟨rfl, ih.1 ⟨h2, fun b hb => ?_⟩⟩
        have := h3 (c :: b) (by rw [behind, hb])
        rwa [hself] at this
      · rintro ⟨_, h2⟩
        obtain ⟨h3, h4⟩ := ih.2 h2
        refine ⟨h3, fun b hb => ?_⟩
        rw [behind] at hb
        cases hl : behind l with
        | some b' =>
          rw [hl] at hb
          simp only [Option.some.injEq] at hb
          subst hb
          rw [hself]
          exact h4 b' hl
        | none =>
          rw [hl] at hb
          simp only at hb
          by_cases h255 : c = 255
          · rw [if_pos h255] at hb; cases hb
          · rw [if_neg h255] at hb
            simp only [Option.some.injEq] at hb
            subst hb
            have hc : c < c + 1 := by
              rw [u8_lt, UInt8.toNat_add]
              have h1 := c.toNat_lt
              have h2 : c.toNat ≠ 255 := fun e => h255 (UInt8.toNat_inj.1 e)
              have h3 : (1 : UInt8).toNat = 1 := rfl
              omega
            simp [Lib.compareBytes, hc]
    · constructor
      · rintro ⟨h2, h3⟩
        exfalso
        have hac : a < c := by
          rcases Nat.lt_trichotomy c.toNat a.toNat with h | h | h
          · exfalso; apply h2
            have : c < a := (u8_lt _ _).2 h
            simp [Lib.compareBytes, this]
          · exact absurd (UInt8.toNat_inj.1 h) h1
          · exact (u8_lt _ _).2 h
        have hnca : ¬ c < a := by rw [u8_lt] at hac ⊢; omega
        cases hl : behind l with
        | some b' =>
          have := h3 (a :: b') (by rw [behind, hl])
          simp [Lib.compareBytes, hnca, hac] at this
        | none =>
          by_cases h255 : a = 255
          · rw [u8_lt, h255] at hac
            have := c.toNat_lt
            have h3 : (255 : UInt8).toNat = 255 := rfl
            omega
          · have := h3 [a + 1] (by rw [behind, hl]; simp [h255])
            have hn1 : ¬ c < a + 1 := by
              rw [u8_lt] at hac ⊢
              rw [UInt8.toNat_add]
              have h3 : (1 : UInt8).toNat = 1 := rfl
              have h4 := a.toNat_lt
              have h5 := c.toNat_lt
              omega
            by_cases h6 : a + 1 < c
            · simp [Lib.compareBytes, hn1, h6] at this
            · simp [Lib.compareBytes, hn1, h6] at this
              cases k <;> simp [Lib.compareBytes] at this
      · rintro ⟨h, _⟩; exact absurd h.symm h1
/-- The stretch of the keys that begin so. -/
theorem of_in (l k : Bytes) : inB l ((behind l).getD []) (behind l).isSome k = decide (l <+: k) := by
  unfold inB
  have h := behind_in l k
  rw [Bool.eq_iff_iff]
  simp only [Bool.and_eq_true, Bool.or_eq_true, Bool.not_eq_true', decide_eq_true_eq, decide_eq_false_iff_not]
  rw [← h]
  cases hb : behind l with
  | none => simp
  | some b => simp

end Go.Proofs.YtphjaebkcimklaaGreatDoor

/- keys.Behind, keys.Of. -/
set_option linter.unusedVariables false
set_option linter.unusedSimpArgs false
namespace Go.Proofs.YtphjaebkcimklaaGreatDoor
open Go.RowKit
attribute [local go_sem] Oper.semAt_some

/-- A block that may be written. -/
def Nf (W : World) (b : Nat) : Prop := ∃ arr T, W.heap[b]? = some (.cells arr T (0, 0))
theorem Nf.lt {W : World} {b : Nat} (h : Nf W b) : b < W.heap.size := by obtain ⟨_, _, h⟩ := h; exact (Array.getElem?_eq_some_iff.1 h).1
theorem Nf.same {W W' : World} {b : Nat} (h : Nf W b) (hb : W'.heap[b]? = W.heap[b]?) : Nf W' b := by obtain ⟨arr, T, h⟩ := h; exact ⟨arr, T, hb.trans h⟩
def NfV (W : World) (v : Value) : Prop := ∀ A n c b o, v = .slice A n c → 0 < n → A = some ⟨b, o, none⟩ → Nf W b
theorem NfV.below {W W' : World} {v : Value} (h : NfV W v) (hb : Below W.heap.size W W') : NfV W' v := fun A n c b o e hn ea => (h A n c b o e hn ea).same (hb.block b (h A n c b o e hn ea).lt)

set_option maxHeartbeats 1600000 in
theorem clone_nf {S : Nat → Prop} (v : Value) (l : Bytes) (w : World) (h : BIn S w v l) :
    Calls Tryz.prog 41 #[v] w fun e w' => ∃ A n c, e = .returned (.slice A n c) ∧ BIn (New w.heap.size) w' (.slice A n c) l ∧ Below w.heap.size w w' ∧ NfV w' (.slice A n c) := by
  obtain ⟨A, n, c, rfl, ⟨hc, h5⟩, hR, _⟩ := h
  have q27 := nil27
  obtain ⟨i0, hi, hz0, hz1, hz2⟩ := info_parts info5
  have hlen := hR.len
  cases A with
  | none =>
    have hn : n = 0 := by
      rcases Nat.eq_zero_or_pos n with h | h
      · exact h
      · obtain ⟨b, o, e, _⟩ := hR.cell h; cases e
    subst hn
    clear hR
    go_enter Tryz.func41, Tryz.ntmps41
    go_wp2
    go_ret
    exact ⟨_, _, _, rfl, ⟨none, 0, 0, rfl, ⟨Nat.le_refl _, by omega⟩, ⟨hlen, by omega, fun h => by omega⟩, fun b o h => by omega⟩, Below.refl _ _, fun _ _ _ _ _ e hn => by cases e; omega⟩
  | some a =>
    have HA : Hid (∀ i, i < n → w.cell? (a.add i) = some (.int .u8 ((l.getD i 0).toNat : Int))) := by
      intro i hi
      obtain ⟨b, o, e, _, hcell⟩ := hR.cell (by omega)
      cases e
      rw [addP]
      exact hcell i hi
    clear hR
    go_enter Tryz.func41, Tryz.ntmps41
    go_wp2_with (at_builtin; refine wpList_append_own _ rfl _ _ 23 rfl w.heap.size 5 i0 (.int .u8 0) 1 1 Tryz.underlying23 hi hz0 hz1 hz2 rfl (by decide) _ _ _ rfl (World.ownsRow_made w #[] 0 (Nat.le_refl _) (Nat.zero_le _) rfl) a n c (bvals l) rfl ?qc1 ?qc2 ?qc3 ?qc4 ?qc5 ?qc6 ?_)
    case qc1 => simp [bvals]; omega
    case qc2 =>
      intro j u hj
      have hjn : j < n := by
        have := (List.getElem?_eq_some_iff.1 hj).1
        simp [bvals] at this
        omega
      refine Lib.cell?_alloc_some _ ?_
      rw [HA.out j hjn]
      have e : (bvals l)[j]? = some (Value.int .u8 ((l.getD j 0).toNat : Int)) := by simp [bvals, List.getD, List.getElem?_eq_getElem (show j < l.length by omega)]
      rw [e] at hj
      exact hj
    case qc3 => intro u hu; obtain ⟨x, _, rfl⟩ := List.mem_map.1 hu; rfl
    case qc4 => unfold maxLen; omega
    case qc5 => omega
    case qc6 => simp
    intro v' w1 hown hgrow hnil
    have hb : Below w.heap.size w w1 := ((Below.refl _ w).alloc (Nat.le_refl _) _).grown hgrow (by simp) (by intro k hk; simp [Value.ownBlock] at hk; omega)
    have hB : BIn (New w.heap.size) w1 v' l := BIn.owned hlen h5 (by simpa using hown)
    have HB := Lib.hid hb
    have HNF : Hid (NfV w1 v') := by
      have hv : NfV w1 v' := by
        rcases hown.2 with ⟨hv, hn⟩ | ⟨g, cap, cur, hv, _, hg, _⟩
        · intro A n c b o e hn' ea; rw [hv] at e; cases e; omega
        · intro A n c b o e hn' ea; rw [hv] at e; cases e; cases ea; exact ⟨_, _, hg⟩
      exact hv
    have HI := Lib.hid hB
    clear hown hgrow hnil hb hB
    go_wp2
    go_ret
    obtain ⟨A', n', c', rfl, h'⟩ := HI.out
    exact ⟨A', n', c', rfl, HI.out, HB.out, HNF.out⟩


theorem BIn.setAt {S : Nat → Prop} {w : World} {b o n c : Nat} {l : Bytes} (h : BIn S w (.slice (some ⟨b, o, none⟩) n c) l) (j : Nat) (hj : j < n) (x : UInt8) :
    BIn S (w.setCell ⟨b, o + j, none⟩ (.int .u8 (x.toNat : Int))) (.slice (some ⟨b, o, none⟩) n c) (l.set j x) := by
  obtain ⟨A, n', c', e, h1, h2, h3⟩ := h
  cases e
  refine ⟨_, _, _, rfl, h1, ⟨by rw [List.length_set]; exact h2.len, h2.le, fun hn => ?_⟩, h3⟩
  obtain ⟨b1, o1, e, hlt, hc⟩ := h2.cell hn
  cases e
  refine ⟨b, o, rfl, by simp; exact hlt, fun i hi => ?_⟩
  by_cases hij : i = j
  · subst hij
    refine (World.cell?_setCell_same w _ _ (hc i hi)).trans ?_
    simp [List.getD_eq_getElem?_getD, List.getElem?_set, show i < l.length by rw [h2.len]; exact hi]
  · refine (World.cell?_setCell_other w _ _ _ (by intro e; injection e with e1 e2; omega)).trans ((hc i hi).trans ?_)
    simp [List.getD_eq_getElem?_getD, List.getElem?_set, Ne.symm hij]
/-- The least key behind all that begin so, as it is told. -/
def BehR (w w' : World) (e : Ending) (l : Bytes) : Prop := ∃ A' n' c', e = .returned (.tuple #[.slice A' n' c', .bool (behind l).isSome]) ∧ BIn (New w.heap.size) w' (.slice A' n' c') ((behind l).getD []) ∧ Below w.heap.size w w'

set_option maxRecDepth 100000 in
set_option maxHeartbeats 3200000 in
theorem behind_any {S : Nat → Prop} (A : Option Addr) (n c : Nat) (l : Bytes) (w : World) (h : BIn S w (.slice A n c) l) :
    Calls Tryz.prog 40 #[.slice A n c] w fun e w' => BehR w w' e l := by
  have hlen := h.length_eq
  have hn : n ≤ 100000 ∧ n ≤ c := by obtain ⟨_, _, _, e, h1, _⟩ := h; cases e; exact ⟨h1.2, h1.1⟩
  have H := Lib.hid h
  have HL := Lib.hid hlen
  have HNC := Lib.hid hn.2
  have hn5 := hn.1
  clear h hlen hn
  go_enter Tryz.func40, Tryz.ntmps40
  go_wp2_with fail
  go_loopw [4] (fun v wr => ∃ k : Nat, v = .int .i64 (k : Int) ∧ k ≤ n ∧ Hid (∀ x ∈ l.drop k, x = 255) ∧ Hid (w = wr)) (fun v _ => (intOf v).toNat)
  case atStart => exact ⟨n, rfl, Nat.le_refl _, Lib.hid (by rw [List.drop_of_length_le (by rw [HL.out]; exact Nat.le_refl _)]; intro x hx; cases hx), Lib.hid rfl⟩
  case round =>
    obtain ⟨k, rfl, hk, hall, hww⟩ := hrel
    obtain rfl := hww.out
    clear hww
    rcases k with _ | j
    · have HB : Hid (behind l = none) := behind_all l (by have := hall.out; rwa [List.drop_zero] at this)
      go_wp2_with fail
      go_ret2
      exact ⟨none, 0, 0, by rw [HB.out]; rfl, by rw [HB.out]; exact BIn.nil _ _, Below.refl _ _⟩
    · obtain ⟨A', n', c', e_, h1_, h2_, h3_⟩ := id H.out
      cases e_
      obtain ⟨b, o, rfl, hbl, hc⟩ := h2_.cell (by omega)
      have cj := hc j (by omega)
      have hjl : j < l.length := by rw [HL.out]; omega
      have hdj : l.drop j = l.getD j 0 :: l.drop (j + 1) := by
        rw [List.drop_eq_getElem_cons hjl, List.getD_eq_getElem?_getD, List.getElem?_eq_getElem hjl, Option.getD_some]
      obtain ⟨x, hx⟩ : ∃ x, l.getD j 0 = x := ⟨_, rfl⟩
      rw [hx] at cj hdj
      have hjp : (0 : Int) < ((j + 1 : Nat) : Int) := by omega
      have hjw : IntKind.i64.wrap (((j + 1 : Nat) : Int) - 1) = (j : Int) := (wsm _ (by omega)).trans (by omega)
      have hjw2 : IntKind.i64.wrap ((j : Int) + 1 - 1) = (j : Int) := (wsm _ (by omega)).trans (by omega)
      have hjn : (j : Int) < (n : Int) := by omega
      have hjn2 : ¬ n ≤ j := by omega
      have HDJ := Lib.hid (And.intro hdj hx)
      clear h1_ h2_ h3_ hc hdj hx
      by_cases h255 : x = 255
      · subst h255
        have hnum : ((255 : UInt8).toNat : Int) = 255 := rfl
        rw [hnum] at cj
        go_wp2_with fail
        go_roundw
        case rel => exact ⟨j, by go_num, by omega, Lib.hid (by rw [HDJ.out.1]; intro y hy; rcases List.mem_cons.1 hy with rfl | hy; rfl; exact hall.out y hy), by first | exact Lib.hid rfl | exact Lib.hid trivial⟩
        case measure => simp [intOf]
      · have hne : ¬ (x.toNat : Int) = 255 := fun e => h255 (UInt8.toNat_inj.1 (by have : (255 : UInt8).toNat = 255 := rfl; omega))
        have hne2 : ¬ x.toNat = 255 := fun e => hne (by omega)
        have HBH : Hid (behind l = some (l.take j ++ [x + 1])) := by
          have := behind_at x (l.drop (j + 1)) h255 hall.out (l.take j)
          rw [← HDJ.out.1, List.take_append_drop] at this
          exact this
        have HBT : Hid (BIn S w (.slice (some ⟨b, o, none⟩) (j + 1) c) (l.take (j + 1))) := H.out.take (j + 1) (by omega)
        have hslc : ((j + 1 : Nat) : Int) ≤ (c : Int) := by have := HNC.out; omega
        have hn0 : ¬ ((j + 1 : Nat) : Int) = 0 := by omega
        have hjc : j + 1 ≤ c := by have := HNC.out; omega
        have hjl2 : j + 1 ≤ n := hk
        go_wp2_with fail
        refine (clone_nf _ _ _ HBT.out).mono ?_
        rintro e w1 ⟨A2, n2, c2, rfl, hb2, hw2, hnf⟩
        have hl2 := hb2.length_eq
        rw [List.length_take, Nat.min_eq_left (by omega)] at hl2
        subst hl2
        obtain ⟨A3, n3, c3, e_, g1_, g2_, g3_⟩ := id hb2
        cases e_
        obtain ⟨b2, o2, rfl, hbl2, hc2⟩ := g2_.cell (by omega)
        have ck := hc2 j (by omega)
        obtain ⟨arr, ty, harr⟩ := hnf _ _ _ b2 o2 rfl (by omega) rfl
        have cf := frozen_of_row w1 b2 (o2 + j) arr ty harr
        have hgt : (l.take (j + 1)).getD j 0 = x := by
          rw [← HDJ.out.2]
          simp [List.getD_eq_getElem?_getD, List.getElem?_take]
        rw [hgt] at ck
        have hxl := x.toNat_lt
        have hwx : IntKind.u8.wrap ((x.toNat : Int) + 1) = ((x + 1).toNat : Int) := by
          rw [UInt8.toNat_add]
          have h1 : (1 : UInt8).toNat = 1 := rfl
          have h2 : x.toNat + 1 < 256 := by omega
          rw [h1, Nat.mod_eq_of_lt h2]
          rw [IntKind.wrap_u8']
          omega
        have hset := BIn.setAt hb2 j (by omega) (x + 1)
        have hls : (l.take (j + 1)).set j (x + 1) = l.take j ++ [x + 1] := by
          rw [List.take_succ_eq_append_getElem hjl, List.set_append_right _ _ (by simp; omega)]
          simp [Nat.min_eq_left (Nat.le_of_lt hjl)]
        rw [hls] at hset
        have hbw := hw2.setCell (p := ⟨b2, o2 + j, none⟩) (g3_ b2 o2 (by omega) rfl) (.int .u8 ((x + 1).toNat : Int))
        have HFIN := Lib.hid (And.intro hset hbw)
        clear hset hbw hls hgt harr hc2 g1_ g2_ g3_ hb2 hw2 hnf
        go_wp2_with fail
        go_ret2
        exact ⟨some ⟨b2, o2, none⟩, j + 1, c2, by rw [HBH.out]; rfl, by rw [HBH.out]; exact HFIN.out.1, HFIN.out.2⟩

/-- The stretch of the keys that begin so, as it is told. -/
def OfR (w w' : World) (e : Ending) (l : Bytes) : Prop := ∃ Af nf cf At nt ct, e = .returned (.agg #[.slice Af nf cf, .slice At nt ct, .bool (behind l).isSome]) ∧ Hid (SIn (fun _ => True) w' (.agg #[.slice Af nf cf, .slice At nt ct, .bool (behind l).isSome]) l ((behind l).getD []) (behind l).isSome ∧ Below w.heap.size w w')
theorem info25 : (Tryz.prog.info? 25).map (·.size) = some 3 := by kernel_rfl
theorem results_c {fn : Func} {p : Tmp} {ty : TypeId} (h : fn.results = #[.cell p ty]) (tmps : Array Value) (w : World) (A : Addr) (v : Value) (hp : tmps.getD p undef = .pointer (some A)) (hr : (loadVar ty A).run Tryz.prog w = .ok v w) :
    (results fn tmps).run Tryz.prog w = .ok v w := by
  have hp' : tmps[p]?.getD undef = .pointer (some A) := by simpa using hp
  simp [results, h, hp', asAddr, hr]

set_option maxRecDepth 100000 in
set_option maxHeartbeats 3200000 in
theorem of_any {S : Nat → Prop} (A : Option Addr) (n c : Nat) (l : Bytes) (w : World) (h : BIn S w (.slice A n c) l) :
    Calls Tryz.prog 17 #[.slice A n c] w fun e w' => OfR w w' e l := by
  have hb : Below w.heap.size w (w.alloc (.cells #[.slice none 0 0, .slice none 0 0, .bool false] 25)) := (Below.refl _ _).alloc (Nat.le_refl _) _
  have HT : Hid (Tri 25 (w.alloc (.cells #[.slice none 0 0, .slice none 0 0, .bool false] 25)) w.heap.size (.slice none 0 0) (.slice none 0 0) (.bool false)) := heap_new w _
  have HB := Lib.hid hb
  have HH := Lib.hid (h.below hb)
  have HBE := Lib.hid (behind_any A n c l _ (h.below hb))
  clear h hb
  go_enter Tryz.func17, Tryz.ntmps17
  go_upto_region 1 with (fail)
  generalize w.alloc (.cells #[.slice none 0 0, .slice none 0 0, .bool false] 25) = X at *
  go_wp2_with fail
  refine HBE.out.mono ?_
  rintro e w1 ⟨At, nt, ct, rfl, ht, hb1⟩
  have HB1 := Lib.hid (And.intro ht hb1)
  have HCL := Lib.hid (clone_nf (.slice A n c) l w1 (HH.out.below hb1))
  clear ht hb1 HBE
  obtain ⟨cb, hcb⟩ : ∃ cb, (behind l).isSome = cb := ⟨_, rfl⟩
  have HCB := Lib.hid hcb
  rw [hcb]
  clear hcb
  go_wp2_with fail
  refine HCL.out.mono ?_
  rintro e w2 ⟨Af, nf, cf, rfl, hf, hb2, _⟩
  have hb12 : Below X.heap.size X w2 := HB1.out.2.trans (hb2.mono HB1.out.2.size)
  have HT2 : Hid (w2.heap[w.heap.size]? = some (.cells #[.slice none 0 0, .slice none 0 0, .bool false] 25 (0, 0))) := (hb12.block _ HT.out.lt).trans HT.out
  have hlt := HT.out.lt
  have hset : ∀ b, b ≠ w.heap.size → (w2.setRow w.heap.size #[.slice Af nf cf, .slice At nt ct, .bool cb]).heap[b]? = w2.heap[b]? := fun b h2 => setRow_other _ _ _ _ h2
  have hx := HB1.out.2.size
  have HFIN : Hid (SIn (fun _ => True) (w2.setRow w.heap.size #[.slice Af nf cf, .slice At nt ct, .bool cb]) (.agg #[.slice Af nf cf, .slice At nt ct, .bool cb]) l ((behind l).getD []) cb ∧ Below w.heap.size w (w2.setRow w.heap.size #[.slice Af nf cf, .slice At nt ct, .bool cb])) := by
    refine ⟨⟨_, _, rfl, (hf.carry (by simp) fun b hb _ => hset b (by have : w1.heap.size ≤ b := hb; omega)).imp fun _ _ _ => trivial, ((HB1.out.1.below hb2).carry (by simp) fun b hb _ => hset b (by have : X.heap.size ≤ b := hb; omega)).imp fun _ _ _ => trivial⟩, ?_⟩
    exact below_setRow (HB.out.trans (hb12.mono HB.out.size)) (Nat.le_refl _) _
  have HW := Lib.hid (setRow_heap w2 w.heap.size _ #[.slice Af nf cf, .slice At nt ct, .bool cb] 25 _ HT2.out)
  clear hf hb2 hb12 hset hx hlt
  go_wp2_with (refine wpList_store_row rfl 25 _ _ rfl w.heap.size #[.slice Af nf cf, .slice At nt ct, .bool cb] rfl rfl 25 _ HT2.out (size_of info25 rfl) (by rfl) (by simp [Value.oneCell']) ?_)
  exact bodyPost_ret (results_c rfl _ _ ⟨w.heap.size, 0, none⟩ _ (by rfl) (run_loadVar_row _ _ 25 25 _ (0, 0) _ HW.out Tryz.underlying25 rfl (size_of info25 rfl))) rfl ⟨Af, nf, cf, At, nt, ct, by rw [HCB.out], by rw [HCB.out]; exact HFIN⟩

end Go.Proofs.YtphjaebkcimklaaGreatDoor

/- Groups' counts: each is that of the stretch of its beginning, and together they are all. -/
set_option linter.unusedVariables false
set_option linter.unusedSimpArgs false
namespace Go.Proofs.YtphjaebkcimklaaGreatDoor
open Go.RowKit
attribute [local go_sem] Oper.semAt_some

theorem take_mono : ∀ (w : Nat) (a b : Bytes), cmp a b = -1 → ¬ cmp (b.take w) (a.take w) = -1
  | 0, a, b, _ => by simp [Lib.compareBytes]
  | w + 1, [], b, _ => by cases b <;> simp [Lib.compareBytes]
  | w + 1, a :: xs, [], h => by simp [Lib.compareBytes] at h
  | w + 1, a :: xs, b :: ys, h => by
    simp only [List.take_succ_cons]
    have ih := take_mono w xs ys
    by_cases h1 : a < b
    · have h2 : ¬ b < a := by rw [u8_lt] at h1 ⊢; omega
      simp [Lib.compareBytes, h1, h2]
    · by_cases h2 : b < a
      · simp [Lib.compareBytes, h1, h2] at h
      · simp only [Lib.compareBytes, h1, h2, if_false] at h ⊢
        exact ih h
def cnt (wd : Nat) (M : Pairs) (l : Bytes) : Nat := M.countP fun q => decide (q.1.take wd = l)
theorem cnt_snoc (wd : Nat) (M : Pairs) (p : Bytes × Bytes) (l : Bytes) : cnt wd (M ++ [p]) l = cnt wd M l + (if p.1.take wd = l then 1 else 0) := by
  unfold cnt
  rw [List.countP_append, List.countP_singleton]
  simp
theorem lt_trans_le {a b c : Bytes} (h1 : cmp a b = -1) (h2 : ¬ cmp c b = -1) : cmp a c = -1 := by
  rcases cmp_cases b c with h | h | h
  · exact cmp_lt_trans _ _ _ h1 h
  · exact h ▸ h1
  · exact absurd h h2
/-- What gRun has counted of a sorted list. -/
theorem gRun_cnt (wd : Nat) (M : Pairs) (h : Asc M) : ∀ i, i ≤ M.length → (∀ g ∈ (gRun wd (M.take i)).1, g.2 = cnt wd (M.take i) g.1) ∧
    (∀ l n, (gRun wd (M.take i)).2 = some (l, n) → n = cnt wd (M.take i) l ∧ (∀ g ∈ (gRun wd (M.take i)).1, cmp g.1 l = -1) ∧ (∀ q ∈ M.take i, ¬ cmp l (q.1.take wd) = -1) ∧ (∀ j, i ≤ j → j < M.length → ¬ cmp ((M.getD j ([], [])).1.take wd) l = -1)) ∧
    ((gRun wd (M.take i)).2 = none → M.take i = []) := by
  intro i
  induction i with
  | zero => intro _; simp [gRun]
  | succ i ih =>
    intro hi
    obtain ⟨h1, h2, h3⟩ := ih (by omega)
    have htk : M.take (i + 1) = M.take i ++ [M.getD i ([], [])] := by
      rw [List.take_succ_eq_append_getElem (by omega), List.getD_eq_getElem?_getD, List.getElem?_eq_getElem (by omega), Option.getD_some]
    have hrun := gRun_take wd M i (by omega)
    have hfut : ∀ j, i + 1 ≤ j → j < M.length → ¬ cmp ((M.getD j ([], [])).1.take wd) ((M.getD i ([], [])).1.take wd) = -1 := fun j hj hjl => by
      refine take_mono wd _ _ ?_
      rw [List.getD_eq_getElem?_getD, List.getD_eq_getElem?_getD, List.getElem?_eq_getElem hjl, List.getElem?_eq_getElem (by omega), Option.getD_some, Option.getD_some]
      exact List.pairwise_iff_getElem.1 h i j (by omega) hjl (by omega)
    rw [hrun]
    generalize hs : gRun wd (M.take i) = s at *
    obtain ⟨em, cur⟩ := s
    obtain ⟨K, hK⟩ : ∃ K, (M.getD i ([], [])).1.take wd = K := ⟨_, rfl⟩
    rw [hK] at hfut
    cases cur with
    | none =>
      simp only [gAdd, hK]
      have h0 := h3 rfl
      have hem : em = [] := by
        have := gRun_bound wd (M.take i)
        rw [hs, h0] at this
        exact List.eq_nil_of_length_eq_zero (by simpa using this.1)
      subst hem
      refine ⟨fun g hg => (by cases hg), fun l n e => ?_, fun e => (by cases e)⟩
      simp only [Option.some.injEq, Prod.mk.injEq] at e
      obtain ⟨rfl, rfl⟩ := e
      refine ⟨by rw [htk, cnt_snoc, if_pos hK, h0]; simp [cnt], fun g hg => (by cases hg), fun q hq => ?_, hfut⟩
      rw [htk, h0, List.nil_append, List.mem_singleton] at hq
      subst hq
      rw [hK, cmp_self]; decide
    | some c =>
      obtain ⟨l, n⟩ := c
      simp only [gAdd, hK]
      obtain ⟨g1, g2, g3, g4⟩ := h2 l n rfl
      have hlK : ¬ cmp K l = -1 := hK ▸ g4 i (Nat.le_refl _) (by omega)
      by_cases hkl : K = l
      · subst hkl
        simp only [if_pos]
        refine ⟨fun g hg => ?_, fun l' n' e => ?_, fun e => by cases e⟩
        · rw [htk, cnt_snoc, if_neg (by rw [hK]; exact fun e => cmp_ne (g2 g hg) e.symm), Nat.add_zero]
          exact h1 g hg
        · simp only [Option.some.injEq, Prod.mk.injEq] at e
          obtain ⟨rfl, rfl⟩ := e
          refine ⟨by rw [htk, cnt_snoc, if_pos hK, g1], g2, fun q hq => ?_, hfut⟩
          rw [htk, List.mem_append, List.mem_singleton] at hq
          rcases hq with hq | rfl
          · exact g3 q hq
          · rw [hK, cmp_self]; decide
      · simp only [if_neg hkl]
        have hlt : cmp l K = -1 := by
          rcases cmp_cases l K with e | e | e
          · exact e
          · exact absurd e.symm hkl
          · exact absurd e hlK
        have hne : ∀ g ∈ em ++ [(l, n)], cmp g.1 K = -1 := fun g hg => by
          rcases List.mem_append.1 hg with hg | hg
          · exact cmp_lt_trans _ _ _ (g2 g hg) hlt
          · rw [List.mem_singleton] at hg; subst hg; exact hlt
        have hz : cnt wd (M.take i) K = 0 := by
          unfold cnt
          rw [List.countP_eq_zero]
          intro q hq
          rw [decide_eq_true_eq]
          intro e
          exact g3 q hq (e ▸ hlt)
        refine ⟨fun g hg => ?_, fun l' n' e => ?_, fun e => by cases e⟩
        · rw [htk, cnt_snoc, if_neg (by rw [hK]; exact fun e => cmp_ne (hne g hg) e.symm), Nat.add_zero]
          rcases List.mem_append.1 hg with hg | hg
          · exact h1 g hg
          · rw [List.mem_singleton] at hg; subst hg; exact g1
        · simp only [Option.some.injEq, Prod.mk.injEq] at e
          obtain ⟨rfl, rfl⟩ := e
          refine ⟨by rw [htk, cnt_snoc, if_pos hK, hz], hne, fun q hq => ?_, hfut⟩
          rw [htk, List.mem_append, List.mem_singleton] at hq
          rcases hq with hq | rfl
          · intro e2
            exact g3 q hq (cmp_lt_trans _ _ _ hlt e2)
          · rw [hK, cmp_self]; decide
theorem grps_cnt (wd : Nat) (M : Pairs) (h : Asc M) : ∀ g ∈ grps wd M, g.2 = cnt wd M g.1 := by
  have := gRun_cnt wd M h M.length (Nat.le_refl _)
  rw [List.take_length] at this
  intro g hg
  unfold grps at hg
  rcases List.mem_append.1 hg with hg | hg
  · exact this.1 g hg
  · rw [Option.mem_toList] at hg
    exact (this.2.1 g.1 g.2 hg).1
/-- All counts together. -/
def gsum (G : Grps) : Nat := (G.map (·.2)).sum
theorem gsum_append (G H : Grps) : gsum (G ++ H) = gsum G + gsum H := by simp [gsum]
theorem gRun_sum (wd : Nat) (M : Pairs) : ∀ i, i ≤ M.length → gsum ((gRun wd (M.take i)).1 ++ (gRun wd (M.take i)).2.toList) = i := by
  intro i
  induction i with
  | zero => intro _; simp [gRun, gsum]
  | succ i ih =>
    intro hi
    have := ih (by omega)
    rw [gRun_take wd M i (by omega)]
    generalize gRun wd (M.take i) = s at *
    obtain ⟨em, cur⟩ := s
    cases cur with
    | none => simp only [gAdd]; simp [gsum] at this ⊢; omega
    | some c =>
      obtain ⟨l, n⟩ := c
      simp only [gAdd]
      split <;> simp [gsum] at this ⊢ <;> omega
theorem grps_sum (wd : Nat) (M : Pairs) : gsum (grps wd M) = M.length := by
  have := gRun_sum wd M M.length (Nat.le_refl _)
  rwa [List.take_length] at this
/-- Each beginning is as wide as was asked, where no key is shorter. -/
theorem gRun_len (wd : Nat) (M : Pairs) (h : ∀ p ∈ M, wd ≤ p.1.length) : ∀ i, i ≤ M.length → ∀ g ∈ (gRun wd (M.take i)).1 ++ (gRun wd (M.take i)).2.toList, g.1.length = wd := by
  intro i
  induction i with
  | zero => intro _ g hg; simp [gRun] at hg
  | succ i ih =>
    intro hi g hg
    have ih := ih (by omega)
    have hm : M.getD i ([], []) ∈ M := by rw [List.getD_eq_getElem?_getD, List.getElem?_eq_getElem (by omega), Option.getD_some]; exact List.getElem_mem _
    have hK : ((M.getD i ([], [])).1.take wd).length = wd := by rw [List.length_take]; have := h _ hm; omega
    rw [gRun_take wd M i (by omega)] at hg
    generalize gRun wd (M.take i) = s at *
    obtain ⟨em, cur⟩ := s
    generalize (M.getD i ([], [])).1 = k0 at hg hK
    cases cur with
    | none =>
      simp only [gAdd, Option.toList_some, List.mem_append, List.mem_singleton] at hg
      rcases hg with hg | rfl
      · exact ih g (List.mem_append_left _ hg)
      · exact hK
    | some c =>
      obtain ⟨l, n⟩ := c
      have hl : l.length = wd := ih (l, n) (by simp)
      simp only [gAdd] at hg
      split at hg
      · simp only [Option.toList_some, List.mem_append, List.mem_singleton] at hg
        rcases hg with hg | rfl
        · exact ih g (List.mem_append_left _ hg)
        · exact hl
      · simp only [Option.toList_some, List.mem_append, List.mem_singleton] at hg
        rcases hg with (hg | rfl) | rfl
        · exact ih g (List.mem_append_left _ hg)
        · exact hl
        · exact hK
theorem grps_len (wd : Nat) (M : Pairs) (h : ∀ p ∈ M, wd ≤ p.1.length) : ∀ g ∈ grps wd M, g.1.length = wd := by
  have := gRun_len wd M h M.length (Nat.le_refl _)
  rwa [List.take_length] at this
/-- A group's count is that of the stretch of its beginning. -/
theorem grps_count (wd : Nat) (M : Pairs) (ha : Asc M) (h : ∀ p ∈ M, wd ≤ p.1.length) (g : Bytes × Nat) (hg : g ∈ grps wd M) : (cutM M g.1 ((behind g.1).getD []) (behind g.1).isSome true).length = g.2 := by
  rw [grps_cnt wd M ha g hg]
  have hl := grps_len wd M h g hg
  unfold cutM cnt
  rw [List.countP_eq_length_filter]
  congr 1
  refine List.filter_congr fun q hq => ?_
  rw [of_in]
  have : (g.1 <+: q.1) ↔ q.1.take wd = g.1 := by
    rw [List.prefix_iff_eq_take, hl]
    exact ⟨fun e => e.symm, fun e => e.symm⟩
  simp [this]
/-- What is ahead of a key and what is from it on are together all. -/
theorem two_sum (M : Pairs) (key : Bytes) : (cutM M [] key true true).length + (cutM M key [] false true).length = M.length := by
  rw [cut_closed, (cut_open M key []).1, ← sum_len M key]
  congr 2
  have : geM M [] = M := by
    unfold geM
    rw [List.filter_eq_self]
    intro q _
    have : ¬ cmp q.1 [] = -1 := by cases q.1 <;> simp [Lib.compareBytes]
    simp [this]
  rw [this]
theorem cut_none (M : Pairs) : cutM M [] [] false true = M := by
  rw [(cut_open M [] []).1]
  unfold geM
  rw [List.filter_eq_self]
  intro q _
  have : ¬ cmp q.1 [] = -1 := by cases q.1 <;> simp [Lib.compareBytes]
  simp [this]

end Go.Proofs.YtphjaebkcimklaaGreatDoor
