/- The law PairBig. -/
import Derived.Test.YtocideolihbnaaaLParts
import Derived.Test.YtocideolihbnaaaLMaps
import Derived.Deep.CutBlock
import Derived.Deep.DeepCutAuto
import Derived.Deep.CutRange
import Derived.Laws.MakeOwn
set_option linter.unusedVariables false
set_option linter.unusedSimpArgs false
namespace Go.Proofs.Ytocideolihbnaaa
open Go.RowKit Go.Deep
attribute [local go_sem] max2_num min2_num maxOf_two minOf_two

def zerosB (n : Nat) : Bytes := List.replicate n 0
theorem zerosB_len (n : Nat) : (zerosB n).length = n := by simp [zerosB]
theorem zeros_cmp : ∀ a b : Nat, a < b → cmp (zerosB a) (zerosB b) = -1
  | _, 0, h => by omega
  | 0, b + 1, _ => by simp [zerosB, List.replicate_succ, Lib.compareBytes]
  | a + 1, b + 1, h => by
    have ih := zeros_cmp a b (by omega)
    show Lib.compareBytes (zerosB (a + 1)) (zerosB (b + 1)) = -1
    unfold zerosB at ih ⊢
    rw [List.replicate_succ, List.replicate_succ, Lib.compareBytes, if_neg (UInt8.lt_irrefl 0), if_neg (UInt8.lt_irrefl 0)]
    exact ih

def zcells (n : Nat) : Array Value := madeCells #[Value.int .u8 0] n
theorem zcells_at (n i : Nat) (h : i < n) : (zcells n)[i]? = some (.int .u8 0) := by
  unfold zcells madeCells
  rw [Array.getElem?_map, Array.getElem?_range, if_pos h]
  simp [Nat.mod_one]
theorem make_any (n : Nat) (hn : n ≤ 100000) (w : World) : (Instr.makeSlice 32 (.int .i64 (n : Int)) (.int .i64 (n : Int))).run Try.prog w = .ok (.slice (some ⟨w.heap.size, 0, none⟩) n n) (w.alloc (.cells (zcells n) 5)) := by
  obtain ⟨i0, hi, hz0, hz1, hz2⟩ := info_parts info5
  have := run_makeSlice (P := Try.prog) w 32 5 i0 (.int .u8 0) Try.underlying32 hi hz0 .i64 .i64 (n : Int) (n : Int) (by omega) (by omega) (by rw [hz1]; omega) (by rw [hz2]; omega) (by omega)
  rw [this, hz1]
  simp only [Int.toNat_natCast, Nat.mul_one, Value.cells]
  rfl
/-- Made bytes, wherever they lie. -/
theorem made_in {W : World} {g n : Nat} {S : Nat → Prop} (h : W.heap[g]? = some (.cells (zcells n) 5 (0, 0))) (hn : n ≤ 100000) (hS : S g) : BIn S W (.slice (some ⟨g, 0, none⟩) n n) (zerosB n) :=
  ⟨_, _, _, rfl, ⟨Nat.le_refl _, hn⟩, ⟨zerosB_len n, by omega, fun h0 => ⟨g, 0, rfl, (Array.getElem?_eq_some_iff.1 h).1, fun j hj => by
    rw [Nat.zero_add]
    have e : (zerosB n).getD j 0 = 0 := by
      unfold zerosB
      rw [List.getD_eq_getElem?_getD, List.getElem?_replicate, if_pos hj]; rfl
    rw [e]
    exact cell_of_row W g j _ _ _ h |>.trans (zcells_at n j hj) ⟩⟩, fun b o _ e => by cases e; exact hS⟩

theorem cut_two (x y : Int) (hx : 0 ≤ x ∧ x ≤ 65538) (hy : 0 ≤ y ∧ y ≤ 65538) (w : World) : ∃ K V : Nat, Value.int .i64 x = .int .i64 (K : Int) ∧ Value.int .i64 y = .int .i64 (V : Int) ∧ K ≤ 65538 ∧ V ≤ 65538 ∧ w = w :=
  ⟨x.toNat, y.toNat, by rw [Int.toNat_of_nonneg hx.1], by rw [Int.toNat_of_nonneg hy.1], by omega, by omega, rfl⟩
theorem three_new (w : World) (o1 o2 o3 : Obj) : (((w.alloc o1).alloc o2).alloc o3).drew.heap[w.heap.size]? = some o1 ∧ (((w.alloc o1).alloc o2).alloc o3).drew.heap[w.heap.size + 1]? = some o2 ∧
    (((w.alloc o1).alloc o2).alloc o3).drew.heap[w.heap.size + 1 + 1]? = some o3 ∧ Below w.heap.size w (((w.alloc o1).alloc o2).alloc o3).drew := by
  have h1 := heap_new w o1
  have h2 := heap_new (w.alloc o1) o2
  have h3 := heap_new ((w.alloc o1).alloc o2) o3
  rw [World.size_alloc] at h2
  rw [World.size_alloc, World.size_alloc] at h3
  exact ⟨heap_old _ (heap_old _ h1), heap_old _ h2, h3, below_drew2 ((((Below.refl _ w).alloc (Nat.le_refl _) o1).alloc (by simp) o2).alloc (by simp; omega) o3)⟩

def bigL (m : Nat) : Pairs := (List.range m).map fun i => (zerosB i, [])
theorem bigL_succ (m : Nat) : bigL (m + 1) = bigL m ++ [(zerosB m, [])] := by simp [bigL, List.range_succ]
theorem bigL_len (m : Nat) : (bigL m).length = m := by simp [bigL]
theorem big_at (m j : Nat) (x : Bytes × Bytes) (h : j < m) : (bigL m ++ [x]).getD j ([], []) = (zerosB j, []) := by
  rw [List.getD_eq_getElem?_getD, List.getElem?_append_left (by rw [bigL_len]; exact h)]
  simp [bigL, h]
theorem big_last (m : Nat) (x : Bytes × Bytes) : (bigL m ++ [x]).getD m ([], []) = x := by
  rw [List.getD_eq_getElem?_getD, List.getElem?_append_right (by rw [bigL_len]; exact Nat.le_refl _), bigL_len]
  simp
theorem mapped_big (m K V i : Nat) (er : Int) (hm : m ≤ K) (hm4 : m ≤ 4) (h : Mapped (bigL m ++ [(zerosB K, zerosB V)]) (m + 1) i er) :
    ((65536 < K ∨ 65536 < V) → i = m ∧ er = 4) ∧ (¬ (65536 < K ∨ 65536 < V) → i = m + 1 ∧ er = 0) := by
  have hz : ∀ j, j < m → mapAt (bigL m ++ [(zerosB K, zerosB V)]) j = 0 := fun j hj => by
    have hnb : ¬ bigP (zerosB j, ([] : Bytes)) := by unfold bigP; rw [zerosB_len]; simp; omega
    unfold mapAt
    rw [big_at m j _ hj, if_neg hnb]
    by_cases h0 : j = 0
    · rw [if_pos h0]
    · rw [if_neg h0, big_at m (j - 1) _ (by omega)]
      have hc := zeros_cmp (j - 1) j (by omega)
      rw [if_neg (cmp_ne hc), if_neg (by show ¬ cmp (zerosB (j - 1)) (zerosB j) = 1; rw [hc]; decide)]
  constructor
  · intro hb
    refine mapped_at h (Nat.lt_succ_self m) hz ?_ (by decide)
    unfold mapAt
    rw [big_last, if_pos (by unfold bigP; rw [zerosB_len, zerosB_len]; exact hb)]
  · intro hb
    refine mapped_end h fun j hj => ?_
    rcases Nat.lt_succ_iff_lt_or_eq.1 hj with hj | rfl
    · exact hz j hj
    · unfold mapAt
      rw [big_last, if_neg (by unfold bigP; rw [zerosB_len, zerosB_len]; exact hb)]
      by_cases h0 : j = 0
      · rw [if_pos h0]
      · rw [if_neg h0, big_at j (j - 1) _ (by omega)]
        have hc := zeros_cmp (j - 1) K (by omega)
        rw [if_neg (cmp_ne hc), if_neg (by show ¬ cmp (zerosB (j - 1)) (zerosB K) = 1; rw [hc]; decide)]

def FirstR (w wx : World) (K V : Nat) (p : Value) : Prop := ∃ g k v : Nat, p = .pointer (some ⟨g, 0, none⟩) ∧ Hid (Two wx g (.slice (some ⟨k, 0, none⟩) K K) (.slice (some ⟨v, 0, none⟩) V V) ∧ wx.heap[k]? = some (.cells (zcells K) 5 (0, 0)) ∧ wx.heap[v]? = some (.cells (zcells V) 5 (0, 0)) ∧ Below w.heap.size w wx)

theorem FirstR.mk' {w wx : World} {K V g k v : Nat} (h1 : wx.heap[g]? = some (.cells #[.slice (some ⟨k, 0, none⟩) K K, .slice (some ⟨v, 0, none⟩) V V] 34 (0, 0))) (h2 : wx.heap[k]? = some (.cells (zcells K) 5 (0, 0))) (h3 : wx.heap[v]? = some (.cells (zcells V) 5 (0, 0))) (h4 : Below w.heap.size w wx) :
    FirstR w wx K V (.pointer (some ⟨g, 0, none⟩)) := ⟨g, k, v, rfl, Lib.hid ⟨h1, h2, h3, h4⟩⟩
/-- The row on its way. -/
def RowB (X wr : World) (A : Option Addr) (j c : Nat) : Prop := ∃ vs, wr.ownsRow X.heap.size 34 2 (.slice A j c) j vs ∧ PsOf (fun b => (Value.slice A j c).ownBlock ≠ some b) wr vs (bigL j) ∧ Below X.heap.size X wr

set_option maxRecDepth 100000 in
set_option maxHeartbeats 3200000 in
theorem pairBig_any (a b : Int) (t : Int) (w : World) (hb : 0 ≤ t ∧ t ≤ 255) :
    Calls Try.prog 7 #[.int .i64 a, .int .i64 b, .int .u8 t] w fun e w' => e = .returned (.bool true) ∧ Below w.heap.size w w' := by
  go_enter Try.func7, Try.ntmps7
  go_upto_region 1 with fail
  go_cut [0, 1] (fun u v wx => ∃ K V : Nat, u = .int .i64 (K : Int) ∧ v = .int .i64 (V : Int) ∧ K ≤ 65538 ∧ V ≤ 65538 ∧ w = wx)
  case first =>
    go_wp2_with fail
    all_goals
      go_meet
      exact cut_two _ _ (by omega) (by omega) w
  case rest =>
    obtain ⟨K, V, rfl, rfl, hK, hV, rfl⟩ := hcut
    have hmk := make_any K (by omega)
    have hmv := make_any V (by omega)
    go_upto_region 2 with fail
    go_cut [7] (fun p wx => FirstR w wx K V p)
    case first =>
      have H3 := fun o1 o2 o3 => three_new w o1 o2 o3
      go_region
      all_goals
        go_wp2_with fail
        go_meet
        first
          | exact FirstR.mk' (H3 _ _ _).2.2.1 (H3 _ _ _).1 (H3 _ _ _).2.1 (H3 _ _ _).2.2.2
          | exact FirstR.mk' (H3 _ _ _).2.2.1 (H3 _ _ _).2.1 (H3 _ _ _).1 (H3 _ _ _).2.2.2
          | exact FirstR.mk' (H3 _ _ _).2.1 (H3 _ _ _).1 (H3 _ _ _).2.2.1 (H3 _ _ _).2.2.2
          | exact FirstR.mk' (H3 _ _ _).2.1 (H3 _ _ _).2.2.1 (H3 _ _ _).1 (H3 _ _ _).2.2.2
          | exact FirstR.mk' (H3 _ _ _).1 (H3 _ _ _).2.1 (H3 _ _ _).2.2.1 (H3 _ _ _).2.2.2
          | exact FirstR.mk' (H3 _ _ _).1 (H3 _ _ _).2.2.1 (H3 _ _ _).2.1 (H3 _ _ _).2.2.2
    case rest =>
      clear hmk hmv
      obtain ⟨g, k, v, rfl, hX⟩ := hcut
      obtain ⟨p0, p1⟩ := hX.out.1.cells
      have HCH := Lib.hid (check_any (some ⟨k, 0, none⟩) (some ⟨v, 0, none⟩) K V K V wc)
      obtain ⟨m, hm⟩ : ∃ m : Nat, t % 5 = (m : Int) := ⟨(t % 5).toNat, by omega⟩
      have hm4 : m ≤ 4 := by omega
      have hcase : 65536 < K ∨ (K ≤ 65536 ∧ 65536 < V) ∨ (K ≤ 65536 ∧ V ≤ 65536) := by omega
      rcases hcase with hc | ⟨hc, hc2⟩ | ⟨hc, hc2⟩
      · have HBG : Hid (65536 < K ∨ 65536 < V) := .inl hc
        have hcz : (65536 : Int) < (K : Int) := by omega
        rw [if_pos HBG.out] at HCH
        go_wp2_with fail
        refine HCH.out.mono ?_
        rintro e w2 ⟨rfl, hb2⟩
        have HB2 : Hid (Below wc.heap.size wc w2) := hb2
        clear hb2 p0 p1
        go_wp2_with fail
        rw [hm]
        clear hm
        have HM4 := Lib.hid hm4
        go_loopw [9, 39] (fun u v wr => ∃ (j : Nat) (A' : Option Addr) (c' : Nat), u = .slice A' j c' ∧ v = .int .i64 (j : Int) ∧ j ≤ m ∧ Hid (RowB w2 wr A' j c')) (fun _ v _ => m - (intOf v).toNat)
        case atStart => exact ⟨0, none, 0, rfl, rfl, by omega, Lib.hid ⟨[], World.ownsRow_nil _ _ _ _, ⟨rfl, fun j hj => absurd hj (Nat.not_lt_zero j)⟩, Below.refl _ _⟩⟩
        case round =>
          obtain ⟨j, A', c', rfl, rfl, hj, hI⟩ := hrel
          by_cases hlt : j < m
          · obtain ⟨vs, h1, h2, h3⟩ := hI.out
            have HI := Lib.hid (And.intro h1 (And.intro h2 h3))
            have hlt' : (j : Int) < (m : Int) := by omega
            have hmj := make_any j (by omega)
            have hn1 := heap_new wr (.cells (zcells j) 5)
            have hn2 := heap_new (wr.alloc (.cells (zcells j) 5)) (.cells #[.slice (some ⟨wr.heap.size, 0, none⟩) j j, .slice none 0 0] 34)
            rw [World.size_alloc] at hn2
            have hb1 : Below wr.heap.size wr (wr.alloc (.cells (zcells j) 5)) := (Below.refl _ _).alloc (Nat.le_refl _) _
            have hb2 : Below wr.heap.size wr ((wr.alloc (.cells (zcells j) 5)).alloc (.cells #[.slice (some ⟨wr.heap.size, 0, none⟩) j j, .slice none 0 0] 34)) := hb1.alloc hb1.size _
            have hw2 : (((wr.alloc (.cells (zcells j) 5)).alloc (.cells #[.slice (some ⟨wr.heap.size, 0, none⟩) j j, .slice none 0 0] 34))).heap.size = wr.heap.size + 1 + 1 := by simp
            have hlin : LIn (fun b => (Value.slice A' j c').ownBlock ≠ some b ∧ b < wr.heap.size + 1 + 1) ((wr.alloc (.cells (zcells j) 5)).alloc (.cells #[.slice (some ⟨wr.heap.size, 0, none⟩) j j, .slice none 0 0] 34)) (some ⟨wr.heap.size + 1, 0, none⟩) 1 [(zerosB j, [])] :=
              ⟨rfl, fun _ => ⟨_, 0, rfl, (Array.getElem?_eq_some_iff.1 hn2).1, ⟨fun e => by have := (h1.lt _ e).2; omega, by omega⟩, fun i hi => by
                obtain rfl : i = 0 := by omega
                exact ⟨_, _, cell_of_row _ _ 0 _ _ _ hn2, cell_of_row _ _ 1 _ _ _ hn2, made_in (heap_old _ hn1) (by omega) ⟨fun e => by have := (h1.lt _ e).2; omega, by omega⟩, BIn.nil _ _⟩⟩⟩
            have hown : ((wr.alloc (.cells (zcells j) 5)).alloc (.cells #[.slice (some ⟨wr.heap.size, 0, none⟩) j j, .slice none 0 0] 34)).ownsRow w2.heap.size 34 2 (.slice A' j c') j vs := own_below h1 hb2
            have hps : PsOf (fun b => (Value.slice A' j c').ownBlock ≠ some b ∧ b < wr.heap.size + 1 + 1) ((wr.alloc (.cells (zcells j) 5)).alloc (.cells #[.slice (some ⟨wr.heap.size, 0, none⟩) j j, .slice none 0 0] 34)) vs (bigL j) :=
              (h2.imp (S' := fun b => (Value.slice A' j c').ownBlock ≠ some b ∧ b < wr.heap.size + 1 + 1) fun b hb h => ⟨h, by omega⟩).carry hb2.size fun b _ hl => hb2.block b hl
            have hbw : Below w2.heap.size w2 ((wr.alloc (.cells (zcells j) 5)).alloc (.cells #[.slice (some ⟨wr.heap.size, 0, none⟩) j j, .slice none 0 0] 34)) := h3.trans (hb2.mono h3.size)
            have HA := Lib.hid (And.intro hlin (And.intro hown (And.intro hps (And.intro hbw hw2))))
            clear hn1 hn2 hb1 hb2 hlin hown hps hbw hw2 h1 h2 h3
            go_wp2_with (at_builtin; refine step_row (S := fun b => (Value.slice A' j c').ownBlock ≠ some b ∧ b < wr.heap.size + 1 + 1) rfl _ _ rfl w2.heap.size _ j vs (bigL j) rfl HA.out.2.1 HA.out.2.2.1 (some ⟨wr.heap.size + 1, 0, none⟩) 1 1 [(zerosB j, [])] rfl HA.out.1 (by omega) HA.out.2.2.2.1.size (fun b hb => hb.1) ?_)
            intro v' w3 ys hown3 hps3 hg3 ho3
            obtain ⟨A3, c3, rfl⟩ := own_slice hown3
            have HN : Hid (RowB w2 w3 A3 (j + 1) c3) := ⟨ys, hown3, by
              rw [bigL_succ]
              refine hps3.imp fun b _ h e => ?_
              rcases ho3 with h' | h'
              · rw [h'] at e; exact h.1 e
              · rw [h'] at e; injection e with e; omega, HA.out.2.2.2.1.grown hg3 HA.out.2.2.2.1.size (fun k e => (HA.out.2.1.lt k e).1)⟩
            clear hown3 hps3 hg3 ho3 hmj
            go_wp2_with fail
            go_roundw
            case rel => exact ⟨j + 1, A3, c3, rfl, by go_num, by omega, HN⟩
            case measure => simp [intOf]; omega
          · obtain rfl : j = m := by omega
            by_cases hkj : K < j
            · have hkj' : (K : Int) < (j : Int) := by omega
              have HB3 : Hid (Below w.heap.size w wr) := by
                obtain ⟨vs, h1, h2, h3⟩ := hI.out
                have h4 := hX.out.2.2.2.trans (HB2.out.mono hX.out.2.2.2.size)
                exact h4.trans (h3.mono h4.size)
              go_wp2_with fail
              refine (awake_any _).mono ?_
              rintro e w4 ⟨rfl, hb4⟩
              have HB4 : Hid (Below w.heap.size w w4) := HB3.out.trans (hb4.mono HB3.out.size)
              clear hb4
              go_wp2_with fail
              go_ret
              exact ⟨rfl, HB4.out⟩
            · have hkj' : ¬ (K : Int) < (j : Int) := by omega
              obtain ⟨vs, h1, h2, h3⟩ := hI.out
              have h4 : Below wc.heap.size wc wr := HB2.out.trans (h3.mono HB2.out.size)
              have ht : Two wr g (.slice (some ⟨k, 0, none⟩) K K) (.slice (some ⟨v, 0, none⟩) V V) := hX.out.1.below h4 hX.out.1.lt
              have hk0 := (h4.block k (Array.getElem?_eq_some_iff.1 hX.out.2.1).1).trans hX.out.2.1
              have hv0 := (h4.block v (Array.getElem?_eq_some_iff.1 hX.out.2.2.1).1).trans hX.out.2.2.1
              have hn2 := heap_new wr (.cells #[.slice (some ⟨k, 0, none⟩) K K, .slice (some ⟨v, 0, none⟩) V V] 34)
              have hb2 : Below wr.heap.size wr (wr.alloc (.cells #[.slice (some ⟨k, 0, none⟩) K K, .slice (some ⟨v, 0, none⟩) V V] 34)) := (Below.refl _ _).alloc (Nat.le_refl _) _
              have hkl := (Array.getElem?_eq_some_iff.1 hX.out.2.1).1
              have hvl := (Array.getElem?_eq_some_iff.1 hX.out.2.2.1).1
              have hcw := HB2.out.size
              have hno : ∀ b, (b < wc.heap.size ∨ b = wr.heap.size) → (Value.slice A' j c').ownBlock ≠ some b := fun b hb e => by have := h1.lt _ e; omega
              have hlin : LIn (fun b => (Value.slice A' j c').ownBlock ≠ some b) (wr.alloc (.cells #[.slice (some ⟨k, 0, none⟩) K K, .slice (some ⟨v, 0, none⟩) V V] 34)) (some ⟨wr.heap.size, 0, none⟩) 1 [(zerosB K, zerosB V)] :=
                ⟨rfl, fun _ => ⟨_, 0, rfl, (Array.getElem?_eq_some_iff.1 hn2).1, hno _ (.inr rfl), fun i hi => by
                  obtain rfl : i = 0 := by omega
                  exact ⟨_, _, cell_of_row _ _ 0 _ _ _ hn2, cell_of_row _ _ 1 _ _ _ hn2, made_in (heap_old _ hk0) (by omega) (hno _ (.inl hkl)), made_in (heap_old _ hv0) (by omega) (hno _ (.inl hvl))⟩⟩⟩
              have hbw : Below w.heap.size w (wr.alloc (.cells #[.slice (some ⟨k, 0, none⟩) K K, .slice (some ⟨v, 0, none⟩) V V] 34)) := by
                have h5 := hX.out.2.2.2.trans (h4.mono hX.out.2.2.2.size)
                exact h5.trans (hb2.mono h5.size)
              have HA := Lib.hid (And.intro hlin (And.intro (own_below h1 hb2) (And.intro (h2.carry hb2.size fun b _ hl => hb2.block b hl) (And.intro hbw (h3.trans (hb2.mono h3.size))))))
              have hwc : wc.heap.size ≤ w2.heap.size := hcw
              have HSW : Hid (w.heap.size ≤ w2.heap.size) := Nat.le_trans hX.out.2.2.2.size hcw
              obtain ⟨q0, q1⟩ := ht.cells
              clear h1 h2 h3 h4 ht hk0 hv0 hn2 hb2 hkl hvl hcw hno hlin hbw hwc
              go_wp2_with (at_builtin; refine step_row (S := fun b => (Value.slice A' j c').ownBlock ≠ some b) rfl _ _ rfl w2.heap.size _ j vs (bigL j) rfl HA.out.2.1 HA.out.2.2.1 (some ⟨wr.heap.size, 0, none⟩) 1 1 [(zerosB K, zerosB V)] rfl HA.out.1 (by omega) HA.out.2.2.2.2.size (fun b hb => hb) ?_)
              intro v' w3 ys hown3 hps3 hg3 ho3
              obtain ⟨A3, c3, rfl⟩ := own_slice hown3
              have hr3 := reads_own (S := fun _ => True) hown3 hps3 (by rw [List.length_append, bigL_len]; rfl) (fun _ _ _ => trivial) (fun _ _ => trivial)
              have HR3 : Hid (LIn (fun _ => True) w3 A3 (j + 1) (bigL j ++ [(zerosB K, zerosB V)]) ∧ Below w.heap.size w w3) :=
                ⟨hr3.1, HA.out.2.2.2.1.grown hg3 HA.out.2.2.2.1.size (fun k e => Nat.le_trans HSW.out (HA.out.2.1.lt k e).1)⟩
              clear hown3 hps3 hg3 ho3 hr3 q0 q1
              go_wp2_with fail
              refine (map_any _ A3 (j + 1) c3 w3 HR3.out.1 (by omega)).mono ?_
              rintro e w4 ⟨I, er, rfl, hmap⟩
              have hres := (mapped_big j K V I er (by omega) HM4.out hmap.out.1).1 HBG.out
              have HB4 : Hid (Below w.heap.size w w4) := HR3.out.2.trans (hmap.out.2.mono HR3.out.2.size)
              obtain ⟨hI1, hI2⟩ := hres
              have wq : IntKind.i64.wrap ((j : Int) + 1) = (j : Int) + 1 := wsm _ (by omega)
              subst hI1 hI2
              clear hmap
              go_wp2_with fail
              refine (awake_any w4).mono ?_
              rintro e w5 ⟨rfl, hb5⟩
              have HB5 : Hid (Below w.heap.size w w5) := HB4.out.trans (hb5.mono HB4.out.size)
              clear hb5
              go_wp2_with fail
              go_ret
              exact ⟨rfl, HB5.out⟩
      · have HBG : Hid (65536 < K ∨ 65536 < V) := .inr hc2
        have hcz : ¬ (65536 : Int) < (K : Int) := by omega
        have hcz2 : (65536 : Int) < (V : Int) := by omega
        rw [if_pos HBG.out] at HCH
        go_wp2_with fail
        refine HCH.out.mono ?_
        rintro e w2 ⟨rfl, hb2⟩
        have HB2 : Hid (Below wc.heap.size wc w2) := hb2
        clear hb2 p0 p1
        go_wp2_with fail
        rw [hm]
        clear hm
        have HM4 := Lib.hid hm4
        go_loopw [9, 39] (fun u v wr => ∃ (j : Nat) (A' : Option Addr) (c' : Nat), u = .slice A' j c' ∧ v = .int .i64 (j : Int) ∧ j ≤ m ∧ Hid (RowB w2 wr A' j c')) (fun _ v _ => m - (intOf v).toNat)
        case atStart => exact ⟨0, none, 0, rfl, rfl, by omega, Lib.hid ⟨[], World.ownsRow_nil _ _ _ _, ⟨rfl, fun j hj => absurd hj (Nat.not_lt_zero j)⟩, Below.refl _ _⟩⟩
        case round =>
          obtain ⟨j, A', c', rfl, rfl, hj, hI⟩ := hrel
          by_cases hlt : j < m
          · obtain ⟨vs, h1, h2, h3⟩ := hI.out
            have HI := Lib.hid (And.intro h1 (And.intro h2 h3))
            have hlt' : (j : Int) < (m : Int) := by omega
            have hmj := make_any j (by omega)
            have hn1 := heap_new wr (.cells (zcells j) 5)
            have hn2 := heap_new (wr.alloc (.cells (zcells j) 5)) (.cells #[.slice (some ⟨wr.heap.size, 0, none⟩) j j, .slice none 0 0] 34)
            rw [World.size_alloc] at hn2
            have hb1 : Below wr.heap.size wr (wr.alloc (.cells (zcells j) 5)) := (Below.refl _ _).alloc (Nat.le_refl _) _
            have hb2 : Below wr.heap.size wr ((wr.alloc (.cells (zcells j) 5)).alloc (.cells #[.slice (some ⟨wr.heap.size, 0, none⟩) j j, .slice none 0 0] 34)) := hb1.alloc hb1.size _
            have hw2 : (((wr.alloc (.cells (zcells j) 5)).alloc (.cells #[.slice (some ⟨wr.heap.size, 0, none⟩) j j, .slice none 0 0] 34))).heap.size = wr.heap.size + 1 + 1 := by simp
            have hlin : LIn (fun b => (Value.slice A' j c').ownBlock ≠ some b ∧ b < wr.heap.size + 1 + 1) ((wr.alloc (.cells (zcells j) 5)).alloc (.cells #[.slice (some ⟨wr.heap.size, 0, none⟩) j j, .slice none 0 0] 34)) (some ⟨wr.heap.size + 1, 0, none⟩) 1 [(zerosB j, [])] :=
              ⟨rfl, fun _ => ⟨_, 0, rfl, (Array.getElem?_eq_some_iff.1 hn2).1, ⟨fun e => by have := (h1.lt _ e).2; omega, by omega⟩, fun i hi => by
                obtain rfl : i = 0 := by omega
                exact ⟨_, _, cell_of_row _ _ 0 _ _ _ hn2, cell_of_row _ _ 1 _ _ _ hn2, made_in (heap_old _ hn1) (by omega) ⟨fun e => by have := (h1.lt _ e).2; omega, by omega⟩, BIn.nil _ _⟩⟩⟩
            have hown : ((wr.alloc (.cells (zcells j) 5)).alloc (.cells #[.slice (some ⟨wr.heap.size, 0, none⟩) j j, .slice none 0 0] 34)).ownsRow w2.heap.size 34 2 (.slice A' j c') j vs := own_below h1 hb2
            have hps : PsOf (fun b => (Value.slice A' j c').ownBlock ≠ some b ∧ b < wr.heap.size + 1 + 1) ((wr.alloc (.cells (zcells j) 5)).alloc (.cells #[.slice (some ⟨wr.heap.size, 0, none⟩) j j, .slice none 0 0] 34)) vs (bigL j) :=
              (h2.imp (S' := fun b => (Value.slice A' j c').ownBlock ≠ some b ∧ b < wr.heap.size + 1 + 1) fun b hb h => ⟨h, by omega⟩).carry hb2.size fun b _ hl => hb2.block b hl
            have hbw : Below w2.heap.size w2 ((wr.alloc (.cells (zcells j) 5)).alloc (.cells #[.slice (some ⟨wr.heap.size, 0, none⟩) j j, .slice none 0 0] 34)) := h3.trans (hb2.mono h3.size)
            have HA := Lib.hid (And.intro hlin (And.intro hown (And.intro hps (And.intro hbw hw2))))
            clear hn1 hn2 hb1 hb2 hlin hown hps hbw hw2 h1 h2 h3
            go_wp2_with (at_builtin; refine step_row (S := fun b => (Value.slice A' j c').ownBlock ≠ some b ∧ b < wr.heap.size + 1 + 1) rfl _ _ rfl w2.heap.size _ j vs (bigL j) rfl HA.out.2.1 HA.out.2.2.1 (some ⟨wr.heap.size + 1, 0, none⟩) 1 1 [(zerosB j, [])] rfl HA.out.1 (by omega) HA.out.2.2.2.1.size (fun b hb => hb.1) ?_)
            intro v' w3 ys hown3 hps3 hg3 ho3
            obtain ⟨A3, c3, rfl⟩ := own_slice hown3
            have HN : Hid (RowB w2 w3 A3 (j + 1) c3) := ⟨ys, hown3, by
              rw [bigL_succ]
              refine hps3.imp fun b _ h e => ?_
              rcases ho3 with h' | h'
              · rw [h'] at e; exact h.1 e
              · rw [h'] at e; injection e with e; omega, HA.out.2.2.2.1.grown hg3 HA.out.2.2.2.1.size (fun k e => (HA.out.2.1.lt k e).1)⟩
            clear hown3 hps3 hg3 ho3 hmj
            go_wp2_with fail
            go_roundw
            case rel => exact ⟨j + 1, A3, c3, rfl, by go_num, by omega, HN⟩
            case measure => simp [intOf]; omega
          · obtain rfl : j = m := by omega
            by_cases hkj : K < j
            · have hkj' : (K : Int) < (j : Int) := by omega
              have HB3 : Hid (Below w.heap.size w wr) := by
                obtain ⟨vs, h1, h2, h3⟩ := hI.out
                have h4 := hX.out.2.2.2.trans (HB2.out.mono hX.out.2.2.2.size)
                exact h4.trans (h3.mono h4.size)
              go_wp2_with fail
              refine (awake_any _).mono ?_
              rintro e w4 ⟨rfl, hb4⟩
              have HB4 : Hid (Below w.heap.size w w4) := HB3.out.trans (hb4.mono HB3.out.size)
              clear hb4
              go_wp2_with fail
              go_ret
              exact ⟨rfl, HB4.out⟩
            · have hkj' : ¬ (K : Int) < (j : Int) := by omega
              obtain ⟨vs, h1, h2, h3⟩ := hI.out
              have h4 : Below wc.heap.size wc wr := HB2.out.trans (h3.mono HB2.out.size)
              have ht : Two wr g (.slice (some ⟨k, 0, none⟩) K K) (.slice (some ⟨v, 0, none⟩) V V) := hX.out.1.below h4 hX.out.1.lt
              have hk0 := (h4.block k (Array.getElem?_eq_some_iff.1 hX.out.2.1).1).trans hX.out.2.1
              have hv0 := (h4.block v (Array.getElem?_eq_some_iff.1 hX.out.2.2.1).1).trans hX.out.2.2.1
              have hn2 := heap_new wr (.cells #[.slice (some ⟨k, 0, none⟩) K K, .slice (some ⟨v, 0, none⟩) V V] 34)
              have hb2 : Below wr.heap.size wr (wr.alloc (.cells #[.slice (some ⟨k, 0, none⟩) K K, .slice (some ⟨v, 0, none⟩) V V] 34)) := (Below.refl _ _).alloc (Nat.le_refl _) _
              have hkl := (Array.getElem?_eq_some_iff.1 hX.out.2.1).1
              have hvl := (Array.getElem?_eq_some_iff.1 hX.out.2.2.1).1
              have hcw := HB2.out.size
              have hno : ∀ b, (b < wc.heap.size ∨ b = wr.heap.size) → (Value.slice A' j c').ownBlock ≠ some b := fun b hb e => by have := h1.lt _ e; omega
              have hlin : LIn (fun b => (Value.slice A' j c').ownBlock ≠ some b) (wr.alloc (.cells #[.slice (some ⟨k, 0, none⟩) K K, .slice (some ⟨v, 0, none⟩) V V] 34)) (some ⟨wr.heap.size, 0, none⟩) 1 [(zerosB K, zerosB V)] :=
                ⟨rfl, fun _ => ⟨_, 0, rfl, (Array.getElem?_eq_some_iff.1 hn2).1, hno _ (.inr rfl), fun i hi => by
                  obtain rfl : i = 0 := by omega
                  exact ⟨_, _, cell_of_row _ _ 0 _ _ _ hn2, cell_of_row _ _ 1 _ _ _ hn2, made_in (heap_old _ hk0) (by omega) (hno _ (.inl hkl)), made_in (heap_old _ hv0) (by omega) (hno _ (.inl hvl))⟩⟩⟩
              have hbw : Below w.heap.size w (wr.alloc (.cells #[.slice (some ⟨k, 0, none⟩) K K, .slice (some ⟨v, 0, none⟩) V V] 34)) := by
                have h5 := hX.out.2.2.2.trans (h4.mono hX.out.2.2.2.size)
                exact h5.trans (hb2.mono h5.size)
              have HA := Lib.hid (And.intro hlin (And.intro (own_below h1 hb2) (And.intro (h2.carry hb2.size fun b _ hl => hb2.block b hl) (And.intro hbw (h3.trans (hb2.mono h3.size))))))
              have hwc : wc.heap.size ≤ w2.heap.size := hcw
              have HSW : Hid (w.heap.size ≤ w2.heap.size) := Nat.le_trans hX.out.2.2.2.size hcw
              obtain ⟨q0, q1⟩ := ht.cells
              clear h1 h2 h3 h4 ht hk0 hv0 hn2 hb2 hkl hvl hcw hno hlin hbw hwc
              go_wp2_with (at_builtin; refine step_row (S := fun b => (Value.slice A' j c').ownBlock ≠ some b) rfl _ _ rfl w2.heap.size _ j vs (bigL j) rfl HA.out.2.1 HA.out.2.2.1 (some ⟨wr.heap.size, 0, none⟩) 1 1 [(zerosB K, zerosB V)] rfl HA.out.1 (by omega) HA.out.2.2.2.2.size (fun b hb => hb) ?_)
              intro v' w3 ys hown3 hps3 hg3 ho3
              obtain ⟨A3, c3, rfl⟩ := own_slice hown3
              have hr3 := reads_own (S := fun _ => True) hown3 hps3 (by rw [List.length_append, bigL_len]; rfl) (fun _ _ _ => trivial) (fun _ _ => trivial)
              have HR3 : Hid (LIn (fun _ => True) w3 A3 (j + 1) (bigL j ++ [(zerosB K, zerosB V)]) ∧ Below w.heap.size w w3) :=
                ⟨hr3.1, HA.out.2.2.2.1.grown hg3 HA.out.2.2.2.1.size (fun k e => Nat.le_trans HSW.out (HA.out.2.1.lt k e).1)⟩
              clear hown3 hps3 hg3 ho3 hr3 q0 q1
              go_wp2_with fail
              refine (map_any _ A3 (j + 1) c3 w3 HR3.out.1 (by omega)).mono ?_
              rintro e w4 ⟨I, er, rfl, hmap⟩
              have hres := (mapped_big j K V I er (by omega) HM4.out hmap.out.1).1 HBG.out
              have HB4 : Hid (Below w.heap.size w w4) := HR3.out.2.trans (hmap.out.2.mono HR3.out.2.size)
              obtain ⟨hI1, hI2⟩ := hres
              have wq : IntKind.i64.wrap ((j : Int) + 1) = (j : Int) + 1 := wsm _ (by omega)
              subst hI1 hI2
              clear hmap
              go_wp2_with fail
              refine (awake_any w4).mono ?_
              rintro e w5 ⟨rfl, hb5⟩
              have HB5 : Hid (Below w.heap.size w w5) := HB4.out.trans (hb5.mono HB4.out.size)
              clear hb5
              go_wp2_with fail
              go_ret
              exact ⟨rfl, HB5.out⟩
      · have HBG : Hid (¬ (65536 < K ∨ 65536 < V)) := (by omega : ¬ (65536 < K ∨ 65536 < V))
        have hcz : ¬ (65536 : Int) < (K : Int) := by omega
        have hcz2 : ¬ (65536 : Int) < (V : Int) := by omega
        rw [if_neg HBG.out] at HCH
        go_wp2_with fail
        refine HCH.out.mono ?_
        rintro e w2 ⟨rfl, hb2⟩
        have HB2 : Hid (Below wc.heap.size wc w2) := hb2
        clear hb2 p0 p1
        go_wp2_with fail
        rw [hm]
        clear hm
        have HM4 := Lib.hid hm4
        go_loopw [9, 39] (fun u v wr => ∃ (j : Nat) (A' : Option Addr) (c' : Nat), u = .slice A' j c' ∧ v = .int .i64 (j : Int) ∧ j ≤ m ∧ Hid (RowB w2 wr A' j c')) (fun _ v _ => m - (intOf v).toNat)
        case atStart => exact ⟨0, none, 0, rfl, rfl, by omega, Lib.hid ⟨[], World.ownsRow_nil _ _ _ _, ⟨rfl, fun j hj => absurd hj (Nat.not_lt_zero j)⟩, Below.refl _ _⟩⟩
        case round =>
          obtain ⟨j, A', c', rfl, rfl, hj, hI⟩ := hrel
          by_cases hlt : j < m
          · obtain ⟨vs, h1, h2, h3⟩ := hI.out
            have HI := Lib.hid (And.intro h1 (And.intro h2 h3))
            have hlt' : (j : Int) < (m : Int) := by omega
            have hmj := make_any j (by omega)
            have hn1 := heap_new wr (.cells (zcells j) 5)
            have hn2 := heap_new (wr.alloc (.cells (zcells j) 5)) (.cells #[.slice (some ⟨wr.heap.size, 0, none⟩) j j, .slice none 0 0] 34)
            rw [World.size_alloc] at hn2
            have hb1 : Below wr.heap.size wr (wr.alloc (.cells (zcells j) 5)) := (Below.refl _ _).alloc (Nat.le_refl _) _
            have hb2 : Below wr.heap.size wr ((wr.alloc (.cells (zcells j) 5)).alloc (.cells #[.slice (some ⟨wr.heap.size, 0, none⟩) j j, .slice none 0 0] 34)) := hb1.alloc hb1.size _
            have hw2 : (((wr.alloc (.cells (zcells j) 5)).alloc (.cells #[.slice (some ⟨wr.heap.size, 0, none⟩) j j, .slice none 0 0] 34))).heap.size = wr.heap.size + 1 + 1 := by simp
            have hlin : LIn (fun b => (Value.slice A' j c').ownBlock ≠ some b ∧ b < wr.heap.size + 1 + 1) ((wr.alloc (.cells (zcells j) 5)).alloc (.cells #[.slice (some ⟨wr.heap.size, 0, none⟩) j j, .slice none 0 0] 34)) (some ⟨wr.heap.size + 1, 0, none⟩) 1 [(zerosB j, [])] :=
              ⟨rfl, fun _ => ⟨_, 0, rfl, (Array.getElem?_eq_some_iff.1 hn2).1, ⟨fun e => by have := (h1.lt _ e).2; omega, by omega⟩, fun i hi => by
                obtain rfl : i = 0 := by omega
                exact ⟨_, _, cell_of_row _ _ 0 _ _ _ hn2, cell_of_row _ _ 1 _ _ _ hn2, made_in (heap_old _ hn1) (by omega) ⟨fun e => by have := (h1.lt _ e).2; omega, by omega⟩, BIn.nil _ _⟩⟩⟩
            have hown : ((wr.alloc (.cells (zcells j) 5)).alloc (.cells #[.slice (some ⟨wr.heap.size, 0, none⟩) j j, .slice none 0 0] 34)).ownsRow w2.heap.size 34 2 (.slice A' j c') j vs := own_below h1 hb2
            have hps : PsOf (fun b => (Value.slice A' j c').ownBlock ≠ some b ∧ b < wr.heap.size + 1 + 1) ((wr.alloc (.cells (zcells j) 5)).alloc (.cells #[.slice (some ⟨wr.heap.size, 0, none⟩) j j, .slice none 0 0] 34)) vs (bigL j) :=
              (h2.imp (S' := fun b => (Value.slice A' j c').ownBlock ≠ some b ∧ b < wr.heap.size + 1 + 1) fun b hb h => ⟨h, by omega⟩).carry hb2.size fun b _ hl => hb2.block b hl
            have hbw : Below w2.heap.size w2 ((wr.alloc (.cells (zcells j) 5)).alloc (.cells #[.slice (some ⟨wr.heap.size, 0, none⟩) j j, .slice none 0 0] 34)) := h3.trans (hb2.mono h3.size)
            have HA := Lib.hid (And.intro hlin (And.intro hown (And.intro hps (And.intro hbw hw2))))
            clear hn1 hn2 hb1 hb2 hlin hown hps hbw hw2 h1 h2 h3
            go_wp2_with (at_builtin; refine step_row (S := fun b => (Value.slice A' j c').ownBlock ≠ some b ∧ b < wr.heap.size + 1 + 1) rfl _ _ rfl w2.heap.size _ j vs (bigL j) rfl HA.out.2.1 HA.out.2.2.1 (some ⟨wr.heap.size + 1, 0, none⟩) 1 1 [(zerosB j, [])] rfl HA.out.1 (by omega) HA.out.2.2.2.1.size (fun b hb => hb.1) ?_)
            intro v' w3 ys hown3 hps3 hg3 ho3
            obtain ⟨A3, c3, rfl⟩ := own_slice hown3
            have HN : Hid (RowB w2 w3 A3 (j + 1) c3) := ⟨ys, hown3, by
              rw [bigL_succ]
              refine hps3.imp fun b _ h e => ?_
              rcases ho3 with h' | h'
              · rw [h'] at e; exact h.1 e
              · rw [h'] at e; injection e with e; omega, HA.out.2.2.2.1.grown hg3 HA.out.2.2.2.1.size (fun k e => (HA.out.2.1.lt k e).1)⟩
            clear hown3 hps3 hg3 ho3 hmj
            go_wp2_with fail
            go_roundw
            case rel => exact ⟨j + 1, A3, c3, rfl, by go_num, by omega, HN⟩
            case measure => simp [intOf]; omega
          · obtain rfl : j = m := by omega
            by_cases hkj : K < j
            · have hkj' : (K : Int) < (j : Int) := by omega
              have HB3 : Hid (Below w.heap.size w wr) := by
                obtain ⟨vs, h1, h2, h3⟩ := hI.out
                have h4 := hX.out.2.2.2.trans (HB2.out.mono hX.out.2.2.2.size)
                exact h4.trans (h3.mono h4.size)
              go_wp2_with fail
              refine (awake_any _).mono ?_
              rintro e w4 ⟨rfl, hb4⟩
              have HB4 : Hid (Below w.heap.size w w4) := HB3.out.trans (hb4.mono HB3.out.size)
              clear hb4
              go_wp2_with fail
              go_ret
              exact ⟨rfl, HB4.out⟩
            · have hkj' : ¬ (K : Int) < (j : Int) := by omega
              obtain ⟨vs, h1, h2, h3⟩ := hI.out
              have h4 : Below wc.heap.size wc wr := HB2.out.trans (h3.mono HB2.out.size)
              have ht : Two wr g (.slice (some ⟨k, 0, none⟩) K K) (.slice (some ⟨v, 0, none⟩) V V) := hX.out.1.below h4 hX.out.1.lt
              have hk0 := (h4.block k (Array.getElem?_eq_some_iff.1 hX.out.2.1).1).trans hX.out.2.1
              have hv0 := (h4.block v (Array.getElem?_eq_some_iff.1 hX.out.2.2.1).1).trans hX.out.2.2.1
              have hn2 := heap_new wr (.cells #[.slice (some ⟨k, 0, none⟩) K K, .slice (some ⟨v, 0, none⟩) V V] 34)
              have hb2 : Below wr.heap.size wr (wr.alloc (.cells #[.slice (some ⟨k, 0, none⟩) K K, .slice (some ⟨v, 0, none⟩) V V] 34)) := (Below.refl _ _).alloc (Nat.le_refl _) _
              have hkl := (Array.getElem?_eq_some_iff.1 hX.out.2.1).1
              have hvl := (Array.getElem?_eq_some_iff.1 hX.out.2.2.1).1
              have hcw := HB2.out.size
              have hno : ∀ b, (b < wc.heap.size ∨ b = wr.heap.size) → (Value.slice A' j c').ownBlock ≠ some b := fun b hb e => by have := h1.lt _ e; omega
              have hlin : LIn (fun b => (Value.slice A' j c').ownBlock ≠ some b) (wr.alloc (.cells #[.slice (some ⟨k, 0, none⟩) K K, .slice (some ⟨v, 0, none⟩) V V] 34)) (some ⟨wr.heap.size, 0, none⟩) 1 [(zerosB K, zerosB V)] :=
                ⟨rfl, fun _ => ⟨_, 0, rfl, (Array.getElem?_eq_some_iff.1 hn2).1, hno _ (.inr rfl), fun i hi => by
                  obtain rfl : i = 0 := by omega
                  exact ⟨_, _, cell_of_row _ _ 0 _ _ _ hn2, cell_of_row _ _ 1 _ _ _ hn2, made_in (heap_old _ hk0) (by omega) (hno _ (.inl hkl)), made_in (heap_old _ hv0) (by omega) (hno _ (.inl hvl))⟩⟩⟩
              have hbw : Below w.heap.size w (wr.alloc (.cells #[.slice (some ⟨k, 0, none⟩) K K, .slice (some ⟨v, 0, none⟩) V V] 34)) := by
                have h5 := hX.out.2.2.2.trans (h4.mono hX.out.2.2.2.size)
                exact h5.trans (hb2.mono h5.size)
              have HA := Lib.hid (And.intro hlin (And.intro (own_below h1 hb2) (And.intro (h2.carry hb2.size fun b _ hl => hb2.block b hl) (And.intro hbw (h3.trans (hb2.mono h3.size))))))
              have hwc : wc.heap.size ≤ w2.heap.size := hcw
              have HSW : Hid (w.heap.size ≤ w2.heap.size) := Nat.le_trans hX.out.2.2.2.size hcw
              obtain ⟨q0, q1⟩ := ht.cells
              clear h1 h2 h3 h4 ht hk0 hv0 hn2 hb2 hkl hvl hcw hno hlin hbw hwc
              go_wp2_with (at_builtin; refine step_row (S := fun b => (Value.slice A' j c').ownBlock ≠ some b) rfl _ _ rfl w2.heap.size _ j vs (bigL j) rfl HA.out.2.1 HA.out.2.2.1 (some ⟨wr.heap.size, 0, none⟩) 1 1 [(zerosB K, zerosB V)] rfl HA.out.1 (by omega) HA.out.2.2.2.2.size (fun b hb => hb) ?_)
              intro v' w3 ys hown3 hps3 hg3 ho3
              obtain ⟨A3, c3, rfl⟩ := own_slice hown3
              have hr3 := reads_own (S := fun _ => True) hown3 hps3 (by rw [List.length_append, bigL_len]; rfl) (fun _ _ _ => trivial) (fun _ _ => trivial)
              have HR3 : Hid (LIn (fun _ => True) w3 A3 (j + 1) (bigL j ++ [(zerosB K, zerosB V)]) ∧ Below w.heap.size w w3) :=
                ⟨hr3.1, HA.out.2.2.2.1.grown hg3 HA.out.2.2.2.1.size (fun k e => Nat.le_trans HSW.out (HA.out.2.1.lt k e).1)⟩
              clear hown3 hps3 hg3 ho3 hr3 q0 q1
              go_wp2_with fail
              refine (map_any _ A3 (j + 1) c3 w3 HR3.out.1 (by omega)).mono ?_
              rintro e w4 ⟨I, er, rfl, hmap⟩
              have hres := (mapped_big j K V I er (by omega) HM4.out hmap.out.1).2 HBG.out
              have HB4 : Hid (Below w.heap.size w w4) := HR3.out.2.trans (hmap.out.2.mono HR3.out.2.size)
              obtain ⟨hI1, hI2⟩ := hres
              have wq : IntKind.i64.wrap ((j : Int) + 1) = (j : Int) + 1 := wsm _ (by omega)
              subst hI1 hI2
              clear hmap
              go_wp2_with fail
              refine (awake_any w4).mono ?_
              rintro e w5 ⟨rfl, hb5⟩
              have HB5 : Hid (Below w.heap.size w w5) := HB4.out.trans (hb5.mono HB4.out.size)
              clear hb5
              go_wp2_with fail
              go_ret
              exact ⟨rfl, HB5.out⟩

end Go.Proofs.Ytocideolihbnaaa
