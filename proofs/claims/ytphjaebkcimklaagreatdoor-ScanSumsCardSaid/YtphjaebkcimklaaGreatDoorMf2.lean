/- Texts put together: FFork FInto FInto2 FInto3. -/
import Derived.Test.YtphjaebkcimklaaGreatDoorMf1
import Derived.Test.YtphjaebkcimklaaGreatDoorMb
import Derived.Test.YtphjaebkcimklaaGreatDoorTPut
/- graft.fork: two nodes of unlike hashes made one. -/
set_option linter.unusedVariables false
set_option linter.unusedSimpArgs false
namespace Go.Proofs.YtphjaebkcimklaaGreatDoor
open Go.RowKit

theorem chunk_any (h l : Nat) (w : World) : Calls Tryz.prog 119 #[.int .u64 (h : Int), .int .i64 (l : Int)] w fun e w' => e = .returned (.int .i64 ((TT.chunk h l : Nat) : Int)) ∧ w = w' := by
  have h1 := C.at_any h (l : Int) w
  have e : C.c12 (l : Int) = min l 12 := by unfold C.c12 C.cut3; (repeat' split) <;> omega
  rw [e] at h1
  exact h1

namespace B
theorem one_bit (m c : Nat) (hc : c < 32) (h : ∀ i, m.testBit i = decide (i = c)) : listN m 32 = [(c : Int)] := by
  have : ∀ c, c < 32 → (List.range 32).filter (fun k => decide (k = c)) = [c] := by decide
  unfold listN
  rw [show m.testBit = (fun k => decide (k = c)) from funext h, this c hc]; rfl
set_option maxRecDepth 100000 in
theorem two_bits (m c d : Nat) (hcd : c < d) (hd : d < 32) (h : ∀ i, m.testBit i = (decide (i = c) || decide (i = d))) : listN m 32 = [(c : Int), (d : Int)] := by
  have : ∀ d, d < 32 → ∀ c, c < d → (List.range 32).filter (fun k => decide (k = c) || decide (k = d)) = [c, d] := by decide
  unfold listN
  rw [show m.testBit = (fun k => decide (k = c) || decide (k = d)) from funext h, this d hd c hcd]; rfl
end B

/-- A row of one int, of two ints. -/
theorem rd_one (w : World) (b : Nat) (c : Nat) (t : TypeId) (hb : w.heap[b]? = some (.cells #[.int .i64 (c : Int)] t (0, 0))) : B.RdI w (some ⟨b, 0, none⟩) 1 [(c : Int)] :=
  ⟨rfl, by omega, fun _ => ⟨b, 0, rfl, (Array.getElem?_eq_some_iff.1 hb).1, fun j hj => by
    obtain rfl : j = 0 := by omega
    exact cell_of_row w b 0 _ _ _ hb⟩⟩
theorem rd_two (w : World) (b : Nat) (c d : Nat) (t : TypeId) (hb : w.heap[b]? = some (.cells #[.int .i64 (c : Int), .int .i64 (d : Int)] t (0, 0))) : B.RdI w (some ⟨b, 0, none⟩) 2 [(c : Int), (d : Int)] :=
  ⟨rfl, by omega, fun _ => ⟨b, 0, rfl, (Array.getElem?_eq_some_iff.1 hb).1, fun j hj => by
    rcases (show j = 0 ∨ j = 1 by omega) with rfl | rfl
    · exact cell_of_row w b 0 _ _ _ hb
    · exact cell_of_row w b 1 _ _ _ hb⟩⟩
theorem vin_one {S : Nat → Prop} {w : World} {b : Nat} {u : Value} {t : TypeId} (hS : S b) (hb : w.heap[b]? = some (.cells #[u] t (0, 0))) : VIn S w (some ⟨b, 0, none⟩) [u] :=
  ⟨fun _ => ⟨b, 0, rfl, (Array.getElem?_eq_some_iff.1 hb).1, hS, fun j v hj => by
    rw [Nat.zero_add, cell_of_row w b j _ _ _ hb]; simpa using hj⟩⟩
theorem vin_two {S : Nat → Prop} {w : World} {b : Nat} {u v : Value} {t : TypeId} (hS : S b) (hb : w.heap[b]? = some (.cells #[u, v] t (0, 0))) : VIn S w (some ⟨b, 0, none⟩) [u, v] :=
  ⟨fun _ => ⟨b, 0, rfl, (Array.getElem?_eq_some_iff.1 hb).1, hS, fun j x hj => by
    rw [Nat.zero_add, cell_of_row w b j _ _ _ hb]; simpa using hj⟩⟩

set_option maxRecDepth 100000 in
set_option maxHeartbeats 3200000 in
theorem fork_any {S : Nat → Prop} (g h : Nat) (hne : g ≠ h) (hg : g < 2 ^ 64) (hh : h < 2 ^ 64) (a b : TT) (ha : a.isNone = false) (hb : b.isNone = false) : ∀ (n l : Nat) (va vb : Value) (w : World), n + l = 13 → (∀ i, i < l → TT.chunk g i = TT.chunk h i) → TrIn S w a va → TrIn S w b vb →
    Calls Tryz.prog 104 #[va, .int .u64 (g : Int), vb, .int .u64 (h : Int), .int .i64 (l : Int)] w fun e w' => ∃ u, e = .returned u ∧ TrIn (Up S w.heap.size) w' (TT.fork a g b h n l) u ∧ Below w.heap.size w w' := by
  intro n
  induction n with
  | zero =>
    intro l va vb w hn hc _ _
    exact absurd (TT.chunks_ext g h hg hh fun i hi => hc i (by omega)) hne
  | succ n ih =>
    intro l va vb w hn hc hA hB
    obtain ⟨aT, ap, rfl⟩ := hA.iface ha
    obtain ⟨bT, bp, rfl⟩ := hB.iface hb
    have HG := Lib.hid (fun W => chunk_any g l W)
    have HH := Lib.hid (fun W => chunk_any h l W)
    have HA := Lib.hid hA
    have HB := Lib.hid hB
    have hgl := TT.chunk_lt g l
    have hhl := TT.chunk_lt h l
    by_cases hcd : TT.chunk g l = TT.chunk h l
    · have HF : Hid (TT.fork a g b h (n + 1) l = .branch (fun c => if c = TT.chunk g l then TT.fork a g b h n (l + 1) else .none)) := by
        show (if _ then _ else _) = _
        rw [if_pos hcd]
      have hc' : ∀ i, i < l + 1 → TT.chunk g i = TT.chunk h i := fun i hi => by
        rcases Nat.lt_succ_iff_lt_or_eq.1 hi with h | rfl
        · exact hc i h
        · exact hcd
      have hn0 : 0 < n := by
        rcases Nat.eq_zero_or_pos n with h0 | h0
        · exact absurd (TT.chunks_ext g h hg hh fun i hi => hc' i (by omega)) hne
        · exact h0
      have hfs : (TT.fork a g b h n (l + 1)).isNone = false := TT.fork_some _ _ _ _ _ _ hn0 ha
      have HI := Lib.hid (fun W (hW : Below w.heap.size w W) => ih (l + 1) (.iface aT ap) (.iface bT bp) W (by omega) hc' (hA.below hW) (hB.below hW))
      rw [← hcd] at HH
      have hl12 : l < 12 := by omega
      have hw1 : (((l + 1 : Nat) : Int)) = (l : Int) + 1 := by simp
      rw [hw1] at HI
      generalize TT.fork a g b h n (l + 1) = t at *
      generalize TT.chunk g l = c at *
      have HFS := Lib.hid hfs
      clear hA hB hc hc' ih hcd hfs hw1
      go_enter Tryz.func104, Tryz.ntmps104
      go_wp2_with fail
      refine (HG.out _).mono ?_
      rintro e w1 ⟨rfl, hw1⟩
      rw [← hw1]
      clear hw1 w1
      go_wp2_with fail
      refine (HH.out _).mono ?_
      rintro e w1 ⟨rfl, hw1⟩
      rw [← hw1]
      clear hw1 w1
      go_wp2_with fail
      have k0 := heap_new w (.cells #[.int .i64 (c : Int)] 3)
      have hb0 : Below w.heap.size w (w.alloc (.cells #[.int .i64 (c : Int)] 3)) := (Below.refl _ _).alloc (Nat.le_refl _) _
      have HOF := Lib.hid (B.of_any _ 1 1 [(c : Int)] _ (rd_one _ _ c 3 k0))
      have HI1 := Lib.hid (HI.out _ hb0)
      have hmb : ∀ i, (B.ofN [(c : Int)]).testBit i = decide (i = c) := fun i => by
        rw [B.ofN_test, decide_eq_decide]; simp; omega
      have hml := B.ofN_lt [(c : Int)]
      have hln := B.one_bit _ c hgl hmb
      generalize B.ofN [(c : Int)] = m at *
      have HMB := Lib.hid (And.intro hmb hln)
      have HB0 := Lib.hid hb0
      clear k0 hb0 HI hmb hln
      refine HOF.out.mono ?_
      rintro e w2 ⟨rfl, hw2⟩
      rw [← hw2]
      clear hw2 w2 HOF
      go_wp2_with fail
      refine HI1.out.mono ?_
      rintro e w2 ⟨u, rfl, hu, hb2⟩
      obtain ⟨uT, up, rfl⟩ := hu.iface HFS.out
      have hbw : Below w.heap.size w w2 := HB0.out.trans (hb2.mono HB0.out.size)
      have hu2 : TrIn (Up S w.heap.size) w2 t (.iface uT up) := hu.imp fun b _ hb => by
        rcases hb with hb | hb
        · exact .inl hb
        · exact .inr (Nat.le_trans HB0.out.size hb)
      have k1 := heap_new w2 (.cells #[.iface uT up] 33)
      have hb3 : Below w2.heap.size w2 (w2.alloc (.cells #[.iface uT up] 33)) := (Below.refl _ _).alloc (Nat.le_refl _) _
      have hBR := branch_any (S := Up S w.heap.size) m (some ⟨w2.heap.size, 0, none⟩) 1 [.iface uT up] (fun i => if i = c then t else .none) _ hml (vin_one (.inr hbw.size) k1) (by simp) (by rw [HMB.out.2]; rfl) (by simp)
        (fun i => by
          rw [HMB.out.1]
          by_cases e : i = c
          · rw [if_pos e, HFS.out]; simp [e]
          · rw [if_neg e]; simp [e, TT.isNone])
        (fun j hj => by
          obtain rfl : j = 0 := by simpa using hj
          rw [HMB.out.2]
          show TrIn _ _ (if (c : Int).toNat = c then t else .none) _ ∧ (if (c : Int).toNat = c then t else .none).isNone = false
          rw [if_pos (Int.toNat_natCast c)]
          exact ⟨hu2.below hb3, HFS.out⟩)
      have HBR := Lib.hid hBR
      have HB3 := Lib.hid (hbw.trans (hb3.mono hbw.size))
      clear hu hb2 hbw hu2 k1 hb3 hBR
      go_wp2_with fail
      refine HBR.out.mono ?_
      rintro e w4 ⟨b4, rfl, h41, h42⟩
      have HFI := Lib.hid (And.intro (h41.upup HB3.out.size) (HB3.out.trans (h42.mono HB3.out.size)))
      clear h41 h42
      go_wp2_with fail
      go_ret
      exact ⟨_, rfl, by rw [HF.out]; exact HFI.out.1, HFI.out.2⟩
    · have HF : Hid (TT.fork a g b h (n + 1) l = .branch (fun c => if c = TT.chunk g l then a else if c = TT.chunk h l then b else .none)) := by
        show (if _ then _ else _) = _
        rw [if_neg hcd]
      generalize TT.chunk g l = c at *
      generalize TT.chunk h l = d at *
      have hab : ((c : Int) == (d : Int)) = false := by simp; omega
      clear hA hB hc ih
      rcases Nat.lt_or_gt_of_ne hcd with hlt | hgt
      · have hlt2 : ¬ (d : Int) < (c : Int) := by omega
        have HNE := Lib.hid hcd
        clear hcd
        go_enter Tryz.func104, Tryz.ntmps104
        go_wp2_with fail
        refine (HG.out _).mono ?_
        rintro e w1 ⟨rfl, hw1⟩
        rw [← hw1]
        clear hw1 w1
        go_wp2_with fail
        refine (HH.out _).mono ?_
        rintro e w1 ⟨rfl, hw1⟩
        rw [← hw1]
        clear hw1 w1
        go_wp2_with fail
        have k0 := heap_new w (.cells #[.int .i64 (c : Int), .int .i64 (d : Int)] 3)
        have hb0 : Below w.heap.size w (w.alloc (.cells #[.int .i64 (c : Int), .int .i64 (d : Int)] 3)) := (Below.refl _ _).alloc (Nat.le_refl _) _
        have HOF := Lib.hid (B.of_any _ 2 2 [(c : Int), (d : Int)] _ (rd_two _ _ c d 3 k0))
        have hmb : ∀ i, (B.ofN [(c : Int), (d : Int)]).testBit i = (decide (i = c) || decide (i = d)) := fun i => by
          rw [B.ofN_test, ← Bool.decide_or, decide_eq_decide]; simp; omega
        have hml := B.ofN_lt [(c : Int), (d : Int)]
        have hln := B.two_bits _ c d (by omega) (by omega) hmb
        generalize B.ofN [(c : Int), (d : Int)] = m at *
        have HMB := Lib.hid (And.intro hmb hln)
        have HB0 := Lib.hid hb0
        clear k0 hb0 hmb hln
        refine HOF.out.mono ?_
        rintro e w2 ⟨rfl, hw2⟩
        rw [← hw2]
        clear hw2 w2 HOF
        generalize w.alloc (.cells #[.int .i64 (c : Int), .int .i64 (d : Int)] 3) = w2 at *
        go_wp2_with fail
        have k1 := heap_new w2 (.cells #[.iface aT ap, .iface bT bp] 33)
        have hb3 : Below w2.heap.size w2 (w2.alloc (.cells #[.iface aT ap, .iface bT bp] 33)) := (Below.refl _ _).alloc (Nat.le_refl _) _
        have hbw := HB0.out.trans (hb3.mono HB0.out.size)
        have hBR := branch_any (S := Up S w.heap.size) m (some ⟨w2.heap.size, 0, none⟩) 2 [.iface aT ap, .iface bT bp] (fun i => if i = c then a else if i = d then b else .none) _ hml (vin_two (.inr HB0.out.size) k1) (by simp) (by rw [HMB.out.2]; rfl) (by simp)
          (fun i => by
            rw [HMB.out.1]
            have hne := HNE.out
            by_cases e : i = c
            · rw [if_pos e, ha]; simp [e]
            · rw [if_neg e]
              by_cases e2 : i = d
              · rw [if_pos e2, hb]; simp [e2]
              · rw [if_neg e2]; simp [e, e2, TT.isNone])
          (fun j hj => by
            have hne := HNE.out
            rw [HMB.out.2]
            rcases (show j = 0 ∨ j = 1 by simp at hj; omega) with rfl | rfl
            · show TrIn _ _ (if (c : Int).toNat = c then a else if (c : Int).toNat = d then b else .none) (.iface aT ap) ∧ (if (c : Int).toNat = c then a else if (c : Int).toNat = d then b else .none).isNone = false
              rw [Int.toNat_natCast, if_pos rfl]
              exact ⟨(HA.out.below hbw).up _, ha⟩
            · show TrIn _ _ (if (d : Int).toNat = c then a else if (d : Int).toNat = d then b else .none) (.iface bT bp) ∧ (if (d : Int).toNat = c then a else if (d : Int).toNat = d then b else .none).isNone = false
              rw [Int.toNat_natCast, if_neg (Ne.symm hne), if_pos rfl]
              exact ⟨(HB.out.below hbw).up _, hb⟩)
        have HBR := Lib.hid hBR
        have HB3 := Lib.hid hbw
        clear hbw k1 hb3 hBR
        go_wp2_with fail
        refine HBR.out.mono ?_
        rintro e w4 ⟨b4, rfl, h41, h42⟩
        have HFI := Lib.hid (And.intro (h41.upup HB3.out.size) (HB3.out.trans (h42.mono HB3.out.size)))
        clear h41 h42
        go_wp2_with fail
        go_ret
        exact ⟨_, rfl, by rw [HF.out]; exact HFI.out.1, HFI.out.2⟩
      · have hlt2 : (d : Int) < (c : Int) := by omega
        have HNE := Lib.hid hcd
        clear hcd
        go_enter Tryz.func104, Tryz.ntmps104
        go_wp2_with fail
        refine (HG.out _).mono ?_
        rintro e w1 ⟨rfl, hw1⟩
        rw [← hw1]
        clear hw1 w1
        go_wp2_with fail
        refine (HH.out _).mono ?_
        rintro e w1 ⟨rfl, hw1⟩
        rw [← hw1]
        clear hw1 w1
        go_wp2_with fail
        have k0 := heap_new w (.cells #[.int .i64 (c : Int), .int .i64 (d : Int)] 3)
        have hb0 : Below w.heap.size w (w.alloc (.cells #[.int .i64 (c : Int), .int .i64 (d : Int)] 3)) := (Below.refl _ _).alloc (Nat.le_refl _) _
        have HOF := Lib.hid (B.of_any _ 2 2 [(c : Int), (d : Int)] _ (rd_two _ _ c d 3 k0))
        have hmb : ∀ i, (B.ofN [(c : Int), (d : Int)]).testBit i = (decide (i = d) || decide (i = c)) := fun i => by
          rw [B.ofN_test, ← Bool.decide_or, decide_eq_decide]; simp; omega
        have hml := B.ofN_lt [(c : Int), (d : Int)]
        have hln := B.two_bits _ d c (by omega) (by omega) hmb
        generalize B.ofN [(c : Int), (d : Int)] = m at *
        have HMB := Lib.hid (And.intro hmb hln)
        have HB0 := Lib.hid hb0
        clear k0 hb0 hmb hln
        refine HOF.out.mono ?_
        rintro e w2 ⟨rfl, hw2⟩
        rw [← hw2]
        clear hw2 w2 HOF
        generalize w.alloc (.cells #[.int .i64 (c : Int), .int .i64 (d : Int)] 3) = w2 at *
        go_wp2_with fail
        have k1 := heap_new w2 (.cells #[.iface bT bp, .iface aT ap] 33)
        have hb3 : Below w2.heap.size w2 (w2.alloc (.cells #[.iface bT bp, .iface aT ap] 33)) := (Below.refl _ _).alloc (Nat.le_refl _) _
        have hbw := HB0.out.trans (hb3.mono HB0.out.size)
        have hBR := branch_any (S := Up S w.heap.size) m (some ⟨w2.heap.size, 0, none⟩) 2 [.iface bT bp, .iface aT ap] (fun i => if i = c then a else if i = d then b else .none) _ hml (vin_two (.inr HB0.out.size) k1) (by simp) (by rw [HMB.out.2]; rfl) (by simp)
          (fun i => by
            rw [HMB.out.1]
            have hne := HNE.out
            by_cases e : i = c
            · rw [if_pos e, ha]; simp [e]
            · rw [if_neg e]
              by_cases e2 : i = d
              · rw [if_pos e2, hb]; simp [e2]
              · rw [if_neg e2]; simp [e, e2, TT.isNone])
          (fun j hj => by
            have hne := HNE.out
            rw [HMB.out.2]
            rcases (show j = 0 ∨ j = 1 by simp at hj; omega) with rfl | rfl
            · show TrIn _ _ (if (d : Int).toNat = c then a else if (d : Int).toNat = d then b else .none) (.iface bT bp) ∧ (if (d : Int).toNat = c then a else if (d : Int).toNat = d then b else .none).isNone = false
              rw [Int.toNat_natCast, if_neg (Ne.symm hne), if_pos rfl]
              exact ⟨(HB.out.below hbw).up _, hb⟩
            · show TrIn _ _ (if (c : Int).toNat = c then a else if (c : Int).toNat = d then b else .none) (.iface aT ap) ∧ (if (c : Int).toNat = c then a else if (c : Int).toNat = d then b else .none).isNone = false
              rw [Int.toNat_natCast, if_pos rfl]
              exact ⟨(HA.out.below hbw).up _, ha⟩)
        have HBR := Lib.hid hBR
        have HB3 := Lib.hid hbw
        clear hbw k1 hb3 hBR
        go_wp2_with fail
        refine HBR.out.mono ?_
        rintro e w4 ⟨b4, rfl, h41, h42⟩
        have HFI := Lib.hid (And.intro (h41.upup HB3.out.size) (HB3.out.trans (h42.mono HB3.out.size)))
        clear h41 h42
        go_wp2_with fail
        go_ret
        exact ⟨_, rfl, by rw [HF.out]; exact HFI.out.1, HFI.out.2⟩

end Go.Proofs.YtphjaebkcimklaaGreatDoor

/- graft.into: a pair put into a node; leaves and nothing. -/
set_option linter.unusedVariables false
set_option linter.unusedSimpArgs false
namespace Go.Proofs.YtphjaebkcimklaaGreatDoor
open Go.RowKit

/-- What a call on a trie is given: bytes, a meter, the table; all of it in blocks of S. -/
structure PutH (S : Nat → Prop) (m : Option Nat) (w : World) (vi co : Nat) : Prop where
  hS : ∀ b, S b → m ≠ some b
  h2 : m ≠ some 2
  met : MAt m w vi co
  tab : B.TabOK w
theorem tab_kept {m : Option Nat} {w w1 : World} (h : B.TabOK w) (h2 : m ≠ some 2) (hk : Kept m w w1) : B.TabOK w1 :=
  ⟨Nat.lt_of_lt_of_le h.1 hk.size, fun i hi => (cell_block (hk.block 2 h.1 h2)).trans (h.2 i hi)⟩
theorem PutH.next {S : Nat → Prop} {m : Option Nat} {w w1 : World} {vi co vi1 co1 lo hi : Nat} (h : PutH S m w vi co) (hM : Met m w w1 vi co vi1 co1 lo hi) : PutH S m w1 vi1 co1 :=
  ⟨h.hS, h.h2, hM.at_, tab_kept h.tab h.h2 hM.kept⟩
theorem PutH.below {S : Nat → Prop} {m : Option Nat} {w w1 : World} {vi co : Nat} (h : PutH S m w vi co) (hb : Below w.heap.size w w1) : PutH S m w1 vi co :=
  ⟨h.hS, h.h2, h.met.below hb, h.tab.below h.tab.1 (Nat.le_refl _) hb⟩
theorem PutH.up {S : Nat → Prop} {m : Option Nat} {w : World} {vi co n : Nat} (h : PutH S m w vi co) (hn : w.heap.size ≤ n) : PutH (Up S n) m w vi co :=
  ⟨up_far h.met hn h.hS, h.h2, h.met, h.tab⟩

/-- What is put, in its box. -/
def PBox (W : World) (g : Nat) (h : Nat) (kv xv mv : Value) : Prop := W.heap[g]? = some (.cells #[.int .u64 (h : Int), kv, xv, mv] 145 (0, 0))
theorem PBox.cells {W : World} {g h : Nat} {kv xv mv : Value} (hb : PBox W g h kv xv mv) : W.cell? ⟨g, 0, none⟩ = some (.int .u64 (h : Int)) ∧ W.cell? ⟨g, 1, none⟩ = some kv ∧ W.cell? ⟨g, 2, none⟩ = some xv ∧ W.cell? ⟨g, 3, none⟩ = some mv :=
  ⟨cell_of_row W g 0 _ _ _ hb, cell_of_row W g 1 _ _ _ hb, cell_of_row W g 2 _ _ _ hb, cell_of_row W g 3 _ _ _ hb⟩
theorem PBox.lt {W : World} {g h : Nat} {kv xv mv : Value} (hb : PBox W g h kv xv mv) : g < W.heap.size := (Array.getElem?_eq_some_iff.1 hb).1
theorem PBox.below {W W' : World} {g h n : Nat} {kv xv mv : Value} (hb : PBox W g h kv xv mv) (hk : Below n W W') (hn : g < n) : PBox W' g h kv xv mv := (hk.block g hn).trans hb

/-- What a call that puts tells. -/
def IntoOut (S : Nat → Prop) (m : Option Nat) (w w' : World) (e : Ending) (t : TT) (vi co hi : Nat) : Prop :=
  ∃ u r vi' co', e = .returned (.tuple #[u, .bool r]) ∧ TrIn (Up S w.heap.size) w' t u ∧ Met m w w' vi co vi' co' 0 hi

theorem TrIn.of_leaf {S : Nat → Prop} {w : World} {b h : Nat} {k x : Bytes} (hb : S b) (h : LeafAt S w b h k x) : TrIn S w (.leaf ‹_› k x) (.iface 175 (.pointer (some ⟨b, 0, none⟩))) := ⟨b, rfl, hb, h⟩

set_option maxRecDepth 100000 in
set_option maxHeartbeats 1600000 in
theorem into_none {S : Nat → Prop} (m : Option Nat) (h l : Nat) (Ak Ax : Option Addr) (nk ck nx cx : Nat) (key x : Bytes) (w : World) (vi co : Nat) (hP : PutH S m w vi co) (hk : BIn S w (.slice Ak nk ck) key) (hx : BIn S w (.slice Ax nx cx) x) :
    Calls Tryz.prog 88 #[.agg #[.int .u64 (h : Int), .slice Ak nk ck, .slice Ax nx cx, mV m], .nilIface, .int .i64 (l : Int)] w fun e w' => IntoOut S m w w' e (.leaf h key x) vi co 0 := by
  obtain ⟨mu, hmu⟩ : ∃ u, mV m = .pointer u := by cases m <;> exact ⟨_, rfl⟩
  rw [hmu]
  clear hmu
  have hX : PBox (w.alloc (.cells #[.int .u64 (h : Int), .slice Ak nk ck, .slice Ax nx cx, .pointer mu] 145)) w.heap.size h (.slice Ak nk ck) (.slice Ax nx cx) (.pointer mu) := heap_new w _
  have hb : Below w.heap.size w (w.alloc (.cells #[.int .u64 (h : Int), .slice Ak nk ck, .slice Ax nx cx, .pointer mu] 145)) := (Below.refl _ _).alloc (Nat.le_refl _) _
  obtain ⟨c0, c1, c2, c3⟩ := hX.cells
  have HL := Lib.hid (leaf_any h Ak Ax nk ck nx cx key x _ (hk.below hb) (hx.below hb))
  have HP := Lib.hid hP
  have HB := Lib.hid hb
  have n1 := nil33_nil
  clear hX hb hk hx hP
  go_enter Tryz.func88, Tryz.ntmps88
  go_wp2_with fail
  refine HL.out.mono ?_
  rintro e w2 ⟨b, rfl, hbb, hl, hb2⟩
  have hbw := HB.out.trans (hb2.mono HB.out.size)
  have HF : Hid (TrIn (Up S w.heap.size) w2 (.leaf h key x) (.iface 175 (.pointer (some ⟨b, 0, none⟩))) ∧ Met m w w2 vi co vi co 0 0) :=
    ⟨⟨b, rfl, .inr (Nat.le_trans HB.out.size hbb), hl.imp fun b _ hb => .inr (Nat.le_trans HB.out.size hb)⟩, Met.of HP.out.met hbw⟩
  clear hl hb2 hbw
  go_wp2_with fail
  go_ret2
  exact ⟨_, true, vi, co, rfl, HF.out⟩

set_option maxRecDepth 100000 in
set_option maxHeartbeats 3200000 in
theorem into_leaf_fork {S : Nat → Prop} (m : Option Nat) (g h l : Nat) (k y : Bytes) (v : Value) (Ak Ax : Option Addr) (nk ck nx cx : Nat) (key x : Bytes) (w : World) (vi co : Nat) (hP : PutH S m w vi co) (hk : BIn S w (.slice Ak nk ck) key) (hx : BIn S w (.slice Ax nx cx) x)
    (hT : TrIn S w (.leaf g k y) v) (hne : g ≠ h) (hg : g < 2 ^ 64) (hh : h < 2 ^ 64) (hl : l ≤ 13) (hc : ∀ i, i < l → TT.chunk g i = TT.chunk h i) (hv : vi < 1000000) :
    Calls Tryz.prog 88 #[.agg #[.int .u64 (h : Int), .slice Ak nk ck, .slice Ax nx cx, mV m], v, .int .i64 (l : Int)] w fun e w' => IntoOut S m w w' e (TT.fork (.leaf g k y) g (.leaf h key x) h (13 - l) l) vi co 1 := by
  obtain ⟨mu, hmu⟩ : ∃ u, mV m = .pointer u := by cases m <;> exact ⟨_, rfl⟩
  have HMV := Lib.hid hmu
  rw [hmu]
  clear hmu
  obtain ⟨b, rfl, hSb, hlf⟩ := id hT
  have hX : PBox (w.alloc (.cells #[.int .u64 (h : Int), .slice Ak nk ck, .slice Ax nx cx, .pointer mu] 145)) w.heap.size h (.slice Ak nk ck) (.slice Ax nx cx) (.pointer mu) := heap_new w _
  have hb : Below w.heap.size w (w.alloc (.cells #[.int .u64 (h : Int), .slice Ak nk ck, .slice Ax nx cx, .pointer mu] 145)) := (Below.refl _ _).alloc (Nat.le_refl _) _
  obtain ⟨c0, c1, c2, c3⟩ := hX.cells
  have hVI := visit_any m vi co _ (hP.met.below hb) hv
  rw [HMV.out] at hVI
  have HVI := Lib.hid hVI
  have HP := Lib.hid hP
  have HB := Lib.hid hb
  have HX := Lib.hid hX
  have HT := Lib.hid hT
  have HKX := Lib.hid (And.intro hk hx)
  have hmx : m ≠ some w.heap.size := fun e => by have := hP.met.lt _ e; omega
  have p1 := nil33_175
  have mm := m_kind_175
  have hgh : ((g : Int) != (h : Int)) = true := by simp; omega
  clear hX hb hk hx hP hT hVI hlf
  go_enter Tryz.func88, Tryz.ntmps88
  go_wp2_with fail
  refine (kind_175 _ _).mono ?_
  rintro e w1 ⟨rfl, hw1⟩
  rw [hw1]
  clear hw1 w1
  go_wp2_with fail
  refine (kind_175 _ _).mono ?_
  rintro e w1 ⟨rfl, hw1⟩
  rw [hw1]
  clear hw1 w1
  go_wp2_with fail
  refine HVI.out.mono ?_
  rintro e Y ⟨rfl, hk1, hM1⟩
  have hKY : Kept m w Y := (Kept.of HB.out).trans hk1
  have hTY := HT.out.kept hKY HP.out.hS
  have HHS := Lib.hid (by obtain ⟨b2, he, _, hl2⟩ := hTY; obtain rfl : b = b2 := (by injection he with _ he; injection he with he; injection he with he; injection he); exact hash_leaf b g k y Y hl2)
  have HXY : Hid (PBox Y w.heap.size h (.slice Ak nk ck) (.slice Ax nx cx) (.pointer mu)) := (hk1.block _ HX.out.lt hmx).trans HX.out
  have HKY := Lib.hid hKY
  have HM1 := Lib.hid hM1
  have HTY := Lib.hid hTY
  clear c0 c1 c2 c3 hk1 hM1 hKY hTY
  obtain ⟨c0, c1, c2, c3⟩ := HXY.out.cells
  go_wp2_with fail
  refine HHS.out.mono ?_
  rintro e w1 ⟨rfl, hw1⟩
  rw [hw1]
  clear hw1 w1
  go_wp2_with fail
  have HK2 : Hid (BIn S Y (.slice Ak nk ck) key ∧ BIn S Y (.slice Ax nx cx) x) := ⟨HKX.out.1.kept HKY.out HP.out.hS, HKX.out.2.kept HKY.out HP.out.hS⟩
  have HXC : Hid (∀ W, Below Y.heap.size Y W → W.cell? ⟨w.heap.size, 0, none⟩ = some (.int .u64 (h : Int)) ∧ W.cell? ⟨w.heap.size, 1, none⟩ = some (.slice Ak nk ck) ∧ W.cell? ⟨w.heap.size, 2, none⟩ = some (.slice Ax nx cx)) := fun W hW => by
    obtain ⟨d0, d1, d2, _⟩ := (HXY.out.below hW HXY.out.lt).cells
    exact ⟨d0, d1, d2⟩
  have HL := Lib.hid (leaf_any h Ak Ax nk ck nx cx key x Y.drew (HK2.out.1.below (below_drew2 (Below.refl _ _))) (HK2.out.2.below (below_drew2 (Below.refl _ _))))
  have HFK := Lib.hid (fun va vb W (hA : TrIn (Up S Y.heap.size) W (.leaf g k y) va) (hB : TrIn (Up S Y.heap.size) W (.leaf h key x) vb) => fork_any g h hne hg hh (.leaf g k y) (.leaf h key x) rfl rfl (13 - l) l va vb W (by omega) hc hA hB)
  clear hc hg hh hne
  go_region_held3 (fun W => W.cell? ⟨w.heap.size, 0, none⟩ = some (.int .u64 (h : Int)) ∧ W.cell? ⟨w.heap.size, 1, none⟩ = some (.slice Ak nk ck) ∧ W.cell? ⟨w.heap.size, 2, none⟩ = some (.slice Ax nx cx))
    (first | with_reducible exact HXC.out _ (below_drew2 (Below.refl _ _)) | with_reducible exact HXC.out _ B1.out | with_reducible exact HXC.out _ B2.out)
    (first
      | (go_at_call 101; (with_reducible refine HL.out.mono ?_); rintro e wa ⟨b2, rfl, hbb, hl2, hb2⟩
         have B1 : Hid (Below Y.heap.size Y wa) := below_drew1 hb2
         have TA : Hid (TrIn (Up S Y.heap.size) wa (.leaf g k y) (.iface 175 (.pointer (some ⟨b, 0, none⟩)))) := (HTY.out.below B1.out).up _
         have TB : Hid (TrIn (Up S Y.heap.size) wa (.leaf h key x) (.iface 175 (.pointer (some ⟨b2, 0, none⟩)))) := ⟨b2, rfl, .inr hbb, hl2.imp fun b _ hb => .inr hb⟩
         clear hbb hl2 hb2)
      | (go_at_call 104; (with_reducible refine (HFK.out _ _ _ TA.out TB.out).mono ?_); rintro e wb ⟨u, rfl, hu, hb3⟩
         have B2 : Hid (Below Y.heap.size Y wb) := B1.out.trans (hb3.mono B1.out.size)
         have TU : Hid (TrIn (Up S Y.heap.size) wb (TT.fork (.leaf g k y) g (.leaf h key x) h (13 - l) l) u) := hu.upup B1.out.size
         clear hu hb3))
  go_wp2_with fail
  go_ret2
  exact ⟨u, true, vi + 1, co, rfl, TU.out.imp (fun b _ hb => by rcases hb with hb | hb; exact .inl hb; exact .inr (Nat.le_trans HKY.out.size hb)), (⟨HKY.out, HM1.out, by omega, by omega, by omega, by omega⟩ : Met m w Y vi co (vi + 1) co 0 1).trans (Met.of HM1.out B2.out)⟩

theorem bucket_tr {S : Nat → Prop} (h : Nat) (T : PT) (v : Value) (w : World) (hT : TIn S w v T) (he : T.even) :
    Calls Tryz.prog 106 #[.int .u64 (h : Int), v] w fun e w' => ∃ u, e = .returned u ∧ TrIn (Up S w.heap.size) w' (TT.buck h T.list) u ∧ Below w.heap.size w w' := by
  refine (bucket_any h T v w hT).mono ?_
  have hsz := T.size_list
  rintro e w' (⟨h0, rfl, rfl⟩ | ⟨h1, b, rfl, hb, hl, hbe⟩ | ⟨h2, b, rfl, hb, hl, hbe⟩)
  · have : T.list = [] := List.eq_nil_of_length_eq_zero (hsz.trans h0)
    rw [this]
    exact ⟨_, rfl, rfl, Below.refl _ _⟩
  · refine ⟨_, rfl, ?_, hbe⟩
    have : T.list = [T.root] := by
      cases T with
      | nil => simp [PT.size] at h1
      | node l k x r =>
        simp only [PT.size] at h1
        have hl0 : l.list = [] := List.eq_nil_of_length_eq_zero (by rw [PT.size_list]; omega)
        have hr0 : r.list = [] := List.eq_nil_of_length_eq_zero (by rw [PT.size_list]; omega)
        rw [PT.list, hl0, hr0]; rfl
    rw [this]
    exact ⟨b, rfl, .inr hb, hl.imp fun _ _ h => .inr h⟩
  · refine ⟨_, rfl, ?_, hbe⟩
    have hbk : TT.buck h T.list = .bucket h T.list := by
      match hL : T.list with
      | [] => rw [hL] at hsz; simp at hsz; omega
      | [_] => rw [hL] at hsz; simp at hsz; omega
      | _ :: _ :: _ => rfl
    rw [hbk]
    exact ⟨b, T, rfl, .inr hb, hl.imp fun _ _ h => .inl h, rfl, he⟩

/-- A pair put into a leaf of its hash. -/
def leafPut (h : Nat) (k y key x : Bytes) : TT := if k = key then .leaf h key x else .bucket h (insL key x [(k, y)])
set_option maxRecDepth 100000 in
set_option maxHeartbeats 3200000 in
theorem into_leaf_same {S : Nat → Prop} (m : Option Nat) (h l : Nat) (k y : Bytes) (v : Value) (Ak Ax : Option Addr) (nk ck nx cx : Nat) (key x : Bytes) (w : World) (vi co : Nat) (hP : PutH S m w vi co) (hk : BIn S w (.slice Ak nk ck) key) (hx : BIn S w (.slice Ax nx cx) x)
    (hT : TrIn S w (.leaf h k y) v) (hv : vi < 1000000) (hco : co < 1000000) :
    Calls Tryz.prog 88 #[.agg #[.int .u64 (h : Int), .slice Ak nk ck, .slice Ax nx cx, mV m], v, .int .i64 (l : Int)] w fun e w' => IntoOut S m w w' e (leafPut h k y key x) vi co 1 := by
  obtain ⟨mu, hmu⟩ : ∃ u, mV m = .pointer u := by cases m <;> exact ⟨_, rfl⟩
  have HMV := Lib.hid hmu
  rw [hmu]
  clear hmu
  obtain ⟨b, rfl, hSb, hlf⟩ := id hT
  have hX : PBox (w.alloc (.cells #[.int .u64 (h : Int), .slice Ak nk ck, .slice Ax nx cx, .pointer mu] 145)) w.heap.size h (.slice Ak nk ck) (.slice Ax nx cx) (.pointer mu) := heap_new w _
  have hb : Below w.heap.size w (w.alloc (.cells #[.int .u64 (h : Int), .slice Ak nk ck, .slice Ax nx cx, .pointer mu] 145)) := (Below.refl _ _).alloc (Nat.le_refl _) _
  obtain ⟨c0, c1, c2, c3⟩ := hX.cells
  have hVI := visit_any m vi co _ (hP.met.below hb) hv
  rw [HMV.out] at hVI
  have HVI := Lib.hid hVI
  have HP := Lib.hid hP
  have HB := Lib.hid hb
  have HX := Lib.hid hX
  have HT := Lib.hid hT
  have HKX := Lib.hid (And.intro hk hx)
  have hmx : m ≠ some w.heap.size := fun e => by have := hP.met.lt _ e; omega
  have p1 := nil33_175
  have mm := m_kind_175
  clear hX hb hk hx hP hT hVI hlf
  go_enter Tryz.func88, Tryz.ntmps88
  go_wp2_with fail
  refine (kind_175 _ _).mono ?_
  rintro e w1 ⟨rfl, hw1⟩
  rw [hw1]
  clear hw1 w1
  go_wp2_with fail
  refine (kind_175 _ _).mono ?_
  rintro e w1 ⟨rfl, hw1⟩
  rw [hw1]
  clear hw1 w1
  go_wp2_with fail
  refine HVI.out.mono ?_
  rintro e Y ⟨rfl, hk1, hM1⟩
  have hKY : Kept m w Y := (Kept.of HB.out).trans hk1
  have hTY := HT.out.kept hKY HP.out.hS
  have hlY : LeafAt S Y b h k y := by obtain ⟨b2, he, _, hl2⟩ := hTY; obtain rfl : b = b2 := (by injection he with _ he; injection he with he; injection he with he; injection he); exact hl2
  have HHS := Lib.hid (hash_leaf b h k y Y hlY)
  have HPR := Lib.hid (pair_leaf b h k y Y hlY)
  have HXY : Hid (PBox Y w.heap.size h (.slice Ak nk ck) (.slice Ax nx cx) (.pointer mu)) := (hk1.block _ HX.out.lt hmx).trans HX.out
  have HKY := Lib.hid hKY
  have HM1 := Lib.hid hM1
  have HTY := Lib.hid hTY
  clear c0 c1 c2 c3 hk1 hM1 hKY hTY hlY
  obtain ⟨c0, c1, c2, c3⟩ := HXY.out.cells
  go_wp2_with fail
  refine HHS.out.mono ?_
  rintro e w1 ⟨rfl, hw1⟩
  rw [hw1]
  clear hw1 w1
  go_wp2_with fail
  refine HPR.out.mono ?_
  rintro e w2 ⟨u, rfl, hu, hb2⟩
  obtain ⟨kv, xv, rfl, hk2, hx2⟩ := hu
  obtain ⟨Bk, mk, dk, rfl⟩ := hk2.slice
  obtain ⟨Bx, mx, dx, rfl⟩ := hx2.slice
  have HK2 : Hid (BIn S Y (.slice Ak nk ck) key ∧ BIn S Y (.slice Ax nx cx) x) := ⟨HKX.out.1.kept HKY.out HP.out.hS, HKX.out.2.kept HKY.out HP.out.hS⟩
  have hbz : Below w2.heap.size w2 (w2.alloc (.cells #[.slice Bk mk dk, .slice Bx mx dx] 60)) := (Below.refl _ _).alloc (Nat.le_refl _) _
  have hZ : Two (w2.alloc (.cells #[.slice Bk mk dk, .slice Bx mx dx] 60)) w2.heap.size (.slice Bk mk dk) (.slice Bx mx dx) := heap_new w2 _
  have HBZ : Hid (Below Y.heap.size Y (w2.alloc (.cells #[.slice Bk mk dk, .slice Bx mx dx] 60))) := hb2.trans (hbz.mono hb2.size)
  have HU2 : Hid (BIn (New Y.heap.size) (w2.alloc (.cells #[.slice Bk mk dk, .slice Bx mx dx] 60)) (.slice Bk mk dk) k ∧ BIn (New Y.heap.size) (w2.alloc (.cells #[.slice Bk mk dk, .slice Bx mx dx] 60)) (.slice Bx mx dx) y) := ⟨hk2.below hbz, hx2.below hbz⟩
  have HG2 : Hid (Y.heap.size ≤ w2.heap.size) := hb2.size
  have HXZ : Hid (PBox (w2.alloc (.cells #[.slice Bk mk dk, .slice Bx mx dx] 60)) w.heap.size h (.slice Ak nk ck) (.slice Ax nx cx) (.pointer mu)) := HXY.out.below HBZ.out HXY.out.lt
  have HZ := Lib.hid hZ
  have hmY : ∀ b, New Y.heap.size b → m ≠ some b := fun b hb e => by have := HM1.out.lt b e; have h2 : Y.heap.size ≤ b := hb; omega
  have hCM := mcompare_any (S := S) (S' := New Y.heap.size) m (.slice Ak nk ck) (.slice Bk mk dk) key k (vi + 1) co _ (HM1.out.below HBZ.out) hco (HK2.out.1.below HBZ.out) HU2.out.1 HP.out.hS hmY
  rw [HMV.out] at hCM
  have HCM := Lib.hid hCM
  clear c0 c1 c2 c3 hk2 hx2 hbz hZ hCM hb2 hmY
  go_upto_region 11 with (fail)
  generalize hGZ : w2.heap.size = gz at *
  have HGZ := Lib.hid hGZ
  clear hGZ
  generalize w2.alloc (.cells #[.slice Bk mk dk, .slice Bx mx dx] 60) = Z at *
  obtain ⟨c0, c1, c2, c3⟩ := HXZ.out.cells
  obtain ⟨z0, z1⟩ := HZ.out.cells
  go_wp2_with fail
  refine HCM.out.mono ?_
  rintro e V ⟨rfl, hkV, hMV⟩
  have hmxg : m ≠ some gz := fun e => by have := HM1.out.lt _ e; have := HG2.out; omega
  have HKV : Hid (Kept m w V) := (HKY.out.trans (Kept.of HBZ.out)).trans hkV
  have HXV : Hid (PBox V w.heap.size h (.slice Ak nk ck) (.slice Ax nx cx) (.pointer mu)) := (hkV.block _ HXZ.out.lt hmx).trans HXZ.out
  have HZV : Hid (Two V gz (.slice Bk mk dk) (.slice Bx mx dx)) := (hkV.block _ HZ.out.lt hmxg).trans HZ.out
  have hmY : ∀ b, New Y.heap.size b → m ≠ some b := fun b hb e => by have := HM1.out.lt b e; have h2 : Y.heap.size ≤ b := hb; omega
  have HUV : Hid ((BIn S V (.slice Ak nk ck) key ∧ BIn S V (.slice Ax nx cx) x) ∧ BIn (New Y.heap.size) V (.slice Bk mk dk) k ∧ BIn (New Y.heap.size) V (.slice Bx mx dx) y) :=
    ⟨⟨(HK2.out.1.below HBZ.out).kept hkV HP.out.hS, (HK2.out.2.below HBZ.out).kept hkV HP.out.hS⟩, HU2.out.1.kept hkV hmY, HU2.out.2.kept hkV hmY⟩
  have HMT : Hid (Met m w V vi co (vi + 1) (co + 1) 0 1) := ⟨HKV.out, hMV, by omega, by omega, by omega, by omega⟩
  clear c0 c1 c2 c3 z0 z1 hkV hMV hmY
  obtain ⟨c0, c1, c2, c3⟩ := HXV.out.cells
  obtain ⟨z0, z1⟩ := HZV.out.cells
  by_cases heq : k = key
  · have hc0 : Lib.compareBytes key k = 0 := (cmp_eq0 key k).2 heq.symm
    rw [hc0]
    have HE : Hid (leafPut h k y key x = .leaf h key x) := if_pos heq
    have HL := Lib.hid (leaf_any h Ak Ax nk ck nx cx key x V HUV.out.1.1 HUV.out.1.2)
    clear heq hc0
    go_wp2_with fail
    refine HL.out.mono ?_
    rintro e w4 ⟨b4, rfl, hbb, hl4, hb4⟩
    have HF : Hid (TrIn (Up S w.heap.size) w4 (.leaf h key x) (.iface 175 (.pointer (some ⟨b4, 0, none⟩))) ∧ Met m w w4 vi co (vi + 1) (co + 1) 0 1) :=
      ⟨⟨b4, rfl, .inr (Nat.le_trans HKV.out.size hbb), hl4.imp fun b _ hb => .inr (Nat.le_trans HKV.out.size hb)⟩, HMT.out.trans (Met.of HMT.out.at_ hb4)⟩
    clear hl4 hb4 hbb
    go_wp2_with fail
    go_ret2
    exact ⟨_, false, vi + 1, co + 1, rfl, by rw [HE.out]; exact HF.out.1, HF.out.2⟩
  · have hc0 : (Lib.compareBytes key k == 0) = false := by
      rw [beq_eq_false_iff_ne]; intro e; exact heq ((cmp_eq0 key k).1 e).symm
    have HE : Hid (leafPut h k y key x = .bucket h (insL key x [(k, y)])) := if_neg heq
    have HNE := Lib.hid heq
    clear heq
    generalize Lib.compareBytes key k = cc at *
    go_wp2_with fail
    have HVC : Hid (∀ W, Below V.heap.size V W → (W.cell? ⟨w.heap.size, 0, none⟩ = some (.int .u64 (h : Int)) ∧ W.cell? ⟨w.heap.size, 1, none⟩ = some (.slice Ak nk ck) ∧ W.cell? ⟨w.heap.size, 2, none⟩ = some (.slice Ax nx cx)) ∧ W.cell? ⟨gz, 0, none⟩ = some (.slice Bk mk dk) ∧ W.cell? ⟨gz, 1, none⟩ = some (.slice Bx mx dx)) := fun W hW => by
      obtain ⟨d0, d1, d2, _⟩ := (HXV.out.below hW HXV.out.lt).cells
      exact ⟨⟨d0, d1, d2⟩, (HZV.out.below hW HZV.out.lt).cells⟩
    have HBV : Hid (Below V.heap.size V (V.alloc (.cells #[.slice Bk mk dk, .slice Bx mx dx] 60))) := (Below.refl _ _).alloc (Nat.le_refl _) _
    have HLI := Lib.hid (from_any 1 (S := fun _ => True) [(k, y)] (some ⟨V.heap.size, 0, none⟩) 1 (V.alloc (.cells #[.slice Bk mk dk, .slice Bx mx dx] 60)).drew ⟨rfl, fun _ => ⟨V.heap.size, 0, rfl, by simp, trivial, fun j hj => by
      obtain rfl : j = 0 := by omega
      have hbd := HBV.out
      exact ⟨_, _, cell_of_row _ V.heap.size 0 _ _ _ (heap_new V _), cell_of_row _ V.heap.size 1 _ _ _ (heap_new V _), ((HUV.out.2.1.below hbd).imp fun _ _ _ => trivial).below (below_drew2 (Below.refl _ _)), ((HUV.out.2.2.below hbd).imp fun _ _ _ => trivial).below (below_drew2 (Below.refl _ _))⟩⟩⟩ (by omega) (by omega))
    have HPI : Hid (∀ W, Below V.heap.size V W → PIn (Up S V.heap.size) W (.agg #[.slice Ak nk ck, .slice Ax nx cx]) key x) := fun W hW => ⟨_, _, rfl, (HUV.out.1.1.below hW).up _, (HUV.out.1.2.below hW).up _⟩
    go_region_held3 (fun W => (W.cell? ⟨w.heap.size, 0, none⟩ = some (.int .u64 (h : Int)) ∧ W.cell? ⟨w.heap.size, 1, none⟩ = some (.slice Ak nk ck) ∧ W.cell? ⟨w.heap.size, 2, none⟩ = some (.slice Ax nx cx)) ∧ W.cell? ⟨gz, 0, none⟩ = some (.slice Bk mk dk) ∧ W.cell? ⟨gz, 1, none⟩ = some (.slice Bx mx dx))
      (first | with_reducible exact HVC.out _ (below_drew2 (Below.refl _ _)) | with_reducible exact HVC.out _ B5.out | with_reducible exact HVC.out _ B6.out | with_reducible exact HVC.out _ B7.out | go_keep)
      (first
        | (go_at_call 54; (with_reducible refine HLI.out.mono ?_); rintro e w5 ⟨u5, T5, rfl, t51, t52, t53, t54⟩
           have B5 : Hid (Below V.heap.size V w5) := HBV.out.trans ((below_drew1 t54).mono HBV.out.size)
           have TT5 : Hid (T5.list = [(k, y)] ∧ T5.even ∧ TIn (Up S V.heap.size) w5 u5 T5) := ⟨t51, t52, t53.imp fun b _ hb => .inr (Nat.le_trans HBV.out.size hb)⟩
           obtain ⟨p5, rfl⟩ := t53.ptr
           have HPU : Hid (Calls Tryz.prog 80 #[.pointer p5, .agg #[.slice Ak nk ck, .slice Ax nx cx], .pointer none] w5 fun e w' => MadeM (Up S V.heap.size) none w5 w' e (T5.putL key x) 0 0 (min 1 T5.size) T5.height) := Put_any (S := Up S V.heap.size) none (by simp) key x T5 (.pointer p5) (.agg #[.slice Ak nk ck, .slice Ax nx cx]) 0 0 w5 TT5.out.2.2 (HPI.out w5 B5.out) (fun b e => by cases e) TT5.out.2.1 (by rw [← PT.size_list, TT5.out.1]; simp) (by have h1 := T5.height_le; have h2 := T5.size_list; rw [TT5.out.1] at h2; simp at h2; omega) (by have h1 := T5.height_le; have h2 := T5.size_list; rw [TT5.out.1] at h2; simp at h2; omega)
           clear t51 t52 t53 t54)
        | (go_at_call 80; (with_reducible refine HPU.out.mono ?_); rintro e w6 ⟨u6, T6, vi6, co6, rfl, t61, t62, t63, t64⟩
           have hb6 : Below w5.heap.size w5 w6 := t64.kept.to
           have B6 : Hid (Below V.heap.size V w6) := B5.out.trans (hb6.mono B5.out.size)
           have TT6 : Hid (T6.list = insL key x [(k, y)]) := by
             rw [t61, put_plain T5 key x (by rw [TT5.out.1]; exact List.pairwise_cons.2 ⟨by simp, List.Pairwise.nil⟩), TT5.out.1]; exact (rfl : insL key x [(k, y)] = _)
           have HBK := Lib.hid (bucket_tr h T6 (.pointer u6) w6 t63 t62)
           have HZ6 := Lib.hid hb6.size
           clear t61 t62 t63 t64 hb6)
        | (go_at_call 106; (with_reducible refine HBK.out.mono ?_); rintro e w7 ⟨u7, rfl, t71, t72⟩
           have B7 : Hid (Below V.heap.size V w7) := B6.out.trans (t72.mono B6.out.size)
           have TT7 := Lib.hid t71
           clear t71 t72))
    have hbk : TT.buck h (insL key x [(k, y)]) = .bucket h (insL key x [(k, y)]) := by
      have hl : 2 ≤ (insL key x [(k, y)]).length := by
        unfold insL
        split
        · have := ins_pos key x []
          simp; omega
        · rw [if_neg HNE.out]; simp
      match hL : insL key x [(k, y)] with
      | [] => rw [hL] at hl; simp at hl
      | [_] => rw [hL] at hl; simp at hl
      | _ :: _ :: _ => rfl
    have HFI : Hid (TrIn (Up S w.heap.size) w7 (leafPut h k y key x) u7) := by
      have h1 := TT7.out
      rw [TT6.out, hbk] at h1
      rw [HE.out]
      refine h1.imp fun b _ hb => ?_
      have e1 := HKV.out.size
      have e2 := B5.out.size
      have e3 := HZ6.out
      rcases hb with ((hb | hb) | hb) | hb
      · exact .inl hb
      · exact .inr (by omega)
      · exact .inr (by omega)
      · exact .inr (by omega)
    clear hbk
    go_wp2_with fail
    go_ret2
    exact ⟨u7, true, vi + 1, co + 1, rfl, HFI.out, HMT.out.trans (Met.of HMT.out.at_ B7.out)⟩

end Go.Proofs.YtphjaebkcimklaaGreatDoor

/- graft.into: a pair put into a node; buckets. -/
set_option linter.unusedVariables false
set_option linter.unusedSimpArgs false
namespace Go.Proofs.YtphjaebkcimklaaGreatDoor
open Go.RowKit

set_option maxRecDepth 100000 in
set_option maxHeartbeats 3200000 in
theorem into_bucket_fork {S : Nat → Prop} (m : Option Nat) (g h l : Nat) (L : Pairs) (v : Value) (Ak Ax : Option Addr) (nk ck nx cx : Nat) (key x : Bytes) (w : World) (vi co : Nat) (hP : PutH S m w vi co) (hk : BIn S w (.slice Ak nk ck) key) (hx : BIn S w (.slice Ax nx cx) x)
    (hT : TrIn S w (.bucket g L) v) (hne : g ≠ h) (hg : g < 2 ^ 64) (hh : h < 2 ^ 64) (hl : l ≤ 13) (hc : ∀ i, i < l → TT.chunk g i = TT.chunk h i) :
    Calls Tryz.prog 88 #[.agg #[.int .u64 (h : Int), .slice Ak nk ck, .slice Ax nx cx, mV m], v, .int .i64 (l : Int)] w fun e w' => IntoOut S m w w' e (TT.fork (.bucket g L) g (.leaf h key x) h (13 - l) l) vi co 0 := by
  obtain ⟨mu, hmu⟩ : ∃ u, mV m = .pointer u := by cases m <;> exact ⟨_, rfl⟩
  rw [hmu]
  clear hmu
  obtain ⟨b, T, rfl, hSb, hlf, hTL, hTe⟩ := id hT
  have hX : PBox (w.alloc (.cells #[.int .u64 (h : Int), .slice Ak nk ck, .slice Ax nx cx, .pointer mu] 145)) w.heap.size h (.slice Ak nk ck) (.slice Ax nx cx) (.pointer mu) := heap_new w _
  have hb : Below w.heap.size w (w.alloc (.cells #[.int .u64 (h : Int), .slice Ak nk ck, .slice Ax nx cx, .pointer mu] 145)) := (Below.refl _ _).alloc (Nat.le_refl _) _
  obtain ⟨c0, c1, c2, c3⟩ := hX.cells
  have HHS := Lib.hid (hash_bucket b g T _ (hlf.carry hSb hb.size (fun b _ hlt => hb.block b hlt)))
  have HP := Lib.hid hP
  have HB := Lib.hid hb
  have HX := Lib.hid hX
  have HT := Lib.hid hT
  have HKX := Lib.hid (And.intro hk hx)
  have p1 := nil33_181
  have mm := m_kind_181
  have hgh : ((g : Int) != (h : Int)) = true := by simp; omega
  clear hX hb hk hx hP hT hlf hTL hTe
  go_enter Tryz.func88, Tryz.ntmps88
  go_upto_block 0 with (fail)
  generalize w.alloc (.cells #[.int .u64 (h : Int), .slice Ak nk ck, .slice Ax nx cx, .pointer mu] 145) = Y at *
  go_wp2_with fail
  refine (kind_181 _ _).mono ?_
  rintro e w1 ⟨rfl, hw1⟩
  rw [hw1]
  clear hw1 w1
  go_wp2_with fail
  refine (kind_181 _ _).mono ?_
  rintro e w1 ⟨rfl, hw1⟩
  rw [hw1]
  clear hw1 w1
  go_wp2_with fail
  refine HHS.out.mono ?_
  rintro e w1 ⟨rfl, hw1⟩
  rw [hw1]
  clear hw1 w1
  go_wp2_with fail
  have HK2 : Hid (BIn S Y (.slice Ak nk ck) key ∧ BIn S Y (.slice Ax nx cx) x) := ⟨HKX.out.1.below HB.out, HKX.out.2.below HB.out⟩
  have HTY : Hid (TrIn S Y (.bucket g L) (.iface 181 (.pointer (some ⟨b, 0, none⟩)))) := HT.out.below HB.out
  have HXC : Hid (∀ W, Below Y.heap.size Y W → W.cell? ⟨w.heap.size, 0, none⟩ = some (.int .u64 (h : Int)) ∧ W.cell? ⟨w.heap.size, 1, none⟩ = some (.slice Ak nk ck) ∧ W.cell? ⟨w.heap.size, 2, none⟩ = some (.slice Ax nx cx)) := fun W hW => by
    obtain ⟨d0, d1, d2, _⟩ := (HX.out.below hW HX.out.lt).cells
    exact ⟨d0, d1, d2⟩
  have HL := Lib.hid (leaf_any h Ak Ax nk ck nx cx key x Y.drew (HK2.out.1.below (below_drew2 (Below.refl _ _))) (HK2.out.2.below (below_drew2 (Below.refl _ _))))
  have HFK := Lib.hid (fun va vb W (hA : TrIn (Up S Y.heap.size) W (.bucket g L) va) (hB : TrIn (Up S Y.heap.size) W (.leaf h key x) vb) => fork_any g h hne hg hh (.bucket g L) (.leaf h key x) rfl rfl (13 - l) l va vb W (by omega) hc hA hB)
  clear hc hg hh hne
  go_region_held3 (fun W => W.cell? ⟨w.heap.size, 0, none⟩ = some (.int .u64 (h : Int)) ∧ W.cell? ⟨w.heap.size, 1, none⟩ = some (.slice Ak nk ck) ∧ W.cell? ⟨w.heap.size, 2, none⟩ = some (.slice Ax nx cx))
    (first | with_reducible exact HXC.out _ (below_drew2 (Below.refl _ _)) | with_reducible exact HXC.out _ B1.out | with_reducible exact HXC.out _ B2.out)
    (first
      | (go_at_call 101; (with_reducible refine HL.out.mono ?_); rintro e wa ⟨b2, rfl, hbb, hl2, hb2⟩
         have B1 : Hid (Below Y.heap.size Y wa) := below_drew1 hb2
         have TA : Hid (TrIn (Up S Y.heap.size) wa (.bucket g L) (.iface 181 (.pointer (some ⟨b, 0, none⟩)))) := (HTY.out.below B1.out).up _
         have TB : Hid (TrIn (Up S Y.heap.size) wa (.leaf h key x) (.iface 175 (.pointer (some ⟨b2, 0, none⟩)))) := ⟨b2, rfl, .inr hbb, hl2.imp fun b _ hb => .inr hb⟩
         clear hbb hl2 hb2)
      | (go_at_call 104; (with_reducible refine (HFK.out _ _ _ TA.out TB.out).mono ?_); rintro e wb ⟨u, rfl, hu, hb3⟩
         have B2 : Hid (Below Y.heap.size Y wb) := B1.out.trans (hb3.mono B1.out.size)
         have TU : Hid (TrIn (Up S Y.heap.size) wb (TT.fork (.bucket g L) g (.leaf h key x) h (13 - l) l) u) := hu.upup B1.out.size
         clear hu hb3))
  go_wp2_with fail
  go_ret2
  exact ⟨u, true, vi, co, rfl, TU.out.imp (fun b _ hb => by rcases hb with hb | hb; exact .inl hb; exact .inr (Nat.le_trans HB.out.size hb)), Met.of HP.out.met (HB.out.trans (B2.out.mono HB.out.size))⟩

set_option maxRecDepth 100000 in
set_option maxHeartbeats 3200000 in
theorem into_bucket_same {S : Nat → Prop} (m : Option Nat) (h l H : Nat) (L : Pairs) (v : Value) (Ak Ax : Option Addr) (nk ck nx cx : Nat) (key x : Bytes) (w : World) (vi co : Nat) (hP : PutH S m w vi co) (hk : BIn S w (.slice Ak nk ck) key) (hx : BIn S w (.slice Ax nx cx) x)
    (hT : TrIn S w (.bucket h L) v) (hA : Asc L) (hL2 : 2 ≤ L.length) (hL : L.length + 1 ≤ 500000) (hH : ∀ T : PT, T.even → T.size ≤ L.length → T.height ≤ H) (hv : vi + H < 1000000) (hco : co + H < 1000000) :
    Calls Tryz.prog 88 #[.agg #[.int .u64 (h : Int), .slice Ak nk ck, .slice Ax nx cx, mV m], v, .int .i64 (l : Int)] w fun e w' => IntoOut S m w w' e (.bucket h (insL key x L)) vi co H := by
  obtain ⟨mu, hmu⟩ : ∃ u, mV m = .pointer u := by cases m <;> exact ⟨_, rfl⟩
  have HMV := Lib.hid hmu
  rw [hmu]
  clear hmu
  obtain ⟨b, T, rfl, hSb, hlf, hTL, hTe⟩ := id hT
  have hX : PBox (w.alloc (.cells #[.int .u64 (h : Int), .slice Ak nk ck, .slice Ax nx cx, .pointer mu] 145)) w.heap.size h (.slice Ak nk ck) (.slice Ax nx cx) (.pointer mu) := heap_new w _
  have hb : Below w.heap.size w (w.alloc (.cells #[.int .u64 (h : Int), .slice Ak nk ck, .slice Ax nx cx, .pointer mu] 145)) := (Below.refl _ _).alloc (Nat.le_refl _) _
  obtain ⟨c0, c1, c2, c3⟩ := hX.cells
  have hlX := hlf.carry hSb hb.size (fun b _ hlt => hb.block b hlt)
  obtain ⟨tv, hh, htt⟩ := id hlX
  obtain ⟨tu, rfl⟩ := htt.ptr
  have HHS := Lib.hid (hash_bucket b h T _ hlX)
  have hsz : T.size = L.length := by rw [← PT.size_list, hTL]
  have hht := hH T hTe (by omega)
  have HT : Hid (TIn S (w.alloc (.cells #[.int .u64 (h : Int), .slice Ak nk ck, .slice Ax nx cx, .pointer mu] 145)) (.pointer tu) T ∧ T.list = L ∧ T.even ∧ (w.alloc (.cells #[.int .u64 (h : Int), .slice Ak nk ck, .slice Ax nx cx, .pointer mu] 145)).heap[b]? = some (.cells #[.int .u64 (h : Int), .pointer tu] 183 (0, 0))) := ⟨htt, hTL, hTe, hh⟩
  have HSZ := Lib.hid hsz
  have HHT := Lib.hid hht
  have HP := Lib.hid hP
  have HB := Lib.hid hb
  have HX := Lib.hid hX
  have HKX := Lib.hid (And.intro hk hx)
  have HAS := Lib.hid hA
  have hmx : m ≠ some w.heap.size := fun e => by have := hP.met.lt _ e; omega
  have p1 := nil33_181
  have mm := m_kind_181
  clear hX hb hk hx hP hT hlf hTL hTe hlX hh htt hsz hht hH hA
  go_enter Tryz.func88, Tryz.ntmps88
  go_upto_block 0 with (fail)
  generalize w.alloc (.cells #[.int .u64 (h : Int), .slice Ak nk ck, .slice Ax nx cx, .pointer mu] 145) = Y at *
  go_wp2_with fail
  refine (kind_181 _ _).mono ?_
  rintro e w1 ⟨rfl, hw1⟩
  rw [hw1]
  clear hw1 w1
  go_wp2_with fail
  refine (kind_181 _ _).mono ?_
  rintro e w1 ⟨rfl, hw1⟩
  rw [hw1]
  clear hw1 w1
  go_wp2_with fail
  refine HHS.out.mono ?_
  rintro e w1 ⟨rfl, hw1⟩
  rw [hw1]
  clear hw1 w1
  go_wp2_with fail
  refine (pair_181 b Y).mono ?_
  rintro e Z ⟨rfl, hb1⟩
  have HB1 := Lib.hid hb1
  clear hb1
  go_upto_region 15 with (fail)
  have hbz : Below Z.heap.size Z (Z.alloc (.cells #[.slice none 0 0, .slice none 0 0] 60)) := (Below.refl _ _).alloc (Nat.le_refl _) _
  have HBZ : Hid (Below Y.heap.size Y (Z.alloc (.cells #[.slice none 0 0, .slice none 0 0] 60))) := HB1.out.trans (hbz.mono HB1.out.size)
  clear hbz
  generalize Z.alloc (.cells #[.slice none 0 0, .slice none 0 0] 60) = V at *
  have HTR := Lib.hid (tree_bucket V b h tu ((HBZ.out.block b (Array.getElem?_eq_some_iff.1 HT.out.2.2.2).1).trans HT.out.2.2.2))
  have HXV : Hid (PBox V w.heap.size h (.slice Ak nk ck) (.slice Ax nx cx) (.pointer mu)) := HX.out.below HBZ.out HX.out.lt
  have HBW : Hid (Below w.heap.size w V) := HB.out.trans (HBZ.out.mono HB.out.size)
  have HTV : Hid (TIn S V (.pointer tu) T) := HT.out.1.below HBZ.out
  have hPU := Put_any (S := S) m HP.out.hS key x T (.pointer tu) (.agg #[.slice Ak nk ck, .slice Ax nx cx]) vi co V HTV.out ⟨_, _, rfl, HKX.out.1.below HBW.out, HKX.out.2.below HBW.out⟩ (HP.out.met.below HBW.out) HT.out.2.2.1 (by rw [HSZ.out]; exact hL) (by have := HHT.out; omega) (by have := HHT.out; omega)
  rw [HMV.out] at hPU
  have HPU := Lib.hid hPU
  clear hPU c0 c1 c2 c3
  obtain ⟨c0, c1, c2, c3⟩ := HXV.out.cells
  go_wp2_with fail
  refine HTR.out.mono ?_
  rintro e w1 ⟨rfl, hw1⟩
  rw [hw1]
  clear hw1 w1
  go_wp2_with fail
  refine HPU.out.mono ?_
  rintro e X ⟨u6, T6, vi6, co6, rfl, t61, t62, t63, t64⟩
  have HL6 : Hid (T6.list = insL key x L) := by
    rw [t61, put_plain T key x (by rw [HT.out.2.1]; exact HAS.out), HT.out.2.1]; exact (rfl : insL key x L = _)
  have HXX : Hid (PBox X w.heap.size h (.slice Ak nk ck) (.slice Ax nx cx) (.pointer mu)) := (t64.kept.block _ HXV.out.lt hmx).trans HXV.out
  have HTX : Hid (TIn S X (.pointer tu) T) := HTV.out.kept t64.kept HP.out.hS
  have HBK := Lib.hid (bucket_tr h T6 (.pointer u6) X t63 t62)
  have HS6 := Lib.hid (fun W (hW : Below X.heap.size X W) => tsize_any T6 (.pointer u6) W (t63.below hW))
  have HS5 := Lib.hid (fun W (hW : Below X.heap.size X W) => tsize_any T (.pointer tu) W (HTX.out.below hW))
  have HM6 : Hid (Met m w X vi co vi6 co6 0 H) := ((Met.of HP.out.met HBW.out).trans t64).wide (by omega) (by have := HHT.out; omega)
  have HZ6 := Lib.hid (And.intro t64.kept.size HBW.out.size)
  clear t61 t62 t63 t64 c0 c1 c2 c3
  obtain ⟨c0, c1, c2, c3⟩ := HXX.out.cells
  go_wp2_with fail
  refine HBK.out.mono ?_
  rintro e X7 ⟨u7, rfl, t71, t72⟩
  have HT7 := Lib.hid (And.intro t71 t72)
  have HS6b := Lib.hid (HS6.out X7 t72)
  have HS5b := Lib.hid (HS5.out X7 t72)
  clear t71 t72
  go_wp2_with fail
  refine HS6b.out.mono ?_
  rintro e w1 ⟨rfl, hw1⟩
  rw [← hw1]
  clear hw1 w1
  go_wp2_with fail
  refine HS5b.out.mono ?_
  rintro e w1 ⟨rfl, hw1⟩
  rw [← hw1]
  clear hw1 w1
  go_wp2_with fail
  have HF : Hid (TrIn (Up S w.heap.size) X7 (.bucket h (insL key x L)) u7) := by
    have h1 := HT7.out.1
    rw [HL6.out] at h1
    have hl : 2 ≤ (insL key x L).length := Nat.le_trans hL2 (ins_len_ge _ _ _)
    have hbk : TT.buck h (insL key x L) = .bucket h (insL key x L) := by
      match hL : insL key x L with
      | [] => rw [hL] at hl; simp at hl
      | [_] => rw [hL] at hl; simp at hl
      | _ :: _ :: _ => rfl
    rw [hbk] at h1
    refine h1.imp fun b _ hb => ?_
    have e3 := HZ6.out
    rcases hb with (hb | hb) | hb
    · exact .inl hb
    · exact .inr (by omega)
    · exact .inr (by omega)
  go_ret2
  exact ⟨u7, _, vi6, co6, rfl, HF.out, HM6.out.trans (Met.of HM6.out.at_ HT7.out.2)⟩

end Go.Proofs.YtphjaebkcimklaaGreatDoor

/- graft.Put: a pair put into a trie. -/
set_option linter.unusedVariables false
set_option linter.unusedSimpArgs false
namespace Go.Proofs.YtphjaebkcimklaaGreatDoor
open Go.RowKit

set_option maxRecDepth 100000 in
set_option maxHeartbeats 3200000 in
theorem gbranch_any {S : Nat → Prop} (m : Option Nat) (h l hi : Nat) (kid : Nat → TT) (t : TT) (ht : t.isNone = false) (v : Value) (Ak Ax : Option Addr) (nk ck nx cx : Nat) (key x : Bytes) (w : World) (vi co : Nat) (hP : PutH S m w vi co) (hk : BIn S w (.slice Ak nk ck) key) (hx : BIn S w (.slice Ax nx cx) x)
    (hT : TrIn S w (.branch kid) v) (hl : l ≤ 12) (hv : vi < 1000000)
    (ih : ∀ (u : Value) (W : World), PutH S m W (vi + 1) co → BIn S W (.slice Ak nk ck) key → BIn S W (.slice Ax nx cx) x → TrIn S W (kid (TT.chunk h l)) u →
      Calls Tryz.prog 88 #[.agg #[.int .u64 (h : Int), .slice Ak nk ck, .slice Ax nx cx, mV m], u, .int .i64 ((l + 1 : Nat) : Int)] W fun e w' => IntoOut S m W w' e t (vi + 1) co hi) :
    Calls Tryz.prog 102 #[.agg #[.int .u64 (h : Int), .slice Ak nk ck, .slice Ax nx cx, mV m], v, .int .i64 (l : Int)] w fun e w' => IntoOut S m w w' e (.branch fun c => if c = TT.chunk h l then t else kid c) vi co (1 + hi) := by
  obtain ⟨mu, hmu⟩ : ∃ u, mV m = .pointer u := by cases m <;> exact ⟨_, rfl⟩
  have HMV := Lib.hid hmu
  rw [hmu] at ih ⊢
  clear hmu
  obtain ⟨vT, vp, rfl⟩ := hT.iface rfl
  have hX : PBox (w.alloc (.cells #[.int .u64 (h : Int), .slice Ak nk ck, .slice Ax nx cx, .pointer mu] 145)) w.heap.size h (.slice Ak nk ck) (.slice Ax nx cx) (.pointer mu) := heap_new w _
  have hb : Below w.heap.size w (w.alloc (.cells #[.int .u64 (h : Int), .slice Ak nk ck, .slice Ax nx cx, .pointer mu] 145)) := (Below.refl _ _).alloc (Nat.le_refl _) _
  obtain ⟨c0, c1, c2, c3⟩ := hX.cells
  have hVI := visit_any m vi co _ (hP.met.below hb) hv
  rw [HMV.out] at hVI
  have HVI := Lib.hid hVI
  have HCH := Lib.hid (fun W => chunk_any h l W)
  have hcl := TT.chunk_lt h l
  have hw1 : (((l + 1 : Nat) : Int)) = (l : Int) + 1 := by simp
  rw [hw1] at ih
  have HIH := Lib.hid ih
  have HP := Lib.hid hP
  have HB := Lib.hid hb
  have HX := Lib.hid hX
  have HT := Lib.hid hT
  have HTN := Lib.hid ht
  have HKX := Lib.hid (And.intro hk hx)
  have hmx : m ≠ some w.heap.size := fun e => by have := hP.met.lt _ e; omega
  generalize TT.chunk h l = c at *
  clear hX hb hk hx hP hT hVI hw1 ih ht
  go_enter Tryz.func102, Tryz.ntmps102
  go_wp2_with fail
  refine HVI.out.mono ?_
  rintro e Y ⟨rfl, hk1, hM1⟩
  have HKY : Hid (Kept m w Y) := (Kept.of HB.out).trans hk1
  have HMY : Hid (Met m w Y vi co (vi + 1) co 0 1) := ⟨HKY.out, hM1, by omega, by omega, by omega, by omega⟩
  have HXY : Hid (PBox Y w.heap.size h (.slice Ak nk ck) (.slice Ax nx cx) (.pointer mu)) := (hk1.block _ HX.out.lt hmx).trans HX.out
  have HTY : Hid (TrIn S Y (.branch kid) (.iface vT vp)) := HT.out.kept HKY.out HP.out.hS
  have HKD := Lib.hid (kid_any kid (.iface vT vp) c Y HTY.out hcl)
  clear c0 c1 c2 c3 hk1 hM1
  obtain ⟨c0, c1, c2, c3⟩ := HXY.out.cells
  go_wp2_with fail
  refine (HCH.out _).mono ?_
  rintro e w1 ⟨rfl, hw1⟩
  rw [← hw1]
  clear hw1 w1
  go_wp2_with fail
  refine HKD.out.mono ?_
  rintro e Z ⟨u, rfl, hu, hbz⟩
  have HBZ := Lib.hid hbz
  have HXZ : Hid (PBox Z w.heap.size h (.slice Ak nk ck) (.slice Ax nx cx) (.pointer mu)) := HXY.out.below hbz HXY.out.lt
  have HMZ : Hid (Met m w Z vi co (vi + 1) co 0 1) := HMY.out.trans (Met.of HMY.out.at_ hbz)
  have HIZ := Lib.hid (HIH.out u Z (HP.out.next HMZ.out) (HKX.out.1.kept HMZ.out.kept HP.out.hS) (HKX.out.2.kept HMZ.out.kept HP.out.hS) hu)
  have HTZ : Hid (TrIn S Z (.branch kid) (.iface vT vp)) := HTY.out.below hbz
  clear c0 c1 c2 c3 hu hbz
  obtain ⟨c0, c1, c2, c3⟩ := HXZ.out.cells
  generalize (!(kid c).isNone) = okk at *
  go_wp2_with fail
  refine HIZ.out.mono ?_
  rintro e X ⟨u2, r2, vi2, co2, rfl, h21, h22⟩
  have HM2 : Hid (Met m w X vi co vi2 co2 0 (1 + hi)) := (HMZ.out.trans h22).wide (by omega) (by omega)
  have hTX : TrIn (Up S Z.heap.size) X (.branch kid) (.iface vT vp) := (HTZ.out.kept h22.kept HP.out.hS).up _
  have HWI := Lib.hid (with_any (S := Up S Z.heap.size) kid (.iface vT vp) c t u2 X hTX hcl h21 HTN.out (HP.out.next HM2.out).tab)
  have HZS := Lib.hid HMZ.out.kept.size
  have HXS := Lib.hid h22.kept.size
  clear h21 h22 hTX c0 c1 c2 c3
  go_wp2_with fail
  refine HWI.out.mono ?_
  rintro e X3 ⟨b3, rfl, h31, h32⟩
  have HF : Hid (TrIn (Up S w.heap.size) X3 (.branch fun i => if i = c then t else kid i) (.iface 200 (.pointer (some ⟨b3, 0, none⟩))) ∧ Met m w X3 vi co vi2 co2 0 (1 + hi)) := ⟨h31.imp fun b _ hb => by
      have e1 := HZS.out
      have e2 := HXS.out
      rcases hb with (hb | hb) | hb
      · exact .inl hb
      · exact .inr (by omega)
      · exact .inr (by omega), HM2.out.trans (Met.of HM2.out.at_ h32)⟩
  clear h31 h32
  go_wp2_with fail
  go_ret2
  exact ⟨_, r2, vi2, co2, rfl, HF.out⟩

set_option maxRecDepth 100000 in
set_option maxHeartbeats 3200000 in
theorem into_branch {S : Nat → Prop} (m : Option Nat) (h l hi : Nat) (kid : Nat → TT) (t : TT) (v : Value) (Ak Ax : Option Addr) (nk ck nx cx : Nat) (w : World) (vi co : Nat)
    (hT : TrIn S w (.branch kid) v) (hm : MAt m w vi co)
    (hc : ∀ (W : World), Below w.heap.size w W → Calls Tryz.prog 102 #[.agg #[.int .u64 (h : Int), .slice Ak nk ck, .slice Ax nx cx, mV m], v, .int .i64 (l : Int)] W fun e w' => IntoOut S m W w' e t vi co hi) :
    Calls Tryz.prog 88 #[.agg #[.int .u64 (h : Int), .slice Ak nk ck, .slice Ax nx cx, mV m], v, .int .i64 (l : Int)] w fun e w' => IntoOut S m w w' e t vi co hi := by
  obtain ⟨mu, hmu⟩ : ∃ u, mV m = .pointer u := by cases m <;> exact ⟨_, rfl⟩
  rw [hmu] at hc ⊢
  clear hmu
  obtain ⟨b, _, _, _, _, _, rfl, _⟩ := id hT
  have hX : PBox (w.alloc (.cells #[.int .u64 (h : Int), .slice Ak nk ck, .slice Ax nx cx, .pointer mu] 145)) w.heap.size h (.slice Ak nk ck) (.slice Ax nx cx) (.pointer mu) := heap_new w _
  have hb : Below w.heap.size w (w.alloc (.cells #[.int .u64 (h : Int), .slice Ak nk ck, .slice Ax nx cx, .pointer mu] 145)) := (Below.refl _ _).alloc (Nat.le_refl _) _
  obtain ⟨c0, c1, c2, c3⟩ := hX.cells
  have HC := Lib.hid (hc _ hb)
  have HB := Lib.hid hb
  have HM := Lib.hid hm
  have p1 := nil33_200
  have mm := m_kind_200
  clear hX hb hT hc hm
  go_enter Tryz.func88, Tryz.ntmps88
  go_wp2_with fail
  refine (kind_200 _ _).mono ?_
  rintro e w1 ⟨rfl, hw1⟩
  rw [hw1]
  clear hw1 w1
  go_wp2_with fail
  refine HC.out.mono ?_
  rintro e X ⟨u, r, vi', co', rfl, h1, h2⟩
  have HF : Hid (TrIn (Up S w.heap.size) X t u ∧ Met m w X vi co vi' co' 0 hi) := ⟨h1.imp fun b _ hb => by
      rcases hb with hb | hb
      · exact .inl hb
      · exact .inr (Nat.le_trans HB.out.size hb), ((Met.of HM.out HB.out).trans h2).wide (by omega) (by omega)⟩
  clear h1 h2
  go_wp2_with fail
  go_ret2
  exact ⟨u, r, vi', co', rfl, HF.out⟩

theorem IntoOut.wide {S : Nat → Prop} {m : Option Nat} {w w' : World} {e : Ending} {t : TT} {vi co hi hi' : Nat} (h : IntoOut S m w w' e t vi co hi) (hh : hi ≤ hi') : IntoOut S m w w' e t vi co hi' := by
  obtain ⟨u, r, vi', co', h1, h2, h3⟩ := h
  exact ⟨u, r, vi', co', h1, h2, h3.wide (Nat.le_refl _) hh⟩

/-- A PAIR PUT INTO A NODE. -/
theorem into_any {S : Nat → Prop} (m : Option Nat) (hs : Bytes → Nat) (hb : ∀ k, hs k < 2 ^ 64) (N H : Nat) (hN : N + 1 ≤ 500000) (hH : ∀ T : PT, T.even → T.size ≤ N → T.height ≤ H) (Ak Ax : Option Addr) (nk ck nx cx : Nat) (key x : Bytes) : ∀ (t : TT) (l : Nat) (v : Value) (w : World) (vi co : Nat), PutH S m w vi co → BIn S w (.slice Ak nk ck) key → BIn S w (.slice Ax nx cx) x →
    TrIn S w t v → TT.Fits hs 0 t l → TT.Small N t → (∀ i, i < l → TT.under i (TT.chunk (hs key) i) t) → l ≤ 13 → vi + (13 - l + 1 + H) < 1000000 → co + (13 - l + 1 + H) < 1000000 →
    Calls Tryz.prog 88 #[.agg #[.int .u64 (hs key : Int), .slice Ak nk ck, .slice Ax nx cx, mV m], v, .int .i64 (l : Int)] w fun e w' => IntoOut S m w w' e (TT.put key x (hs key) t l) vi co (13 - l + 1 + H)
  | .none, l, v, w, vi, co, hP, hk, hx, hT, hF, hS, hu, hl, hv, hc => by
    obtain rfl : v = .nilIface := hT
    exact (into_none m (hs key) l Ak Ax nk ck nx cx key x w vi co hP hk hx).mono fun e w' h => h.wide (by omega)
  | .leaf g k y, l, v, w, vi, co, hP, hk, hx, hT, hF, hS, hu, hl, hv, hc => by
    have hg : g = hs k := hF
    unfold TT.put
    by_cases e : g = hs key
    · rw [if_pos e]
      rw [e] at hT
      exact (into_leaf_same m (hs key) l k y v Ak Ax nk ck nx cx key x w vi co hP hk hx hT (by omega) (by omega)).mono fun e w' h => h.wide (by omega)
    · rw [if_neg e]
      exact (into_leaf_fork m g (hs key) l k y v Ak Ax nk ck nx cx key x w vi co hP hk hx hT e (by rw [hg]; exact hb k) (hb key) hl hu (by omega)).mono fun e w' h => h.wide (by omega)
  | .bucket g L, l, v, w, vi, co, hP, hk, hx, hT, hF, hS, hu, hl, hv, hc => by
    have hg : g < 2 ^ 64 := by
      cases L with
      | nil => have := hF.2.1; simp at this
      | cons p L => rw [← hF.1 p (by simp)]; exact hb p.1
    have hSL : L.length ≤ N := hS
    unfold TT.put
    by_cases e : g = hs key
    · rw [if_pos e]
      rw [e] at hT
      exact (into_bucket_same m (hs key) l H L v Ak Ax nk ck nx cx key x w vi co hP hk hx hT hF.2.2 hF.2.1 (by omega) (fun T hT hs => hH T hT (by omega)) (by omega) (by omega)).mono fun e w' h => h.wide (by omega)
    · rw [if_neg e]
      exact (into_bucket_fork m g (hs key) l L v Ak Ax nk ck nx cx key x w vi co hP hk hx hT e hg (hb key) hl hu).mono fun e w' h => h.wide (by omega)
  | .branch kid, l, v, w, vi, co, hP, hk, hx, hT, hF, hS, hu, hl, hv, hc => by
    have hl12 := hF.1
    have hkid := hF.2.2.2 (TT.chunk (hs key) l)
    have hup : ∀ i, i < l + 1 → TT.under i (TT.chunk (hs key) i) (kid (TT.chunk (hs key) l)) := fun i hi => by
      rcases Nat.lt_succ_iff_lt_or_eq.1 hi with h | rfl
      · exact hu i h _
      · exact hkid.2
    have hsome : (TT.put key x (hs key) (kid (TT.chunk (hs key) l)) (l + 1)).isNone = false := by
      have hz := TT.look_put (key := key) (key' := key) (v := x) hb (kid (TT.chunk (hs key) l)) (l + 1) hkid.1 hup (by omega)
      cases hp : TT.put key x (hs key) (kid (TT.chunk (hs key) l)) (l + 1) with
      | none => rw [hp] at hz; simp [TT.look] at hz
      | leaf _ _ _ => rfl
      | bucket _ _ => rfl
      | branch _ => rfl
    have hfe : (fun c => if c = TT.chunk (hs key) l then TT.put key x (hs key) (kid c) (l + 1) else kid c) = (fun c => if c = TT.chunk (hs key) l then TT.put key x (hs key) (kid (TT.chunk (hs key) l)) (l + 1) else kid c) := funext fun c => by
      by_cases e : c = TT.chunk (hs key) l
      · rw [if_pos e, if_pos e, e]
      · rw [if_neg e, if_neg e]
    unfold TT.put
    rw [hfe]
    refine into_branch m (hs key) l _ kid _ v Ak Ax nk ck nx cx w vi co hT hP.met fun W hW => ?_
    refine (gbranch_any m (hs key) l (13 - (l + 1) + 1 + H) kid (TT.put key x (hs key) (kid (TT.chunk (hs key) l)) (l + 1)) hsome v Ak Ax nk ck nx cx key x W vi co (hP.below hW) (hk.below hW) (hx.below hW) (hT.below hW) hl12 (by omega) fun u W' hP' hk' hx' hu' => ?_).mono fun e w' h => h.wide (by omega)
    exact into_any m hs hb N H hN hH Ak Ax nk ck nx cx key x (kid (TT.chunk (hs key) l)) (l + 1) u W' (vi + 1) co hP' hk' hx' hu' hkid.1 (hS _) hup (by omega) (by omega) (by omega)

/-- graft.Put. -/
theorem gput_any {S : Nat → Prop} (m : Option Nat) (h hi : Nat) (t : TT) (v : Value) (Ak Ax : Option Addr) (nk ck nx cx : Nat) (w : World) (vi co : Nat) (hm : MAt m w vi co) (hvi : v.oneCell' = true)
    (hc : ∀ (W : World), Below w.heap.size w W → Calls Tryz.prog 88 #[.agg #[.int .u64 (h : Int), .slice Ak nk ck, .slice Ax nx cx, mV m], v, .int .i64 0] W fun e w' => IntoOut S m W w' e t vi co hi) :
    Calls Tryz.prog 75 #[v, .int .u64 (h : Int), .agg #[.slice Ak nk ck, .slice Ax nx cx], mV m] w fun e w' => IntoOut S m w w' e t vi co hi := by
  obtain ⟨mu, hmu⟩ : ∃ u, mV m = .pointer u := by cases m <;> exact ⟨_, rfl⟩
  rw [hmu] at hc ⊢
  clear hmu
  have hX : Two (w.alloc (.cells #[.slice Ak nk ck, .slice Ax nx cx] 60)) w.heap.size (.slice Ak nk ck) (.slice Ax nx cx) := heap_new w _
  have hb : Below w.heap.size w (w.alloc (.cells #[.slice Ak nk ck, .slice Ax nx cx] 60)) := (Below.refl _ _).alloc (Nat.le_refl _) _
  obtain ⟨c0, c1⟩ := hX.cells
  have HC := Lib.hid (hc _ hb)
  have HB := Lib.hid hb
  have HM := Lib.hid hm
  clear hX hb hc hm
  go_enter Tryz.func75, Tryz.ntmps75
  go_wp2_with fail
  refine HC.out.mono ?_
  rintro e X ⟨u, r, vi', co', rfl, h1, h2⟩
  have HF : Hid (TrIn (Up S w.heap.size) X t u ∧ Met m w X vi co vi' co' 0 hi) := ⟨h1.imp fun b _ hb => by
      rcases hb with hb | hb
      · exact .inl hb
      · exact .inr (Nat.le_trans HB.out.size hb), ((Met.of HM.out HB.out).trans h2).wide (by omega) (by omega)⟩
  clear h1 h2
  go_wp2_with fail
  go_ret2
  exact ⟨u, r, vi', co', rfl, HF.out⟩

end Go.Proofs.YtphjaebkcimklaaGreatDoor
