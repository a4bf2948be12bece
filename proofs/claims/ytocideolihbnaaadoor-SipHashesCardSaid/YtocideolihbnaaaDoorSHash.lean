/- The program's Hash: of any bytes under any seed of 16 bytes; it takes eight bytes at a time. -/
import Derived.Test.YtocideolihbnaaaDoorSBegin
import Derived.Deep.DeepCutAuto
import Derived.Deep.CutRange
import Derived.Deep.RegionWith
set_option linter.unusedVariables false
set_option linter.unusedSimpArgs false
namespace Go.Proofs.YtocideolihbnaaaDoor
open Go.RowKit
attribute [local go_sem ↓] Go.wp_at_zero Go.wp_at_succ

def eat (k : List UInt8) : Nat → St → St
  | 0, x => x
  | j + 1, x => takeN (eat k j x) (lowv ((k.drop (8 * j)).take 8))
theorem eat_ok (k : List UInt8) (x : St) (h : x.ok) : ∀ j, (eat k j x).ok
  | 0 => h
  | j + 1 => takeN_ok _ _ (eat_ok k x h j) (lowv_take8 _)
/-- The number of the length. -/
def lenN (k : List UInt8) : Nat := k.length % 256 * 72057594037927936
def lastN (k : List UInt8) : Nat := lenN k ||| lowv ((k.drop (8 * (k.length / 8))).take 8)
theorem lastN_lt (k : List UInt8) : lastN k < 18446744073709551616 := by
  unfold lastN lenN
  exact Nat.or_lt_two_pow (n := 64) (by omega) (lowv_take8 _)
def hashN (s k : List UInt8) : Nat := endN (takeN (eat k (k.length / 8) (beginN s)) (lastN k))

theorem lies_put {W : World} {b : Nat} {t : TypeId} {x : St} (h : Lies W b t x) (y : St) : Lies ((((W.setCell ⟨b, 0, none⟩ (.int .u64 (y.p : Int))).setCell ⟨b, 1, none⟩ (.int .u64 (y.q : Int))).setCell ⟨b, 2, none⟩ (.int .u64 (y.r : Int))).setCell ⟨b, 3, none⟩ (.int .u64 (y.s : Int))) b t y := set4 h
def sliceLen : Value → Nat
  | .slice _ n _ => n
  | _ => 0
theorem RdB.below {w w1 : World} {A : Option Addr} {n : Nat} {l : List UInt8} (h : RdB w A n l) (hb : Below w.heap.size w w1) : RdB w1 A n l := by
  refine ⟨h.len, h.le, fun hn => ?_⟩
  obtain ⟨b, o, e, hlt, hc⟩ := h.cell hn
  exact ⟨b, o, e, Nat.lt_of_lt_of_le hlt hb.size, fun j hj => (hb.cell (p := ⟨b, o + j, none⟩) hlt).trans (hc j hj)⟩
theorem RdB.belowN {w w1 : World} {A : Option Addr} {n N : Nat} {l : List UInt8} (h : RdB w A n l) (hN : w.heap.size ≤ N) {w0 : World} (hb : Below N w0 w1) (h0 : Below w.heap.size w w0) : RdB w1 A n l :=
  h.below (h0.trans (hb.mono hN))
theorem RdB.drew {w : World} {A : Option Addr} {n : Nat} {l : List UInt8} (h : RdB w A n l) : RdB w.drew A n l := ⟨h.len, h.le, h.cell⟩
theorem RdB.next {w : World} {b o n : Nat} {l : List UInt8} (h : RdB w (some ⟨b, o, none⟩) n l) (A : Option Addr) (hA : 8 < n → A = some ⟨b, o + 8, none⟩) (hn : 8 ≤ n) : RdB w A (n - 8) (l.drop 8) := by
  have := h.len
  have := h.le
  refine ⟨by rw [List.length_drop]; omega, by omega, fun h0 => ?_⟩
  obtain ⟨b', o', e, hlt, hc⟩ := h.cell (by omega)
  obtain ⟨rfl, rfl⟩ : b = b' ∧ o = o' := by injection e with e; injection e with e1 e2; exact ⟨e1, e2⟩
  refine ⟨b, o + 8, hA (by omega), hlt, fun j hj => ?_⟩
  rw [Nat.add_assoc, hc _ (by omega)]
  simp only [List.getD_eq_getElem?_getD, List.getElem?_drop]

set_option maxHeartbeats 3200000 in
theorem hash_any (s : List UInt8) (hs : s.length = 16) (A : Option Addr) (n c : Nat) (k : List UInt8) (w : World) (hT : TabOK w) (hR : RdB w A n k) (hc : n ≤ c) :
    Calls Tryd.prog 9 #[.agg (rowOf s), .slice A n c] w fun e w' => e = .returned (.int .u64 (hashN s k : Nat)) ∧ Below w.heap.size w w' := by
  have hlen := hR.len
  have hle := hR.le
  have HL : Hid (((n : Int) % 256 * 72057594037927936) = (lenN k : Nat)) := (by unfold lenN; rw [hlen]; simp : ((n : Int) % 256 * 72057594037927936) = (lenN k : Nat))
  have HSZ : Hid ((Tryd.prog.info? 23).map (·.size) = some (rowOf s).size) := info23b.trans (by rw [rowOf_size, hs])
  have X0 := heap_new w (.cells (rowOf s) 23)
  have HX := Lib.hid X0
  have HBX := Lib.hid ((Below.refl _ w).alloc (Nat.le_refl _) (.cells (rowOf s) 23))
  have HBG := Lib.hid (begin_any s hs _ (hT.below ((Below.refl _ w).alloc (Nat.le_refl _) (.cells (rowOf s) 23))))
  have HRd := Lib.hid hR
  clear X0 hT hR
  go_enter Tryd.func9, Tryd.ntmps9
  go_wp2_with (refine wpList_load_row rfl 23 _ rfl w.heap.size (by rfl) 23 (rowOf s) (0, 0) _ HX.out Tryd.underlying23 rfl HSZ.out ?_)
  refine HBG.out.mono ?_
  rintro e w1 ⟨rfl, hb1⟩
  have hbw := HBX.out.trans (hb1.mono HBX.out.size)
  have hsw := hbw.size
  have hsw := hbw.size
  have hsw := hbw.size
  have hx1 : Lies (w1.alloc (.cells #[.int .u64 ((beginN s).p : Int), .int .u64 ((beginN s).q : Int), .int .u64 ((beginN s).r : Int), .int .u64 ((beginN s).s : Int)] 31)) w1.heap.size 31 (beginN s) := heap_new w1 _
  have hbx := hbw.alloc hsw (.cells #[.int .u64 ((beginN s).p : Int), .int .u64 ((beginN s).q : Int), .int .u64 ((beginN s).r : Int), .int .u64 ((beginN s).s : Int)] 31)
  have HX2 := Lib.hid hx1
  have HBX2 := Lib.hid hbx
  have HSW := Lib.hid hsw
  have HOK := Lib.hid (fun j => eat_ok k (beginN s) (beginN_ok s) j)
  clear hx1 hbx hb1 hbw
  simp only [St.v]
  go_wp2_with fail
  rw [HL.out]
  go_loopw [1] (fun v wr => ∃ (j : Nat) (A' : Option Addr) (n' c' : Nat), v = .slice A' n' c' ∧ n' ≤ c' ∧ 8 * j + n' = n ∧ RdB w A' n' (k.drop (8 * j)) ∧ Lies wr w1.heap.size 31 (eat k j (beginN s)) ∧ Below w.heap.size w wr) (fun v _ => sliceLen v)
  case atStart => exact ⟨0, A, n, c, rfl, hc, by omega, HRd.out, HX2.out, HBX2.out⟩
  case round =>
    obtain ⟨j, A', n', c', rfl, hc', hjn, hR, hl, hb⟩ := hrel
    have hok := HOK.out j
    have HNX : Hid (eat k (j + 1) (beginN s) = takeN (eat k j (beginN s)) (lowv ((k.drop (8 * j)).take 8))) := rfl
    have hLow := fun w2 (h : Below w.heap.size w w2) => low_any A' n' c' _ w2 (hR.below h)
    have hm := lowv_take8 (k.drop (8 * j))
    have hle' := hR.le
    by_cases hlt : 8 ≤ n'
    · have hTk := fun w => take_any _ _ w hok hm
      have hok2 := takeN_ok _ _ hok hm
      generalize eat k j (beginN s) = y at *
      generalize lowv ((k.drop (8 * j)).take 8) = m at *
      generalize hz : takeN y m = z at *
      obtain ⟨y1, y2, y3, y4⟩ := y
      obtain ⟨z1, z2, z3, z4⟩ := z
      obtain ⟨b, o, rfl, hbl, hcell⟩ := hR.cell (by omega)
      obtain ⟨c0, c1, c2, c3⟩ := hl.cells
      have HL1 := Lib.hid hl
      have HB1 := Lib.hid hb
      have HR1 := Lib.hid hR
      have HTk := Lib.hid hTk
      have HLow := Lib.hid hLow
      have HJ := Lib.hid hjn
      clear hl hb hR hTk hcell hok hok2 hLow hlen hz HX2 HBX2 HOK hjn
      simp only [St.v] at HTk
      go_wp2_with fail
      go_region_with (first
          | (go_at_call 19; refine (HLow.out _ HB1.out.drew).mono ?_; rintro e wa ⟨rfl, rfl⟩)
          | (go_at_call 15; refine (HTk.out _).mono ?_; rintro e wb ⟨rfl, hb2⟩; have HL2 : Hid (Lies wb w1.heap.size 31 ⟨y1, y2, y3, y4⟩) := (HL1.out.below (W' := wb) ⟨hb2.os, hb2.tape, hb2.output, hb2.size, hb2.block⟩ HL1.out.lt); have HB2 : Hid (Below w.heap.size w wb) := (HB1.out.trans ((⟨hb2.os, hb2.tape, hb2.output, hb2.size, hb2.block⟩ : Below wr.heap.size wr wb).mono HB1.out.size)); clear hb2; obtain ⟨d0, d1, d2, d3⟩ := HL2.out.cells; have f0 := frozen_of_row _ _ 0 _ _ HL2.out; have f1 := frozen_of_row _ _ 1 _ _ HL2.out; have f2 := frozen_of_row _ _ 2 _ _ HL2.out; have f3 := frozen_of_row _ _ 3 _ _ HL2.out))
      all_goals (go_wp2_with fail)
      all_goals (
        go_roundw
        case rel =>
          have hN := HR1.out.next (if c' = 8 then some ⟨b, o, none⟩ else some ⟨b, o + 8, none⟩) (fun h8 => by rw [if_neg (by omega)]) hlt
          rw [List.drop_drop, show 8 * j + 8 = 8 * (j + 1) by omega] at hN
          exact ⟨j + 1, _, n' - 8, c' - 8, rfl, by omega, by have := HJ.out; omega, hN, by rw [HNX.out]; exact lies_put HL2.out ⟨z1, z2, z3, z4⟩,
            (((HB2.out.setCell (p := ⟨w1.heap.size, 0, none⟩) HSW.out _).setCell (p := ⟨w1.heap.size, 1, none⟩) HSW.out _).setCell (p := ⟨w1.heap.size, 2, none⟩) HSW.out _).setCell (p := ⟨w1.heap.size, 3, none⟩) HSW.out _⟩
        case measure => simp only [sliceLen]; omega)
    · obtain rfl : j = n / 8 := by omega
      have hHN : hashN s k = endN (takeN (eat k (n / 8) (beginN s)) (lastN k)) := by unfold hashN; rw [hlen]
      have hLN : lastN k = lenN k ||| lowv ((k.drop (8 * (n / 8))).take 8) := by unfold lastN; rw [hlen]
      have hor := u64_or_nat (lenN k) (lowv ((k.drop (8 * (n / 8))).take 8)) (by unfold lenN; omega) hm
      rw [← hLN] at hor
      have hlk := lastN_lt k
      have hTk := fun w => take_any _ _ w hok hlk
      have hok2 := takeN_ok _ _ hok hlk
      have hEn := fun w => end_any _ w hok2
      rw [← hHN] at hEn
      have HHN := Lib.hid hHN
      generalize eat k (n / 8) (beginN s) = y at *
      generalize lastN k = lk at *
      generalize hz : takeN y lk = z at *
      obtain ⟨y1, y2, y3, y4⟩ := y
      obtain ⟨z1, z2, z3, z4⟩ := z
      obtain ⟨c0, c1, c2, c3⟩ := hl.cells
      have HL1 := Lib.hid hl
      have HB1 := Lib.hid hb
      have HTk := Lib.hid hTk
      have HLow := Lib.hid hLow
      have HEn := Lib.hid hEn
      clear hl hb hR hTk hok hok2 hLow hlen hz HX2 HBX2 HOK hjn hHN hLN hEn HNX
      generalize lowv ((k.drop (8 * (n / 8))).take 8) = m at *
      simp only [St.v] at HTk HEn
      go_wp2_with fail
      go_region_held3 (fun w' => w'.cell? ⟨w1.heap.size, 0, none⟩ = some (.int .u64 (y1 : Int)) ∧ w'.cell? ⟨w1.heap.size, 1, none⟩ = some (.int .u64 (y2 : Int)) ∧ w'.cell? ⟨w1.heap.size, 2, none⟩ = some (.int .u64 (y3 : Int)) ∧ w'.cell? ⟨w1.heap.size, 3, none⟩ = some (.int .u64 (y4 : Int)))
        (first | exact ⟨c0, c1, c2, c3⟩ | with_reducible exact HL3.out.cells | with_reducible exact HL2.out.cells | go_keep)
        (first
          | (go_at_call 19; refine (HLow.out _ HB1.out.drew).mono ?_; rintro e wa ⟨rfl, rfl⟩)
          | (go_at_call 15; refine (HTk.out _).mono ?_; rintro e wb ⟨rfl, hb2⟩; have HL2 : Hid (Lies wb w1.heap.size 31 ⟨y1, y2, y3, y4⟩) := (HL1.out.below (W' := wb) ⟨hb2.os, hb2.tape, hb2.output, hb2.size, hb2.block⟩ HL1.out.lt); have HB2 : Hid (Below w.heap.size w wb) := (HB1.out.trans ((⟨hb2.os, hb2.tape, hb2.output, hb2.size, hb2.block⟩ : Below wr.heap.size wr wb).mono HB1.out.size)); clear hb2)
          | (go_at_call 17; refine (HEn.out _).mono ?_; rintro e wd ⟨rfl, hb3⟩; have HL3 : Hid (Lies wd w1.heap.size 31 ⟨y1, y2, y3, y4⟩) := (HL2.out.below hb3 HL2.out.lt); have HB3 : Hid (Below w.heap.size w wd) := (HB2.out.trans (hb3.mono HB2.out.size)); clear hb3))
      go_wp2_with fail
      go_ret
      exact ⟨rfl, HB3.out⟩

end Go.Proofs.YtocideolihbnaaaDoor
