/- The law RankAt. -/
import Derived.Test.YtlnlgahokifolaaTAwake12
set_option linter.unusedVariables false
set_option linter.unusedSimpArgs false
namespace Go.Proofs.Ytlnlgahokifolaa
open Go.RowKit

/-- What At told, and its box. -/
structure Told (Y : World) (g : Nat) (A : Option Addr) (n c : Nat) (A' : Option Addr) (n' c' : Nat) (L : Pairs) (i : Int) : Prop where
  two : Two Y g (.slice A n c) (.slice A' n' c')
  pin : PIn (fun _ => True) Y (.agg #[.slice A n c, .slice A' n' c']) (if 0 ≤ i ∧ i < (L.length : Int) then L.getD i.toNat ([], []) else ([], [])).1 (if 0 ≤ i ∧ i < (L.length : Int) then L.getD i.toNat ([], []) else ([], [])).2
theorem Told.below {Y Z : World} {g : Nat} {A : Option Addr} {n c : Nat} {A' : Option Addr} {n' c' : Nat} {L : Pairs} {i : Int} (h : Told Y g A n c A' n' c' L i) (hb : Below Y.heap.size Y Z) : Told Z g A n c A' n' c' L i :=
  ⟨h.two.below hb h.two.lt, h.pin.below hb⟩
theorem AtR.told {w w' : World} {e : Ending} {L : Pairs} {i : Int} (h : AtR w w' e L i) :
    ∃ A n c A' n' c' ok, e = .returned (.tuple #[.agg #[.slice A n c, .slice A' n' c'], .bool ok]) ∧ Hid (ok = decide (0 ≤ i ∧ i < (L.length : Int))) ∧
      Hid (Told (w'.alloc (.cells #[.slice A n c, .slice A' n' c'] 39)) w'.heap.size A n c A' n' c' L i) ∧ Hid (Below w.heap.size w (w'.alloc (.cells #[.slice A n c, .slice A' n' c'] 39))) := by
  obtain ⟨A, n, c, A', n', c', rfl, hp, hb⟩ := h
  refine ⟨A, n, c, A', n', c', _, rfl, Lib.hid rfl, Lib.hid ⟨heap_new w' _, ?_⟩, Lib.hid (hb.alloc hb.size _)⟩
  exact (hp.below ((Below.refl _ w').alloc (Nat.le_refl _) _)).imp (fun _ _ _ => trivial)

set_option maxRecDepth 100000 in
set_option maxHeartbeats 1600000 in
theorem rankAt_any (A : Option Addr) (n c : Nat) (L : List (Int × Bytes × Bytes)) (i : Int) (w : World) (h : Ops w A n L) (hi : (Lit.int .i64 i).wf = true) :
    Calls Try.prog 12 #[.slice A n c, .int .i64 i] w fun e w' => e = .returned (.bool true) ∧ Below w.heap.size w w' := by
  have HO := Lib.hid h
  have HI := Lib.hid hi
  have HF := Lib.hid (fine_any A n c L 80 w h (by omega))
  clear h hi
  go_enter Try.func12, Try.ntmps12
  go_wp2_with fail
  refine HF.out.mono ?_
  rintro e w1 ⟨r, rfl, hr, hb1⟩
  have HB1 := Lib.hid hb1
  clear hb1
  cases r with
  | false =>
    clear hr
    go_wp2_with fail
    refine (awake12_any w1).mono ?_
    rintro e w2 ⟨rfl, hb2⟩
    have HB2 : Hid (Below w.heap.size w w2) := HB1.out.trans (hb2.mono HB1.out.size)
    clear hb2
    go_wp2_with fail
    go_ret
    exact ⟨rfl, HB2.out⟩
  | true =>
    have HFI := Lib.hid (hr rfl)
    have hn80 : n ≤ 80 := by have := (hr rfl).1; rw [HO.out.len] at this; exact this
    clear hr
    have HMD := Lib.hid (made_any A n c L w1 (HO.out.below HB1.out) ⟨by have := HFI.out.1; omega, HFI.out.2⟩)
    go_wp2_with fail
    refine HMD.out.mono ?_
    rintro e w2 ⟨u, A', c', T, rfl, hI⟩
    have HB2 : Hid (Below w.heap.size w w2) := HB1.out.trans (hI.out.below.mono HB1.out.size)
    have hsz : T.size ≤ 1000000 := by have := hI.out.size; omega
    have HLL := Lib.hid T.size_list
    go_wp2_with fail
    refine (at_any T (.pointer u) i w2 hI.out.tin hsz HI.out).mono ?_
    rintro e w3 hr
    obtain ⟨A1, n1, c1, A2, n2, c2, ok3, rfl, o3, t3, b3⟩ := hr.told
    clear hr
    go_upto_region 5 with fail
    generalize w3.heap.size = g3 at *
    generalize w3.alloc (.cells #[.slice A1 n1 c1, .slice A2 n2 c2] 39) = X at *
    have HIX : Hid (Both w1 X u A' c' T n) := hI.out.on b3.out
    have HBX : Hid (Below w.heap.size w X) := HB2.out.trans (b3.out.mono HB2.out.size)
    go_wp2_with fail
    refine (min_any (S' := fun _ => True) T (.pointer u) X HIX.out.tin hsz).mono ?_
    rintro e w4 hr
    obtain ⟨A3, n3, c3, A4, n4, c4, ok4, rfl, o4, t4, b4⟩ := hr.told
    clear hr
    go_upto_region 6 with fail
    generalize w4.heap.size = g4 at *
    generalize w4.alloc (.cells #[.slice A3 n3 c3, .slice A4 n4 c4] 39) = Y at *
    have HIY : Hid (Both w1 Y u A' c' T n) := HIX.out.on b4.out
    have HBY : Hid (Below w.heap.size w Y) := HBX.out.trans (b4.out.mono HBX.out.size)
    have T3 := Lib.hid (t3.out.below b4.out)
    go_wp2_with fail
    refine (max_any (S' := fun _ => True) T (.pointer u) Y HIY.out.tin hsz).mono ?_
    rintro e w5 hr
    obtain ⟨A5, n5, c5, A6, n6, c6, ok5, rfl, o5, t5, b5⟩ := hr.told
    clear hr
    go_upto_region 7 with fail
    generalize w5.heap.size = g5 at *
    generalize w5.alloc (.cells #[.slice A5 n5 c5, .slice A6 n6 c6] 39) = Z at *
    have HIZ : Hid (Both w1 Z u A' c' T n) := HIY.out.on b5.out
    have HBZ : Hid (Below w.heap.size w Z) := HBY.out.trans (b5.out.mono HBY.out.size)
    have U3 := Lib.hid (T3.out.below b5.out)
    have U4 := Lib.hid (t4.out.below b5.out)
    have U5 := Lib.hid (t5.out)
    obtain ⟨p0, p1⟩ := U3.out.two.cells
    clear t3 b3 t4 b4 T3 t5 b5
    go_wp2_with fail
    refine (lawAt_any T.list A' c' A1 A2 n1 c1 n2 c2 ok3 i Z HIZ.out.min (by have := HLL.out; omega) o3.out U3.out.pin).mono ?_
    rintro e w6 ⟨rfl, hb6⟩
    have HB6 : Hid (Below w.heap.size w w6) := HBZ.out.trans (hb6.mono HBZ.out.size)
    have HI6 : Hid (Both w1 w6 u A' c' T n) := HIZ.out.on hb6
    have V4 := Lib.hid (U4.out.below hb6)
    have V5 := Lib.hid (U5.out.below hb6)
    clear p0 p1 hb6
    obtain ⟨p0, p1⟩ := V4.out.two.cells
    go_wp2_with fail
    refine (lawAt_any T.list A' c' A3 A4 n3 c3 n4 c4 ok4 0 w6 HI6.out.min (by have := HLL.out; omega) o4.out V4.out.pin).mono ?_
    rintro e w7 ⟨rfl, hb7⟩
    have HB7 : Hid (Below w.heap.size w w7) := HB6.out.trans (hb7.mono HB6.out.size)
    have HI7 : Hid (Both w1 w7 u A' c' T n) := HI6.out.on hb7
    have X5 := Lib.hid (V5.out.below hb7)
    clear p0 p1 hb7
    obtain ⟨p0, p1⟩ := X5.out.two.cells
    rw [← HLL.out] at X5
    have al : T.list.length ≤ 1000000 := by have := HLL.out; omega
    go_wp2_with fail
    refine (lawAt_any T.list A' c' A5 A6 n5 c5 n6 c6 ok5 ((T.list.length : Int) - 1) w7 HI7.out.min al (by rw [o5.out, HLL.out]) X5.out.pin).mono ?_
    rintro e w8 ⟨rfl, hb8⟩
    have HB8 : Hid (Below w.heap.size w w8) := HB7.out.trans (hb8.mono HB7.out.size)
    clear p0 p1 hb8
    go_wp2_with fail
    refine (awake12_any w8).mono ?_
    rintro e w9 ⟨rfl, hb9⟩
    have HB9 : Hid (Below w.heap.size w w9) := HB8.out.trans (hb9.mono HB8.out.size)
    clear hb9
    go_wp2_with fail
    go_ret
    exact ⟨rfl, HB9.out⟩

end Go.Proofs.Ytlnlgahokifolaa
