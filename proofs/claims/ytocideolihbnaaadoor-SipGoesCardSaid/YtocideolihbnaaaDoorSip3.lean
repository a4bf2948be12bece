/- Contracts of the hash's steps, on: End. -/
import Derived.Test.YtocideolihbnaaaDoorSip2
set_option linter.unusedVariables false
set_option linter.unusedSimpArgs false
namespace Go.Proofs.YtocideolihbnaaaDoor
open Go.RowKit

/-- So many rounds. -/
def itN : Nat → St → St
  | 0, x => x
  | n + 1, x => roundN (itN n x)
theorem itN_ok (x : St) (h : x.ok) : ∀ n, (itN n x).ok
  | 0 => h
  | n + 1 => roundN_ok _ (itN_ok x h n)

def endN (x : St) : Nat :=
  let y := itN 4 ⟨x.p, x.q, x.r ^^^ 255, x.s⟩
  y.p ^^^ y.q ^^^ y.r ^^^ y.s

/-- A state lies in a block. -/
def Lies (W : World) (b : Nat) (t : TypeId) (x : St) : Prop := W.heap[b]? = some (.cells #[.int .u64 (x.p : Int), .int .u64 (x.q : Int), .int .u64 (x.r : Int), .int .u64 (x.s : Int)] t (0, 0))
theorem Lies.cells {W : World} {b : Nat} {t : TypeId} {p q r s : Nat} (h : Lies W b t ⟨p, q, r, s⟩) :
    W.cell? ⟨b, 0, none⟩ = some (.int .u64 (p : Int)) ∧ W.cell? ⟨b, 1, none⟩ = some (.int .u64 (q : Int)) ∧ W.cell? ⟨b, 2, none⟩ = some (.int .u64 (r : Int)) ∧ W.cell? ⟨b, 3, none⟩ = some (.int .u64 (s : Int)) :=
  ⟨cell_of_row W b 0 _ _ _ h, cell_of_row W b 1 _ _ _ h, cell_of_row W b 2 _ _ _ h, cell_of_row W b 3 _ _ _ h⟩
theorem Lies.lt {W : World} {b : Nat} {t : TypeId} {x : St} (h : Lies W b t x) : b < W.heap.size := (Array.getElem?_eq_some_iff.1 h).1
theorem Lies.below {W W' : World} {b n : Nat} {t : TypeId} {x : St} (h : Lies W b t x) (hb : Below n W W') (hn : b < n) : Lies W' b t x := (hb.block b hn).trans h
theorem Lies.set {W : World} {b : Nat} {t : TypeId} {x : St} (y : St) (h : Lies W b t x) : Lies (W.setRow b #[.int .u64 (y.p : Int), .int .u64 (y.q : Int), .int .u64 (y.r : Int), .int .u64 (y.s : Int)]) b t y := setRow_heap W b _ _ t _ h

set_option maxHeartbeats 1600000 in
theorem end_any (x : St) (w : World) (h : x.ok) :
    Calls Tryd.prog 17 #[x.v] w fun e w' => e = .returned (.int .u64 (endN x : Nat)) ∧ Below w.heap.size w w' := by
  obtain ⟨p, q, r, s⟩ := x
  have hok1 : (St.mk p q (r ^^^ 255) s).ok := ⟨h.1, h.2.1, xorN_lt h.2.2.1 (by omega), h.2.2.2⟩
  have hx1 := u64_xor_nat r 255 h.2.2.1 (by omega)
  have HE : Hid (endN ⟨p, q, r, s⟩ = (itN 4 ⟨p, q, r ^^^ 255, s⟩).p ^^^ (itN 4 ⟨p, q, r ^^^ 255, s⟩).q ^^^ (itN 4 ⟨p, q, r ^^^ 255, s⟩).r ^^^ (itN 4 ⟨p, q, r ^^^ 255, s⟩).s) := rfl
  have e255 : ((255 : Nat) : Int) = 255 := rfl
  rw [e255] at hx1
  clear e255
  generalize r ^^^ 255 = r1 at *
  have HI := Lib.hid (itN_ok _ hok1)
  generalize endN ⟨p, q, r, s⟩ = en at *
  have hX0 := heap_new w (.cells #[.int .u64 (p : Int), .int .u64 (q : Int), .int .u64 (r1 : Int), .int .u64 (s : Int)] 31)
  have HX0 := Lib.hid (show Lies _ w.heap.size 31 (itN 0 ⟨p, q, r1, s⟩) from hX0)
  have HB0 := Lib.hid ((Below.refl _ w).alloc (Nat.le_refl _) (.cells #[.int .u64 (p : Int), .int .u64 (q : Int), .int .u64 (r1 : Int), .int .u64 (s : Int)] 31))
  clear hX0 h hok1
  simp only [St.v]
  go_enter Tryd.func17, Tryd.ntmps17
  go_wp2_with fail
  go_loopw [7] (fun v wr => ∃ j : Nat, j ≤ 4 ∧ v = .int .i64 j ∧ Lies wr w.heap.size 31 (itN j ⟨p, q, r1, s⟩) ∧ Below w.heap.size w wr) (fun v _ => 4 - (intOf v).toNat)
  case atStart => exact ⟨0, by omega, rfl, HX0.out, HB0.out⟩
  case round =>
    obtain ⟨j, hj, rfl, hl, hb⟩ := hrel
    have hoj := HI.out j
    have HNX : Hid (itN (j + 1) ⟨p, q, r1, s⟩ = roundN (itN j ⟨p, q, r1, s⟩)) := rfl
    by_cases hlt : j < 4
    · have hR := fun w => round_any _ w hoj
      have hok2 := roundN_ok _ hoj
      generalize itN j ⟨p, q, r1, s⟩ = y at *
      obtain ⟨y1, y2, y3, y4⟩ := y
      obtain ⟨c0, c1, c2, c3⟩ := hl.cells
      generalize roundN ⟨y1, y2, y3, y4⟩ = z at *
      have HL := Lib.hid hl
      have HB := Lib.hid hb
      have HR := Lib.hid hR
      clear hl hb hR hx1
      simp only [St.v] at HR
      go_wp2_with fail
      refine (HR.out _).mono ?_
      rintro e w2 ⟨rfl, hb2⟩
      have hl2 := HL.out.below hb2 HL.out.lt
      have hB2 := HB.out.trans (hb2.mono HB.out.size)
      have hl3 := hl2.set z
      have hB3 := below_setRow hB2 (Nat.le_refl _) #[.int .u64 (z.p : Int), .int .u64 (z.q : Int), .int .u64 (z.r : Int), .int .u64 (z.s : Int)]
      have HL2 := Lib.hid hl2
      have HL3 := Lib.hid hl3
      have HB3 := Lib.hid hB3
      clear hl2 hl3 hB3 hB2 hb2
      obtain ⟨z1, z2, z3, z4⟩ := z
      dsimp only at HL3 HB3
      go_wp2_with (refine wpList_store_row rfl 31 _ _ rfl w.heap.size #[.int .u64 (z1 : Int), .int .u64 (z2 : Int), .int .u64 (z3 : Int), .int .u64 (z4 : Int)] rfl rfl 31 _ HL2.out info31 rfl (one4 _ _ _ _) ?_)
      go_roundw
      case rel => exact ⟨j + 1, by omega, by go_num, by rw [HNX.out]; exact HL3.out, HB3.out⟩
      case measure => simp [intOf]; omega
    · obtain rfl : j = 4 := by omega
      have h1 := u64_xor_nat (itN 4 ⟨p, q, r1, s⟩).p (itN 4 ⟨p, q, r1, s⟩).q hoj.1 hoj.2.1
      have h2 := u64_xor_nat ((itN 4 ⟨p, q, r1, s⟩).p ^^^ (itN 4 ⟨p, q, r1, s⟩).q) (itN 4 ⟨p, q, r1, s⟩).r (xorN_lt hoj.1 hoj.2.1) hoj.2.2.1
      have h3 := u64_xor_nat ((itN 4 ⟨p, q, r1, s⟩).p ^^^ (itN 4 ⟨p, q, r1, s⟩).q ^^^ (itN 4 ⟨p, q, r1, s⟩).r) (itN 4 ⟨p, q, r1, s⟩).s (xorN_lt (xorN_lt hoj.1 hoj.2.1) hoj.2.2.1) hoj.2.2.2
      rw [← HE.out] at h3
      clear HNX HE HI
      generalize itN 4 ⟨p, q, r1, s⟩ = y at *
      obtain ⟨y1, y2, y3, y4⟩ := y
      obtain ⟨c0, c1, c2, c3⟩ := hl.cells
      dsimp only at h1 h2 h3
      generalize y1 ^^^ y2 = x1 at *
      generalize x1 ^^^ y3 = x2 at *
      have HB := Lib.hid hb
      clear hl hb hx1 hoj
      go_wp2_with fail
      go_ret
      exact ⟨rfl, HB.out⟩

end Go.Proofs.YtocideolihbnaaaDoor
