/- The law SipHashes, as a walk. -/
import Derived.Test.YtocideolihbnaaaDoorSLawB
set_option linter.unusedVariables false
set_option linter.unusedSimpArgs false
namespace Go.Proofs.YtocideolihbnaaaDoor
open Go.RowKit
attribute [local go_sem ↓] Go.wp_at_zero Go.wp_at_succ

/-- The law's world: the seed's box, the table, the key. -/
structure Sk (w W : World) (s : List UInt8) : Prop where
  seed : SeedAt W w.heap.size s
  tab : TabOK W
  bel : Below w.heap.size w W
theorem Sk.below {w W W' : World} {s : List UInt8} (h : Sk w W s) (hb : Below W.heap.size W W') : Sk w W' s :=
  ⟨h.seed.below hb h.seed.lt, h.tab.below hb, h.bel.trans (hb.mono h.bel.size)⟩
theorem Sk.drew {w W : World} {s : List UInt8} (h : Sk w W s) : Sk w W.drew s := ⟨h.seed, h.tab, ⟨h.bel.os, h.bel.tape, h.bel.output, h.bel.size, h.bel.block⟩⟩

set_option maxHeartbeats 6400000 in
theorem sipHashes_any (s : List UInt8) (hs : s.length = 16) (A : Option Addr) (n c : Nat) (k : List UInt8) (w : World) (hR : RdB w A n k) (hc : n ≤ c) (hT : TabOK w) :
    Calls Tryd.prog 3 #[.agg (rowOf s), .slice A n c] w fun e w' => e = .returned (.bool true) ∧ Below w.heap.size w w' := by
  have hsk : Sk w (w.alloc (.cells (rowOf s) 23)) s := by
    have hb := (Below.refl _ w).alloc (Nat.le_refl _) (.cells (rowOf s) 23)
    exact ⟨heap_new w _, hT.below hb, hb⟩
  have hlen := hR.len
  by_cases hn : n ≤ 400
  · have H1 := Lib.hid (fun W (h : Sk w W s) => hash_any s hs A n c k W h.tab (hR.below h.bel) hc)
    have H2 := Lib.hid (fun W => refHash_any s hs (strO k) W (by rw [strO_size]; omega))
    have H3 := Lib.hid (fun W (h : Sk w W s) => rconv W A n c k (hR.below h.bel))
    rw [strO_strL] at H2
    generalize hashN s k = H at *
    generalize strO k = K at *
    have HS := Lib.hid hsk
    obtain ⟨a0, a1, a2, a3, a4, a5, a6, a7, a8, a9, a10, a11, a12, a13, a14, a15, rfl⟩ := sixteen s hs
    have HC := Lib.hid (fun W (h : Sk w W [a0, a1, a2, a3, a4, a5, a6, a7, a8, a9, a10, a11, a12, a13, a14, a15]) => (cells16 (show W.heap[w.heap.size]? = some (.cells #[.int .u8 (a0.toNat : Int), .int .u8 (a1.toNat : Int), .int .u8 (a2.toNat : Int), .int .u8 (a3.toNat : Int), .int .u8 (a4.toNat : Int), .int .u8 (a5.toNat : Int), .int .u8 (a6.toNat : Int), .int .u8 (a7.toNat : Int), .int .u8 (a8.toNat : Int), .int .u8 (a9.toNat : Int), .int .u8 (a10.toNat : Int), .int .u8 (a11.toNat : Int), .int .u8 (a12.toNat : Int), .int .u8 (a13.toNat : Int), .int .u8 (a14.toNat : Int), .int .u8 (a15.toNat : Int)] 23 (0, 0)) from h.seed)))
    simp only [row16] at *
    clear hsk hR hT
    generalize hXX : w.alloc (.cells #[.int .u8 (a0.toNat : Int), .int .u8 (a1.toNat : Int), .int .u8 (a2.toNat : Int), .int .u8 (a3.toNat : Int), .int .u8 (a4.toNat : Int), .int .u8 (a5.toNat : Int), .int .u8 (a6.toNat : Int), .int .u8 (a7.toNat : Int), .int .u8 (a8.toNat : Int), .int .u8 (a9.toNat : Int), .int .u8 (a10.toNat : Int), .int .u8 (a11.toNat : Int), .int .u8 (a12.toNat : Int), .int .u8 (a13.toNat : Int), .int .u8 (a14.toNat : Int), .int .u8 (a15.toNat : Int)] 23) = XX at *
    generalize hx0 : (a0.toNat : Int) = x0 at *
    generalize hx1 : (a1.toNat : Int) = x1 at *
    generalize hx2 : (a2.toNat : Int) = x2 at *
    generalize hx3 : (a3.toNat : Int) = x3 at *
    generalize hx4 : (a4.toNat : Int) = x4 at *
    generalize hx5 : (a5.toNat : Int) = x5 at *
    generalize hx6 : (a6.toNat : Int) = x6 at *
    generalize hx7 : (a7.toNat : Int) = x7 at *
    generalize hx8 : (a8.toNat : Int) = x8 at *
    generalize hx9 : (a9.toNat : Int) = x9 at *
    generalize hx10 : (a10.toNat : Int) = x10 at *
    generalize hx11 : (a11.toNat : Int) = x11 at *
    generalize hx12 : (a12.toNat : Int) = x12 at *
    generalize hx13 : (a13.toNat : Int) = x13 at *
    generalize hx14 : (a14.toNat : Int) = x14 at *
    generalize hx15 : (a15.toNat : Int) = x15 at *
    go_enter Tryd.func3, Tryd.ntmps3
    go_wp2_with fail
    clear hXX
    have hC := HC.out _ HS.out
    have hV := H3.out _ HS.out.drew
    go_cut [4] (fun v wx => v = .bool true ∧ Below w.heap.size w wx)
    case first =>
      go_region_with (first
        | (go_at_call 9; refine (H1.out _ HS.out.drew).mono ?_; rintro e wa ⟨rfl, hb⟩; have HS1 := Lib.hid (HS.out.drew.below hb); clear hb; have hC1 := HC.out _ HS1.out; have hV1 := H3.out _ HS1.out)
        | (go_at_call 10; refine (H2.out _).mono ?_; rintro e wb ⟨rfl, hb⟩; have HS2 := Lib.hid (HS1.out.below hb); clear hb)
        | (go_at_call 8; refine (awake_any _ HS2.out.tab).mono ?_; rintro e wc1 ⟨rfl, hb⟩; have HS3 := Lib.hid (HS2.out.below hb); clear hb))
      all_goals (go_wp2_with fail)
      all_goals (go_meet; exact ⟨rfl, HS3.out.bel⟩)
    case rest =>
      obtain ⟨rfl, hB⟩ := hcut
      have HB := Lib.hid hB
      clear hB hC hV
      go_wp2_with fail
      go_ret
      exact ⟨rfl, HB.out⟩
  · have HA := Lib.hid (awake_any _ hsk.tab)
    have HB := Lib.hid hsk.bel
    clear hsk hR hT
    go_enter Tryd.func3, Tryd.ntmps3
    go_wp2_with fail
    refine HA.out.mono ?_
    rintro e wa ⟨rfl, hb⟩
    have HB1 := Lib.hid (HB.out.trans (hb.mono HB.out.size))
    clear hb
    go_wp2_with fail
    go_ret
    exact ⟨rfl, HB1.out⟩

end Go.Proofs.YtocideolihbnaaaDoor
