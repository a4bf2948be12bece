/- The law WalkBack. -/
import Derived.Test.YtnfhbljhohjkhaaWAwake
set_option linter.unusedVariables false
set_option linter.unusedSimpArgs false
namespace Go.Proofs.Ytnfhbljhohjkhaa
open Go.RowKit

theorem at45_yes {S S' : Nat → Prop} (M : Pairs) (A : Option Addr) (c : Nat) (A1 A2 : Option Addr) (n1 c1 n2 c2 : Nat) (i : Int) (m : Nat) (hi : i = (m : Int)) (w : World) (hM : MIn S w A M.length M) (hn : M.length ≤ 1000000) (hm : m < M.length)
    (hp : PIn S' w (.agg #[.slice A1 n1 c1, .slice A2 n2 c2]) (M.getD m ([], [])).1 (M.getD m ([], [])).2) :
    Calls Try.prog 45 #[.agg #[.slice A1 n1 c1, .slice A2 n2 c2], .bool true, .slice A M.length c, .int .i64 i] w fun e w' => e = .returned (.bool true) ∧ Below w.heap.size w w' := by
  subst hi
  have hd : 0 ≤ (m : Int) ∧ (m : Int) < (M.length : Int) := by omega
  exact at45_any (S := S) (S' := S') M A c A1 A2 n1 c1 n2 c2 true (m : Int) w hM hn (decide_eq_true hd).symm (by rw [if_pos hd, Int.toNat_natCast]; exact hp)
theorem at45_no {S S' : Nat → Prop} (M : Pairs) (A : Option Addr) (c : Nat) (A1 A2 : Option Addr) (n1 c1 n2 c2 : Nat) (i : Int) (w : World) (hM : MIn S w A M.length M) (hn : M.length ≤ 1000000) (hd : ¬ (0 ≤ i ∧ i < (M.length : Int)))
    (hp : PIn S' w (.agg #[.slice A1 n1 c1, .slice A2 n2 c2]) [] []) :
    Calls Try.prog 45 #[.agg #[.slice A1 n1 c1, .slice A2 n2 c2], .bool false, .slice A M.length c, .int .i64 i] w fun e w' => e = .returned (.bool true) ∧ Below w.heap.size w w' :=
  at45_any (S := S) (S' := S') M A c A1 A2 n1 c1 n2 c2 false i w hM hn (decide_eq_false hd).symm (by rw [if_neg hd]; exact hp)

set_option maxRecDepth 100000 in
set_option maxHeartbeats 6400000 in
theorem walkBack_any (A : Option Addr) (n c : Nat) (L : List (Int × Bytes × Bytes)) (w : World) (h : Ops w A n L) :
    Calls Try.prog 11 #[.slice A n c] w fun e w' => e = .returned (.bool true) ∧ Below w.heap.size w w' := by
  have HO := Lib.hid h
  have HF := Lib.hid (fine_any A n c L 60 w h (by omega))
  clear h
  go_enter Try.func11, Try.ntmps11
  go_wp2_with fail
  refine HF.out.mono ?_
  rintro e w1 ⟨r, rfl, hr, hb1⟩
  have HB1 := Lib.hid hb1
  clear hb1
  cases r with
  | false =>
    clear hr
    go_wp2_with fail
    refine (awake15_any w1).mono ?_
    rintro e w2 ⟨rfl, hb2⟩
    have HB2 : Hid (Below w.heap.size w w2) := HB1.out.trans (hb2.mono HB1.out.size)
    clear hb2
    go_wp2_with fail
    go_ret
    exact ⟨rfl, HB2.out⟩
  | true =>
    have HFI := Lib.hid (hr rfl)
    clear hr
    have hn1 : n ≤ 60 := by have := HFI.out.1; rw [HO.out.len] at this; exact this
    have HMD := Lib.hid (made15_any A n c L w1 (HO.out.below HB1.out) ⟨by have := HFI.out.1; omega, HFI.out.2⟩)
    go_wp2_with fail
    refine HMD.out.mono ?_
    rintro e w2 ⟨u, A', c', T, rfl, hI⟩
    have HB2 : Hid (Below w.heap.size w w2) := HB1.out.trans (hI.out.below.mono HB1.out.size)
    have hsz : T.size ≤ 60 := by have := hI.out.size; omega
    have hll : T.list.length ≤ 60 := by rw [PT.size_list]; exact hsz
    have HTI := Lib.hid hI.out.tin
    have HWA := Lib.hid (wat_any T (.pointer u) 0 w2 hI.out.tin (by omega))
    have HMI := Lib.hid (hI.out.min.imp (S' := fun b => b < w2.heap.size) (fun b hb _ => hb))
    clear HMD hI
    go_wp2_with fail
    refine HWA.out.mono ?_
    rintro e w3 ⟨rfl, h3⟩
    have hh : heldN 0 T.size = 0 := by unfold heldN; split; rfl; split; omega; rfl
    have HC3 : Hid (CI w3 w3 w2.heap.size u T 0) := at_cur (by have := h3.out.1; rw [hh] at this; exact this) h3.out.2.1 rfl HTI.out (by omega)
    have HM3 : Hid (∀ W, Kept (some w2.heap.size) w3 W → MIn (fun b => b < w2.heap.size) W A' T.list.length T.list) := fun W hW => (HMI.out.below h3.out.2.1).kept hW (fun b hb e => by injection e with e; subst e; exact Nat.lt_irrefl _ hb)
    have HB3 : Hid (∀ W, Kept (some w2.heap.size) w3 W → Below w.heap.size w W) := fun W hW => Kept.over (HB2.out.trans (h3.out.2.1.mono HB2.out.size)) HB2.out.size hW
    clear hh h3 HWA HTI HMI
    generalize w2.heap.size = g at *
    go_wp2_with fail
    go_loopw [31] (fun v wr => ∃ j : Nat, v = .int .i64 (j : Int) ∧ j ≤ T.list.length ∧ Hid (CI w3 wr g u T j)) (fun v _ => T.list.length - (intOf v).toNat)
    case atStart => exact ⟨0, rfl, by omega, HC3⟩
    case round =>
      obtain ⟨j, rfl, hj, hC⟩ := hrel
      by_cases hlt : j < T.list.length
      · have HN := Lib.hid (next_yes hC.out hlt)
        have al : (0 : Int) ≤ (j : Int) := by omega
        have al3 : (j : Int) < (T.list.length : Int) := by omega
        go_wp2_with fail
        refine HN.out.mono ?_
        rintro e w4 ⟨A1, n1, c1, A2, n2, c2, rfl, h4⟩
        have hbn : Below w4.heap.size w4 (w4.alloc (.cells #[.slice A1 n1 c1, .slice A2 n2 c2] 40)) := (Below.refl _ _).alloc (Nat.le_refl _) _
        have HC4 := Lib.hid (h4.out.2.2.below hbn)
        have HAT := Lib.hid (at45_yes T.list A' c' A1 A2 n1 c1 n2 c2 (j : Int) j rfl (w4.alloc (.cells #[.slice A1 n1 c1, .slice A2 n2 c2] 40)) (HM3.out _ HC4.out.kept) (by omega) hlt (PIn.below h4.out.1 hbn))
        clear h4 hbn HN
        go_wp2_with fail
        refine HAT.out.mono ?_
        rintro e w5 ⟨rfl, hb5⟩
        have HC5 := Lib.hid (HC4.out.below hb5)
        clear hb5 HAT
        go_wp2_with fail
        go_roundw
        case rel => exact ⟨j + 1, by go_num, by omega, HC5⟩
        case measure => simp [intOf]; omega
      · obtain rfl : j = T.list.length := by omega
        have HN := Lib.hid (next_no hC.out hlt)
        clear hlt hj
        go_wp2_with fail
        refine HN.out.mono ?_
        rintro e w4 ⟨A1, n1, c1, A2, n2, c2, rfl, h4⟩
        have hbn : Below w4.heap.size w4 (w4.alloc (.cells #[.slice A1 n1 c1, .slice A2 n2 c2] 40)) := (Below.refl _ _).alloc (Nat.le_refl _) _
        have HC4 := Lib.hid (h4.out.2.2.below hbn)
        clear h4 hbn HN
        go_wp2_with fail
        go_loopw [54] (fun v wr => ∃ j : Nat, v = .int .i64 (j : Int) ∧ j ≤ T.list.length ∧ Hid (CI w3 wr g u T (T.list.length - j))) (fun v _ => T.list.length - (intOf v).toNat)
        case atStart => exact ⟨0, rfl, by omega, HC4⟩
        case round =>
          obtain ⟨j, rfl, hj, hC⟩ := hrel
          by_cases hlt : j < T.list.length
          · have HN := Lib.hid (back_yes hC.out (by omega))
            have al : (0 : Int) ≤ (j : Int) := by omega
            have al3 : (j : Int) < (T.list.length : Int) := by omega
            have hw1 : IntKind.i64.wrap ((T.list.length : Int) - 1) = (T.list.length : Int) - 1 := wsm _ (by omega)
            have hw2 : IntKind.i64.wrap ((T.list.length : Int) - 1 - (j : Int)) = (T.list.length : Int) - 1 - (j : Int) := wsm _ (by omega)
            go_wp2_with fail
            refine HN.out.mono ?_
            rintro e w5 ⟨A3, n3, c3, A4, n4, c4, rfl, h5⟩
            have hbn : Below w5.heap.size w5 (w5.alloc (.cells #[.slice A3 n3 c3, .slice A4 n4 c4] 40)) := (Below.refl _ _).alloc (Nat.le_refl _) _
            have HC5 := Lib.hid (h5.out.2.2.below hbn)
            have HAT := Lib.hid (at45_yes T.list A' c' A3 A4 n3 c3 n4 c4 ((T.list.length : Int) - 1 - (j : Int)) (T.list.length - j - 1) (by omega) (w5.alloc (.cells #[.slice A3 n3 c3, .slice A4 n4 c4] 40)) (HM3.out _ HC5.out.kept) (by omega) (by omega) (PIn.below h5.out.1 hbn))
            clear h5 hbn HN
            go_wp2_with fail
            refine HAT.out.mono ?_
            rintro e w6 ⟨rfl, hb6⟩
            have HC6 := Lib.hid (HC5.out.below hb6)
            clear hb6 HAT hw1 hw2
            go_wp2_with fail
            go_roundw
            case rel => exact ⟨j + 1, by go_num, by omega, by rw [show T.list.length - (j + 1) = T.list.length - j - 1 by omega]; exact HC6⟩
            case measure => simp [intOf]; omega
          · obtain rfl : j = T.list.length := by omega
            have hC0 := hC.out
            rw [Nat.sub_self] at hC0
            have HN := Lib.hid (back_no hC0 (by omega))
            clear hlt hj hC0 hC
            go_wp2_with fail
            refine HN.out.mono ?_
            rintro e w5 ⟨A3, n3, c3, A4, n4, c4, rfl, h5⟩
            have hbn : Below w5.heap.size w5 (w5.alloc (.cells #[.slice A3 n3 c3, .slice A4 n4 c4] 40)) := (Below.refl _ _).alloc (Nat.le_refl _) _
            have HC5 := Lib.hid (h5.out.2.2.below hbn)
            have HPL := Lib.hid (place_any _ g (.pointer u) _ HC5.out.cur)
            have hlf := wleft_any HC5.out
            rw [show (T.list.length : Int) - ((0 : Nat) : Int) = (T.list.length : Int) by omega] at hlf
            have HLF := Lib.hid hlf
            clear h5 hbn HN hlf
            go_wp2_with fail
            refine HPL.out.mono ?_
            rintro e wz ⟨rfl, rfl⟩
            go_wp2_with fail
            refine HLF.out.mono ?_
            rintro e w6 ⟨rfl, hb6⟩
            have HC6 := Lib.hid (HC5.out.below hb6)
            clear hb6
            go_wp2_with fail
            refine (awake15_any w6).mono ?_
            rintro e w7 ⟨rfl, hb7⟩
            have HB7 := Lib.hid (HB3.out w7 (HC6.out.below hb7).kept)
            clear hb7
            go_wp2_with fail
            go_ret
            exact ⟨rfl, HB7.out⟩

end Go.Proofs.Ytnfhbljhohjkhaa
