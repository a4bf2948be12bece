/- Texts put together: FAwake LBase. -/
import Derived.Test.YtphjaebkcimklaaGreatDoorMz
import Derived.Test.YtphjaebkcimklaaGreatDoorMgr
import Derived.Test.YtphjaebkcimklaaGreatDoorMy
import Derived.Test.YtphjaebkcimklaaGreatDoorTQuiet
import Derived.Test.YtphjaebkcimklaaGreatDoorMe
/- law23's awake. -/
set_option linter.unusedVariables false
set_option linter.unusedSimpArgs false
namespace Go.Proofs.YtphjaebkcimklaaGreatDoor
open Go.RowKit Go.Shelf Go.Proofs.YtphjaebkcimklaaGreatDoorW.PrintLast
attribute [local go_sem] Oper.semAt_some

set_option maxRecDepth 100000 in
set_option maxHeartbeats 1600000 in
theorem groups_any {D : Nat → Prop} {sd : Array Value} {u : Value} {tu : Option Addr} {T : PT} {A A' : Option Addr} {n n' c c' : Nat} {f t : Bytes} {cl : Bool} (wd : Int) (w : World) (hT : TIn D w (.pointer tu) T) (hs : SIn (fun _ => True) w (.agg #[.slice A n c, .slice A' n' c', .bool cl]) f t cl) (ha : Asc T.list) (hz : T.size ≤ 100000) (hD : ∀ b, D b → b < w.heap.size) :
    Calls Tryz.prog 14 #[.agg (chA sd u (.pointer tu)), .agg #[.slice A n c, .slice A' n' c', .bool cl], .int .i64 wd] w fun e w' => e = .returned (.func (.func 35) #[] #[.pointer (some ⟨w.heap.size, 0, none⟩), .pointer (some ⟨w.heap.size + 1, 0, none⟩), .pointer (some ⟨w.heap.size + 1 + 1, 0, none⟩)]) ∧
      Hid (GClo D w' w.heap.size (w.heap.size + 1) (w.heap.size + 1 + 1) sd u tu T A A' n n' c c' f t cl wd ∧ Below w.heap.size w w') := by
  have hX : ((w.alloc (.cells (chA sd u (.pointer tu)) 38)).alloc (.cells #[.slice A n c, .slice A' n' c', .bool cl] 25)).heap.size = w.heap.size + 1 + 1 := by simp
  have h1 : Tri 25 ((w.alloc (.cells (chA sd u (.pointer tu)) 38)).alloc (.cells #[.slice A n c, .slice A' n' c', .bool cl] 25)) (w.heap.size + 1) (.slice A n c) (.slice A' n' c') (.bool cl) := by
    have := heap_new (w.alloc (.cells (chA sd u (.pointer tu)) 38)) (.cells #[.slice A n c, .slice A' n' c', .bool cl] 25)
    rw [World.size_alloc] at this
    exact this
  have h2 : One 3 (((w.alloc (.cells (chA sd u (.pointer tu)) 38)).alloc (.cells #[.slice A n c, .slice A' n' c', .bool cl] 25)).alloc (.cells #[.int .i64 wd] 3)) (w.heap.size + 1 + 1) (.int .i64 wd) := by
    have := heap_new ((w.alloc (.cells (chA sd u (.pointer tu)) 38)).alloc (.cells #[.slice A n c, .slice A' n' c', .bool cl] 25)) (.cells #[.int .i64 wd] 3)
    rw [hX] at this
    exact this
  have hb : Below w.heap.size w (((w.alloc (.cells (chA sd u (.pointer tu)) 38)).alloc (.cells #[.slice A n c, .slice A' n' c', .bool cl] 25)).alloc (.cells #[.int .i64 wd] 3)) := (((Below.refl _ _).alloc (Nat.le_refl _) _).alloc (by simp) _).alloc (by simp; omega) _
  have HG : Hid (GClo D (((w.alloc (.cells (chA sd u (.pointer tu)) 38)).alloc (.cells #[.slice A n c, .slice A' n' c', .bool cl] 25)).alloc (.cells #[.int .i64 wd] 3)) w.heap.size (w.heap.size + 1) (w.heap.size + 1 + 1) sd u tu T A A' n n' c c' f t cl wd ∧ Below w.heap.size w (((w.alloc (.cells (chA sd u (.pointer tu)) 38)).alloc (.cells #[.slice A n c, .slice A' n' c', .bool cl] 25)).alloc (.cells #[.int .i64 wd] 3))) :=
    ⟨⟨heap_old _ (heap_old _ (heap_new w _)), heap_old _ h1, h2, hT.below hb, hs.below hb, ha, hz, fun b h => Nat.lt_of_lt_of_le (hD b h) hb.size⟩, hb⟩
  clear hX h1 h2 hb hT hs
  go_enter Tryz.func14, Tryz.ntmps14
  go_upto_region 1 with (fail)
  generalize ((w.alloc (.cells (chA sd u (.pointer tu)) 38)).alloc (.cells #[.slice A n c, .slice A' n' c', .bool cl] 25)).alloc (.cells #[.int .i64 wd] 3) = X at *
  go_wp2_with fail
  go_ret
  exact ⟨rfl, HG.out⟩

/-- The chart's pairs of the document's example. -/
abbrev awL : Pairs := [([97, 98], []), ([97, 99], []), ([98], [])]
theorem aw_map : ∀ j, j < 3 → mapAt awL j = 0 := fun j hj => by
  rcases (by omega : j = 0 ∨ j = 1 ∨ j = 2) with rfl | rfl | rfl <;> decide
theorem aw_grps : grps (1 : Int).toNat (cutM awL [] [] false true) = [([97], 2), ([98], 1)] := by decide

set_option maxRecDepth 100000 in
set_option maxHeartbeats 6400000 in
theorem awake23_any (w : World) (hT : Tabs w) : Calls Tryz.prog 9 #[] w fun e w' => e = .returned (.bool true) ∧ Below w.heap.size w w' := by
  have hb0 : Below w.heap.size w (w.alloc (.cells #[.bool false] 4)) := (Below.refl _ _).alloc (Nat.le_refl _) _
  have HR0 : Hid (One 4 (w.alloc (.cells #[.bool false] 4)) w.heap.size (.bool false)) := heap_new w _
  have HB0 := Lib.hid hb0
  have HTB := Lib.hid hT
  clear hb0 hT
  refine (callsIn_wide (n := 1)).1 (callsIn_of_wp_marks Tryz.func9 rfl trivial ((wpIn_wide (n := 1)).2 ?_) rfl)
  simp only [Tryz.ntmps9, List.size_toArray, List.length_cons, List.length_nil, Nat.reduceAdd, Nat.reduceSub, Array.replicate_succ, Array.replicate_zero, List.push_toArray, List.append_toArray, List.nil_append, List.cons_append]
  go_upto_region 1 with fail
  generalize w.alloc (.cells #[.bool false] 4) = X at *
  have ca := conv_ab
  have cb := conv_ac
  have cc := conv_b
  have bt := built31_0
  go_wp2_with fail
  have g1 := (lit_in X [97, 98] (by simp))
  have g2 := (lit_in (litW X [97, 98]) [97, 99] (by simp))
  have g3 := (lit_in (litW (litW X [97, 98]) [97, 99]) [98] (by simp))
  have e1 := lit_below X [97, 98]
  have e2 := lit_below (litW X [97, 98]) [97, 99]
  have e3 := lit_below (litW (litW X [97, 98]) [97, 99]) [98]
  have hbw : Below X.heap.size X (litW (litW (litW X [97, 98]) [97, 99]) [98]) := (e1.trans (e2.mono e1.size)).trans (e3.mono (Nat.le_trans e1.size e2.size))
  have g1 := BIn.below (BIn.below g1 e2) e3
  have g2 := BIn.below g2 e3
  have HV : Hid (Below X.heap.size X (litW (litW (litW X [97, 98]) [97, 99]) [98]) ∧ BIn (fun _ => True) (litW (litW (litW X [97, 98]) [97, 99]) [98]) (.slice (some ⟨X.heap.size, 0, none⟩) 2 2) [97, 98] ∧ BIn (fun _ => True) (litW (litW (litW X [97, 98]) [97, 99]) [98]) (.slice (some ⟨(litW X [97, 98]).heap.size, 0, none⟩) 2 2) [97, 99] ∧ BIn (fun _ => True) (litW (litW (litW X [97, 98]) [97, 99]) [98]) (.slice (some ⟨(litW (litW X [97, 98]) [97, 99]).heap.size, 0, none⟩) 1 1) [98]) :=
    ⟨hbw, g1.imp (fun _ _ _ => trivial), g2.imp (fun _ _ _ => trivial), g3.imp (fun _ _ _ => trivial)⟩
  clear g1 g2 g3 e1 e2 e3 hbw
  generalize (litW X [97, 98]).heap.size = p2 at *
  generalize (litW (litW X [97, 98]) [97, 99]).heap.size = p3 at *
  generalize litW (litW (litW X [97, 98]) [97, 99]) [98] = V at *
  clear ca cb cc bt
  have hnew := heap_new V (.cells #[.slice (some ⟨X.heap.size, 0, none⟩) 2 2, .slice none 0 0, .slice (some ⟨p2, 0, none⟩) 2 2, .slice none 0 0, .slice (some ⟨p3, 0, none⟩) 1 1, .slice none 0 0] 60)
  have hb5 := (Below.refl _ V).alloc (Nat.le_refl _) (.cells #[.slice (some ⟨X.heap.size, 0, none⟩) 2 2, .slice none 0 0, .slice (some ⟨p2, 0, none⟩) 2 2, .slice none 0 0, .slice (some ⟨p3, 0, none⟩) 1 1, .slice none 0 0] 60)
  have hL : LIn (fun _ => True) (V.alloc (.cells #[.slice (some ⟨X.heap.size, 0, none⟩) 2 2, .slice none 0 0, .slice (some ⟨p2, 0, none⟩) 2 2, .slice none 0 0, .slice (some ⟨p3, 0, none⟩) 1 1, .slice none 0 0] 60)) (some ⟨V.heap.size, 0, none⟩) 3 awL :=
    ⟨rfl, fun _ => ⟨_, 0, rfl, (Array.getElem?_eq_some_iff.1 hnew).1, trivial, fun j hj => by
      rcases (by omega : j = 0 ∨ j = 1 ∨ j = 2) with rfl | rfl | rfl
      · exact ⟨_, _, cell_of_row _ _ 0 _ _ _ hnew, cell_of_row _ _ 1 _ _ _ hnew, HV.out.2.1.below hb5, BIn.nil _ _⟩
      · exact ⟨_, _, cell_of_row _ _ 2 _ _ _ hnew, cell_of_row _ _ 3 _ _ _ hnew, HV.out.2.2.1.below hb5, BIn.nil _ _⟩
      · exact ⟨_, _, cell_of_row _ _ 4 _ _ _ hnew, cell_of_row _ _ 5 _ _ _ hnew, HV.out.2.2.2.below hb5, BIn.nil _ _⟩⟩⟩
  have hbX : Below w.heap.size w (V.alloc (.cells #[.slice (some ⟨X.heap.size, 0, none⟩) 2 2, .slice none 0 0, .slice (some ⟨p2, 0, none⟩) 2 2, .slice none 0 0, .slice (some ⟨p3, 0, none⟩) 1 1, .slice none 0 0] 60)) := HB0.out.trans ((HV.out.1.trans (hb5.mono HV.out.1.size)).mono HB0.out.size)
  have hxx : Below X.heap.size X (V.alloc (.cells #[.slice (some ⟨X.heap.size, 0, none⟩) 2 2, .slice none 0 0, .slice (some ⟨p2, 0, none⟩) 2 2, .slice none 0 0, .slice (some ⟨p3, 0, none⟩) 1 1, .slice none 0 0] 60)) := HV.out.1.trans (hb5.mono HV.out.1.size)
  have HXX := Lib.hid hxx
  have HFR := Lib.hid (chFrom_any sl0 rfl awL _ 3 3 _ hL (by omega) (by omega) aw_map (HTB.out.below hbX) (fun j hj => by rcases (by omega : j = 0 ∨ j = 1 ∨ j = 2) with rfl | rfl | rfl <;> simp))
  have HS := Lib.hid (seed_row sl0 rfl)
  clear hnew hb5 hL hbX hxx
  refine HFR.out.mono ?_
  generalize V.alloc (.cells #[.slice (some ⟨X.heap.size, 0, none⟩) 2 2, .slice none 0 0, .slice (some ⟨p2, 0, none⟩) 2 2, .slice none 0 0, .slice (some ⟨p3, 0, none⟩) 1 1, .slice none 0 0] 60) = U at *
  clear HFR
  generalize Sip.rowOf sl0 = sd at *
  rintro e w4 ⟨u, p, T, rfl, H⟩
  obtain ⟨tu, rfl⟩ := H.out.2.2.1.ptr
  have HX4 : Hid (Below X.heap.size X w4) := HXX.out.trans (H.out.2.2.2.1.mono HXX.out.size)
  have HZN : Hid ((w4.alloc (.cells z38 38)).heap[w4.heap.size]? = some (.cells z38 38 (0, 0))) := heap_new w4 _
  go_upto_region 3 with (refine wpList_store_row rfl 38 _ _ rfl w4.heap.size (chA sd u (.pointer tu)) rfl rfl 38 _ HZN.out (size_of info38 (chA_size HS.out.1)) (by rw [chA_size HS.out.1]; rfl) (chA_one HS.out H.out.2.2.2.2 rfl) ?_)
  have h4z : (w4.alloc (.cells z38 38)).heap.size = w4.heap.size + 1 := by simp
  have hZ : ((w4.alloc (.cells z38 38)).setRow w4.heap.size (chA sd u (.pointer tu))).heap[w4.heap.size]? = some (.cells (chA sd u (.pointer tu)) 38 (0, 0)) := setRow_heap _ _ _ _ 38 _ HZN.out
  have hZs : ((w4.alloc (.cells z38 38)).setRow w4.heap.size (chA sd u (.pointer tu))).heap.size = w4.heap.size + 1 := by simp
  have hZb : Below w4.heap.size w4 ((w4.alloc (.cells z38 38)).setRow w4.heap.size (chA sd u (.pointer tu))) := below_setRow ((Below.refl _ _).alloc (Nat.le_refl _) _) (Nat.le_refl _) _
  have hYb : Below w4.heap.size w4 (((w4.alloc (.cells z38 38)).setRow w4.heap.size (chA sd u (.pointer tu))).alloc (.cells #[.int .i64 0] 3)) := hZb.alloc hZb.size _
  have hYn : One 3 (((w4.alloc (.cells z38 38)).setRow w4.heap.size (chA sd u (.pointer tu))).alloc (.cells #[.int .i64 0] 3)) (w4.heap.size + 1) (.int .i64 0) := by
    have := heap_new ((w4.alloc (.cells z38 38)).setRow w4.heap.size (chA sd u (.pointer tu))) (.cells #[.int .i64 0] 3)
    rw [hZs] at this
    exact this
  have HY : Hid ((((w4.alloc (.cells z38 38)).setRow w4.heap.size (chA sd u (.pointer tu))).alloc (.cells #[.int .i64 0] 3)).heap[w4.heap.size]? = some (.cells (chA sd u (.pointer tu)) 38 (0, 0))) := heap_old _ hZ
  have HYN := Lib.hid hYn
  have HYB := Lib.hid hYb
  clear h4z hZ hZs hZb hYb hYn HZN
  generalize (((w4.alloc (.cells z38 38)).setRow w4.heap.size (chA sd u (.pointer tu))).alloc (.cells #[.int .i64 0] 3)) = Y at *
  have HYX : Hid (Below w.heap.size w Y) := (HB0.out.trans (HX4.out.mono HB0.out.size)).trans (HYB.out.mono (HB0.out.trans (HX4.out.mono HB0.out.size)).size)
  have ra38 : Y.rangeAt w4.heap.size 0 (chA sd u (.pointer tu)).toList := range_row 0 HY.out fun j _ => by rw [Nat.zero_add]
  have in38 := in38' (u := u) (p := .pointer tu) HS.out
  have hti : TIn (fun b => b < w4.heap.size) Y (.pointer tu) T := (H.out.2.2.1.imp (S' := fun b => b < w4.heap.size) fun b hb _ => hb).below HYB.out
  have hsz : T.size = 3 := PT.size_of H.out.1
  have hasc : Asc T.list := by rw [H.out.1]; simp [Asc, Lib.compareBytes]
  have HGR := Lib.hid (groups_any (sd := sd) (u := u) (A := none) (A' := none) (n := 0) (n' := 0) (c := 0) (c' := 0) (f := []) (t := []) (cl := false) 1 Y hti ⟨_, _, rfl, BIn.nil _ _, BIn.nil _ _⟩ hasc (by omega) (fun b hb => Nat.lt_of_lt_of_le hb HYB.out.size))
  have HRY : Hid (One 4 Y w.heap.size (.bool false)) := (HR0.out.below (HX4.out.trans (HYB.out.mono HX4.out.size)) HR0.out.lt)
  have HGL : Hid (grps (1 : Int).toNat (cutM T.list [] [] false true) = [([97], 2), ([98], 1)]) := by
    have := aw_grps
    rw [← H.out.1] at this
    exact this
  have HLT : Hid (w.heap.size < w4.heap.size ∧ w4.heap.size + 1 < Y.heap.size) := ⟨by have h1 := HR0.out.lt; have h2 := HX4.out.size; omega, HYN.out.lt⟩
  clear hti hasc hsz
  have hfn := fun (W : World) (b1 b2 b3 : Nat) => func_nil W 35 #[.pointer (some ⟨b1, 0, none⟩), .pointer (some ⟨b2, 0, none⟩), .pointer (some ⟨b3, 0, none⟩)]
  go_wp2_with (refine wpList_load_mid rfl 38 _ rfl w4.heap.size 0 (by rfl) (chA sd u (.pointer tu)).toList _ ra38 Tryz.underlying38 rfl in38 ?_)
  refine HGR.out.mono ?_
  rintro e w5 ⟨rfl, h5⟩
  have HC := Lib.hid h5.out.1
  have HB5 := Lib.hid h5.out.2
  have H5 : Hid (One 4 w5 w.heap.size (.bool false) ∧ One 3 w5 (w4.heap.size + 1) (.int .i64 0) ∧ Below w.heap.size w w5 ∧ Y.heap.size ≤ w5.heap.size) := ⟨HRY.out.below h5.out.2 HRY.out.lt, HYN.out.below h5.out.2 HYN.out.lt, HYX.out.trans (h5.out.2.mono HYX.out.size), h5.out.2.size⟩
  clear h5 ra38 in38
  go_wp2_with fail
  clear hfn
  refine wp_rangeFunc_O (gf := 35) (lb := #[.pointer (some ⟨Y.heap.size, 0, none⟩), .pointer (some ⟨Y.heap.size + 1, 0, none⟩), .pointer (some ⟨Y.heap.size + 1 + 1, 0, none⟩)]) (by rfl) (enters_of Tryz.func35 (by kernel_rfl) rfl)
    (groups_seq (Own := fun b => b = w4.heap.size + 1) HS.out HC.out (fun b (hb : b < w4.heap.size) e => by omega) (fun b e => by have h1 := HLT.out; have h2 := H5.out.2.2.2; omega) (fun e => by have h1 := HLT.out; omega)) (Below.refl _ _) (fun b e => by have h1 := HLT.out; have h2 := H5.out.2.2.2; omega) (fun _ => rfl)
    (fun p pre V => KD (fun b => b ≠ w4.heap.size + 1 ∧ b < w5.heap.size) w5 V ∧ One 3 V (w4.heap.size + 1) (.int .i64 (match pre.length with | 0 => 0 | 1 => 2 | _ => 21)))
    (fun _ _ _ _ => False)
    ?hI ?hIx ?h0 ?round ?done ?stop
  case hI =>
    rintro k s A0 B0 hk ⟨h1, h2⟩ ho
    have hs := h1.size
    have hl := HLT.out
    have h5s := H5.out.2.2.2
    exact ⟨h1.trans ⟨ho.os, ho.tape, ho.output, ho.size, fun b hb hlt => ho.block b hlt (by omega)⟩, h2.block (ho.block _ (by omega) (by omega))⟩
  case hIx => intro c k s A0 B0 _ h _; exact h
  case h0 =>
    intro k V hV hk hkl
    exact ⟨KD.of hV, H5.out.2.1.below hV H5.out.2.1.lt⟩
  case round =>
    rintro m' l' k pre ⟨kv, mm⟩ V hk ⟨hkd, hone⟩ ⟨g, hg, hm, hb⟩ hlt hkl
    simp only [] at hm
    subst hm
    obtain ⟨A1, n1, c1, rfl⟩ := hb.slice
    rw [HGL.out] at hg
    have HKD := Lib.hid hkd
    have HONE := Lib.hid hone
    have hpl : pre.length < 2 := (List.getElem?_eq_some_iff.1 hg).1
    have HGG := Lib.hid hg
    have HBB := Lib.hid hb
    clear hkd hone hb hg
    gi_wp2
    refine ⟨KD.refl _ _, fun V2 hg2 => ?_⟩
    have hl := HLT.out
    have h5s := H5.out.2.2.2
    have hks := HKD.out.size
    have HI2 : Hid (KD (fun b => b ≠ w4.heap.size + 1 ∧ b < w5.heap.size) w5 V2 ∧ One 3 V2 (w4.heap.size + 1) (.int .i64 (match pre.length with | 0 => 0 | 1 => 2 | _ => 21)) ∧ BIn (fun b => k ≤ b) V2 (.slice A1 n1 c1) g.1) :=
      ⟨HKD.out.trans (KD.grown hg2 fun r e hD => by injection e with e; omega), HONE.out.block (hg2.block _ (by omega) (fun e => by injection e with e; omega)), HBB.out.carry hg2.size fun b hb hl => hg2.block b hl (fun e => by injection e with e; have : k ≤ b := hb; omega)⟩
    clear HKD HONE HBB hg2 hl h5s hks hlt hkl
    rcases (by omega : pre.length = 0 ∨ pre.length = 1) with h0 | h0
    · have hgg := HGG.out
      rw [h0] at hgg HI2
      simp at hgg
      subst hgg
      have hset : KD (fun b => b ≠ w4.heap.size + 1) V2 (V2.setCell ⟨w4.heap.size + 1, 0, none⟩ (.int .i64 2)) := ⟨rfl, rfl, rfl, by simp, fun b hb _ => heap_setCell_other _ _ _ _ (by simpa using hb)⟩
      have hl := HLT.out
      have h5s := H5.out.2.2.2
      have hb3 : BIn (fun b => k ≤ b) (V2.setCell ⟨w4.heap.size + 1, 0, none⟩ (.int .i64 2)) (.slice A1 n1 c1) [97] := HI2.out.2.2.carry hset.size fun b hb hl => hset.block b (by have : k ≤ b := hb; omega) hl
      have hv0 := conv_bytes hb3
      have hv : Sem.run Tryz.prog (convert 23 9 (Value.slice A1 n1 c1)) (V2.setCell ⟨w4.heap.size + 1, 0, none⟩ (.int .i64 2)) = Result.ok (Value.string ⟨#[97]⟩) (V2.setCell ⟨w4.heap.size + 1, 0, none⟩ (.int .i64 2)) := hv0
      have ht0 : (ByteArray.mk #[97]).toList = [97] := by rw [ByteArray.toList_eq]
      have ht1 : (ByteArray.mk #[98]).toList = [98] := by rw [ByteArray.toList_eq]
      have d3 : V2.cell? ⟨w4.heap.size + 1, 0, none⟩ = some (.int .i64 0) := HI2.out.2.1.cell
      have f3 := HI2.out.2.1.frozen
      have hfin : KD (fun b => ¬ b = w4.heap.size + 1) V2 (V2.setCell ⟨w4.heap.size + 1, 0, none⟩ (.int .i64 2)) ∧ KD (fun b => b ≠ w4.heap.size + 1 ∧ b < w5.heap.size) w5 (V2.setCell ⟨w4.heap.size + 1, 0, none⟩ (.int .i64 2)) ∧ One 3 (V2.setCell ⟨w4.heap.size + 1, 0, none⟩ (.int .i64 2)) (w4.heap.size + 1) (.int .i64 2) :=
        ⟨hset, HI2.out.1.trans ⟨hset.os, hset.tape, hset.output, hset.size, fun b hb hl => hset.block b hb.1 hl⟩, HI2.out.2.1.set _⟩
      have HFIN := Lib.hid hfin
      clear hv0 hset hb3 hl h5s hfin
      gi_wp2
      refine ⟨HFIN.out.1, HFIN.out.2.1, ?_⟩
      rw [List.length_append, h0]
      exact HFIN.out.2.2
    · have hgg := HGG.out
      rw [h0] at hgg HI2
      simp at hgg
      subst hgg
      have hset : KD (fun b => b ≠ w4.heap.size + 1) V2 (V2.setCell ⟨w4.heap.size + 1, 0, none⟩ (.int .i64 21)) := ⟨rfl, rfl, rfl, by simp, fun b hb _ => heap_setCell_other _ _ _ _ (by simpa using hb)⟩
      have hl := HLT.out
      have h5s := H5.out.2.2.2
      have hb3 : BIn (fun b => k ≤ b) (V2.setCell ⟨w4.heap.size + 1, 0, none⟩ (.int .i64 21)) (.slice A1 n1 c1) [98] := HI2.out.2.2.carry hset.size fun b hb hl => hset.block b (by have : k ≤ b := hb; omega) hl
      have hv0 := conv_bytes hb3
      have hv : Sem.run Tryz.prog (convert 23 9 (Value.slice A1 n1 c1)) (V2.setCell ⟨w4.heap.size + 1, 0, none⟩ (.int .i64 21)) = Result.ok (Value.string ⟨#[98]⟩) (V2.setCell ⟨w4.heap.size + 1, 0, none⟩ (.int .i64 21)) := hv0
      have ht0 : (ByteArray.mk #[97]).toList = [97] := by rw [ByteArray.toList_eq]
      have ht1 : (ByteArray.mk #[98]).toList = [98] := by rw [ByteArray.toList_eq]
      have d3 : V2.cell? ⟨w4.heap.size + 1, 0, none⟩ = some (.int .i64 2) := HI2.out.2.1.cell
      have f3 := HI2.out.2.1.frozen
      have hfin : KD (fun b => ¬ b = w4.heap.size + 1) V2 (V2.setCell ⟨w4.heap.size + 1, 0, none⟩ (.int .i64 21)) ∧ KD (fun b => b ≠ w4.heap.size + 1 ∧ b < w5.heap.size) w5 (V2.setCell ⟨w4.heap.size + 1, 0, none⟩ (.int .i64 21)) ∧ One 3 (V2.setCell ⟨w4.heap.size + 1, 0, none⟩ (.int .i64 21)) (w4.heap.size + 1) (.int .i64 21) :=
        ⟨hset, HI2.out.1.trans ⟨hset.os, hset.tape, hset.output, hset.size, fun b hb hl => hset.block b hb.1 hl⟩, HI2.out.2.1.set _⟩
      have HFIN := Lib.hid hfin
      clear hv0 hset hb3 hl h5s hfin
      gi_wp2
      refine ⟨HFIN.out.1, HFIN.out.2.1, ?_⟩
      rw [List.length_append, h0]
      exact HFIN.out.2.2
  case done =>
    rintro p xs V hp hS ⟨hkd, hone⟩ hK
    rw [HGL.out] at hS
    rw [hS] at hone
    have hl := HLT.out
    have h5s := H5.out.2.2.2
    have hr4 : One 4 V w.heap.size (.bool false) := H5.out.1.block (hkd.block _ ⟨by omega, by omega⟩ H5.out.1.lt)
    have d3 : V.cell? ⟨w4.heap.size + 1, 0, none⟩ = some (.int .i64 21) := hone.cell
    have z0 := hr4.cell
    have zf := hr4.frozen
    have hfin : Below w.heap.size w ((V.setCell ⟨w.heap.size, 0, none⟩ (.bool true)).putObj w5.heap.size (.deferred none)) := by
      have hb5 := H5.out.2.2.1
      have hs5 := hb5.size
      have hkb : Below w.heap.size w V := ⟨hkd.os.trans hb5.os, hkd.tape.trans hb5.tape, hkd.output.trans hb5.output, Nat.le_trans hs5 hkd.size, fun b hb => (hkd.block b ⟨by omega, by omega⟩ (by omega)).trans (hb5.block b hb)⟩
      have hk2 : Below w.heap.size w (V.setCell ⟨w.heap.size, 0, none⟩ (.bool true)) := hkb.setCell (p := ⟨w.heap.size, 0, none⟩) (Nat.le_refl _) _
      exact hk2.grown (grownBy_putObj' _ w5.heap.size _) hk2.size (fun k e => by injection e with e; omega)
    have hK2 : (V.setCell ⟨w.heap.size, 0, none⟩ (.bool true)).heap[w5.heap.size]? = some (.deferred (some [])) := (heap_setCell_other _ _ _ _ (by simp only; omega)).trans hK
    have HFIN := Lib.hid (And.intro hfin (And.intro (hr4.set (.bool true)) hK2))
    clear hkd hone hr4 hfin hK2 hl h5s
    go_wp2_with fail
    exact leave_mark rfl (by rfl) HFIN.out.2.1 HFIN.out.2.2 ⟨rfl, HFIN.out.1⟩
  case stop => intro _ _ _ _ _ _ h; exact h.elim

end Go.Proofs.YtphjaebkcimklaaGreatDoor

/- law23: the laws' common opening. -/
set_option linter.unusedVariables false
set_option linter.unusedSimpArgs false
namespace Go.Proofs.YtphjaebkcimklaaGreatDoor
open Go.RowKit Go.Shelf Go.Proofs.YtphjaebkcimklaaGreatDoorW.PrintLast
attribute [local go_sem] Oper.semAt_some

/-- What made tells, as the laws need it. -/
structure Law23 (w w' : World) (sd : Array Value) (u : Value) (tu : Option Addr) (A : Option Addr) (T : PT) : Prop where
  sc : Sc w' sd u tu T
  min : MIn (fun _ => True) w' A T.list.length T.list
  keys : ∀ p ∈ T.list, p.1.length ≤ 100000
  len : T.list.length ≤ 61
  below : Below w.heap.size w w'
theorem made23_any (A : Option Addr) (n c : Nat) (L : List (Int × Bytes × Bytes)) (w : World) (h : Ops w A n L) (hf : FineL L 60) (hT : Tabs w) :
    Calls Tryz.prog 10 #[.slice A n c] w fun e w' => ∃ sd u tu A' c' T, e = .returned (.tuple #[.agg (chA sd u (.pointer tu)), .slice A' T.list.length c']) ∧ Hid (Law23 w w' sd u tu A' T) := by
  refine (made_any A n c L w h ⟨by have := hf.1; omega, hf.2⟩ hT).mono ?_
  rintro e w' ⟨u, p, A', c', t, T, rfl, H⟩
  obtain ⟨tu, rfl⟩ := H.out.in_.at_.ix.ptr
  have hl := H.out.in_.ok.len
  have hn := h.len
  have hs := T.size_list
  have h60 := hf.1
  exact ⟨_, u, tu, A', c', T, rfl, Lib.hid ⟨⟨seed_row sl5 rfl, H.out.in_.at_.ix, H.out.in_.ok.asc, by omega, H.out.in_.at_.tr.one⟩, H.out.in_.min, H.out.in_.ok.keys, by omega, H.out.below⟩⟩
/-- The chart's box in a law. -/
structure ChBox (w2 Y : World) (sd : Array Value) (u : Value) (tu : Option Addr) : Prop where
  row : ∀ V, Below Y.heap.size Y V → V.heap[w2.heap.size]? = some (.cells (chA sd u (.pointer tu)) 38 (0, 0))
  below : Below w2.heap.size w2 Y
  lt : w2.heap.size < Y.heap.size
theorem chBox (w2 : World) (sd : Array Value) (u : Value) (tu : Option Addr) : ChBox w2 ((w2.alloc (.cells z38 38)).setRow w2.heap.size (chA sd u (.pointer tu))) sd u tu := by
  have hz : (w2.alloc (.cells z38 38)).heap[w2.heap.size]? = some (.cells z38 38 (0, 0)) := heap_new w2 _
  have hr := setRow_heap (w2.alloc (.cells z38 38)) w2.heap.size _ (chA sd u (.pointer tu)) 38 _ hz
  exact ⟨fun V hV => (hV.block _ (Array.getElem?_eq_some_iff.1 hr).1).trans hr, below_setRow ((Below.refl _ _).alloc (Nat.le_refl _) _) (Nat.le_refl _) _, (Array.getElem?_eq_some_iff.1 hr).1⟩
theorem ChBox.ra {w2 Y V : World} {sd : Array Value} {u : Value} {tu : Option Addr} (h : ChBox w2 Y sd u tu) (hV : Below Y.heap.size Y V) : V.rangeAt w2.heap.size 0 (chA sd u (.pointer tu)).toList := range_row 0 (h.row V hV) fun j _ => by rw [Nat.zero_add]


end Go.Proofs.YtphjaebkcimklaaGreatDoor
