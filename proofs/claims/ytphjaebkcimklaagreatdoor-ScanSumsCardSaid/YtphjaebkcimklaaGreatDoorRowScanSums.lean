/- The card of the law ScanSums: What is ahead of a key and what is from it on are together all; each group's count is that of the stretch of its beginning, if no key is shorter, where the tables lie as the program lays them. -/
import Derived.Test.YtphjaebkcimklaaGreatDoorCards
import Derived.Test.YtphjaebkcimklaaGreatDoorTie
import Derived.Test.YtphjaebkcimklaaGreatDoorLSums
import Derived.WalkKit
import Derived.ProofKit
import Derived.OpenShut
import Derived.ShutString
import Derived.ChangeOld
import Derived.Below
import Derived.SizedLaws
import Derived.Carry
import Derived.Deep.DeepHandedRow
import Derived.Lib.LaidTab
namespace Go.Proofs.YtphjaebkcimklaaGreatDoor.scanSums
open Go.ChangeShapes Go.WideShapes Go.ChangeAt Go.RowKit 
open Go.ChangeMaps (open_string shut_string)
set_option linter.unusedVariables false
theorem own : ownKnob Tryz.prog.godebug = none := by kernel_rfl
theorem laidOut : laidOutB Tryz.prog = true := by kernel_rfl
theorem laidMet_tl {P : Program} {W : World} {x : String × DataW Unit} {rest : List (String × DataW Unit)} (h : laidMet P (x :: rest) W) : laidMet P rest W := by
  obtain ⟨ps, hl, hn, hc⟩ := h
  obtain ⟨n, d⟩ := x
  obtain ⟨g, t, cs, fuel, p, q, h1, h2, h3, h4, h5, rfl⟩ := hl
  exact ⟨q, h5, (List.nodup_append.1 hn).2.1, fun b off hm => hc b off (List.mem_append_right _ hm)⟩
theorem gTab : Tryz.prog.globalNamed "math/bits.deBruijn32tab" = some 2 := by kernel_rfl
theorem gTabType : (Tryz.prog.globals[2]?).map (·.type) = some 219 := by kernel_rfl
theorem cellsT : Tryz.prog.cellsOf 219 = 32 := by kernel_rfl
theorem cellsE : Tryz.prog.cellsOf 5 = 1 := by kernel_rfl
theorem gTab0 : Tryz.prog.globalNamed "brushwood/sip.start" = some 0 := by kernel_rfl
theorem gTabType0 : (Tryz.prog.globals[0]?).map (·.type) = some 147 := by kernel_rfl
theorem cellsT0 : Tryz.prog.cellsOf 147 = 4 := by kernel_rfl
theorem cellsE0 : Tryz.prog.cellsOf 133 = 1 := by kernel_rfl
theorem table {W : World} (h : laidMetH Tryz.prog Rows.scanSumsRow.laid W) : Lib.TabIs Tryz.prog W "math/bits.deBruijn32tab" .u8 (Lib.deBruijn32tab.map fun x : Nat => (x : Int)) :=
  Lib.tabIs_of_head (rest := [("brushwood/sip.start", Rows.laid_brushwood_sip_start)]) gTab gTabType Tryz.underlying219 Tryz.underlying5 cellsE cellsT h
theorem table0 {W : World} (h : laidMetH Tryz.prog Rows.scanSumsRow.laid W) : Lib.TabIs Tryz.prog W "brushwood/sip.start" .u64 ([8317987319222330741,7237128888997146477,7816392313619706465,8387220255154660723].map fun x : Nat => (x : Int)) :=
  Lib.tabIs_of_head (rest := []) gTab0 gTabType0 Tryz.underlying147 Tryz.underlying133 cellsE0 cellsT0 (laidMet_tl (P := Tryz.prog) (x := ("math/bits.deBruijn32tab", Rows.laid_math_bits_deBruijn32tab)) (rest := [("brushwood/sip.start", Rows.laid_brushwood_sip_start)]) h)
theorem tabs {W : World} (h : laidMetH Tryz.prog Rows.scanSumsRow.laid W) : Tabs W := by
  have c : ∀ i, i < 32 → W.cell? ⟨2, i, none⟩ = some (.int .u8 (Lib.deBruijn32tab.getD i 0 : Nat)) := by
    intro i hi
    have hl : Lib.deBruijn32tab.length = 32 := by decide
    have hx : (Lib.deBruijn32tab.map fun x : Nat => (x : Int))[i]? = some ((Lib.deBruijn32tab.getD i 0 : Nat) : Int) := by
      rw [List.getElem?_map, List.getElem?_eq_getElem (by omega), List.getD_eq_getElem?_getD, List.getElem?_eq_getElem (by omega)]; rfl
    have := (table h).cell gTab i (by simp; omega)
    simpa [List.getD_eq_getElem?_getD, hx] using this
  have c0 := (table0 h).cell gTab0 0 (by simp)
  have c1 := (table0 h).cell gTab0 1 (by simp)
  have c2 := (table0 h).cell gTab0 2 (by simp)
  have c3 := (table0 h).cell gTab0 3 (by simp)
  simp at c0 c1 c2 c3
  exact ⟨⟨World.block_lt_of_cell? W _ (c 0 (by omega)), c⟩, ⟨World.block_lt_of_cell? W _ c0, c0, c1, c2, c3⟩⟩

def lay2 : Obj → Obj
  | .cells _ t frozen => .cells (Lib.deBruijn32tab.map fun x : Nat => Value.int .u8 x).toArray t frozen
  | o => o
def lay0 : Obj → Obj
  | .cells _ t frozen => .cells ([8317987319222330741,7237128888997146477,7816392313619706465,8387220255154660723].map fun x : Nat => Value.int .u64 x).toArray t frozen
  | o => o
/-- A world for the witness: the settled one, the tables (blocks 2 and 0) holding what their initialisers lay. -/
noncomputable def laidWorld (os : Os) : World :=
  { World.holding Tryz.prog os ⟨#[], #[], []⟩ with heap := ((World.holding Tryz.prog os ⟨#[], #[], []⟩).heap.modify 2 lay2).modify 0 lay0 }
theorem laid_met (os : Os) : laidMet Tryz.prog Rows.scanSumsRow.laid ((laidWorld os).forCall (fun _ _ => 0) ⟨#[], #[.slice none 0 0, .slice none 0 0, .int .u8 0], []⟩).memory :=
  laidMet_of_run' 8 (by kernel_rfl) (by kernel_rfl)
theorem reads (os : Os) {H : Type} (enc : TypeId × Value → H) : ∃ places, DataW.whole enc Tryz.prog ((laidWorld os).forCall (fun _ _ => 0) ⟨#[], #[Value.slice none 0 0, Value.slice none 0 0, Value.int .u8 0], []⟩).memory Tryz.f4.params.toList Rows.scanSumsSpec.vars false #[Value.slice none 0 0, Value.slice none 0 0, Value.int .u8 0].toList 8 = some ([.nil, .nil, .lit (.int .u8 0)], [], places) :=
  ⟨[], by kernel_rfl⟩
set_option maxRecDepth 100000 in
theorem contract (H : Type) (enc : TypeId × Value → H) (W : World) (base : Nat) (args : Array Value) (ds gs : List (DataW H)) (before : List MemPlace)
    (hval : ∀ (j : Nat) t v, Tryz.f4.params[j]? = some t → args[j]? = some v → Value.okWide Tryz.prog W .any base t v)
    (hW : DataW.Whole enc Tryz.prog Tryz.f4.params.toList Rows.scanSumsSpec.vars false W args.toList ds gs before) (hL : laidMetH Tryz.prog Rows.scanSumsRow.laid W) :
    Calls Tryz.prog 4 args W fun e W' => ∃ v, e = .returned v ∧ Rows.scanSumsSpec.post enc Tryz.prog Tryz.f4 false true false false W args v W' := by
  have hW' := hW
  obtain ⟨p, q, hA0, hV, rfl, hfz, hnd⟩ := hW
  have hA : DataW.TrodAll enc Tryz.prog W 0 (fun _ => true) true Tryz.f4.params.toList args.toList ds p := hA0
  rw [Tryz.params4] at hA hval
  obtain ⟨v0, vs0, d0, ds0, p0, q0, hargs, rfl, rfl, h0, r0⟩ := trodAll_cons hA
  obtain ⟨v1, vs1, d1, ds1, p1, q1, rfl, rfl, rfl, h1, r1⟩ := trodAll_cons r0
  obtain ⟨v2, vs2, d2, ds2, p2, q2, rfl, rfl, rfl, h2, r2⟩ := trodAll_cons r1
  obtain ⟨rfl, rfl, rfl⟩ := trodAll_nil r2
  obtain rfl : args = #[v0, v1, v2] := by cases args; simp_all
  obtain ⟨rfl, rfl⟩ := trodVars_none hV
  obtain ⟨a0, len0, cap0, rfl⟩ := okWide_slice Tryz.underlying22 (hval 0 22 v0 rfl rfl)
  have k0 := h0
  have lt0 : ∀ x ∈ p0, x.block < W.heap.size := by obtain ⟨m, hm⟩ := k0; exact DataW.trod_lt m _ _ _ hm
  obtain ⟨L0, hL0⟩ : ∃ L, Ops W a0 len0 L := by
    obtain ⟨fuel, hf⟩ := k0
    exact open_ops hf
  obtain ⟨a1, len1, cap1, rfl⟩ := okWide_slice Tryz.underlying23 (hval 1 23 v1 rfl rfl)
  have k1 := h1
  have lt1 : ∀ x ∈ p1, x.block < W.heap.size := by obtain ⟨m, hm⟩ := k1; exact DataW.trod_lt m _ _ _ hm
  obtain ⟨K1, hK1⟩ : ∃ l, BRaw W (.slice a1 len1 cap1) l := by
    obtain ⟨fuel, hf⟩ := k1
    exact open_raw hf
  obtain ⟨a2, rfl, rfl, rfl, w2⟩ := open_int Tryz.underlying5 (hval 2 5 v2 rfl rfl) h2
  have b2 := bounds_u8 w2
  clear hA0
  refine (scanSums_any a0 len0 cap0 L0 _ K1 a2 W hL0 hK1 (by omega) (tabs hL)).mono fun e W' ⟨he, bel⟩ => ?_
  subst he
  exact ⟨_, rfl, _, _, _, [], _, [], hW', trodAll_mk1 (shut_bool Tryz.underlying4 _), (trodAll_cons_mk (Below.trod laidOut (by kernel_rfl) (of_decide_eq_true (by kernel_rfl)) k0 bel lt0) (trodAll_cons_mk (Below.trod laidOut (by kernel_rfl) (of_decide_eq_true (by kernel_rfl)) k1 bel lt1) (trodAll_cons_mk (shut_int Tryz.underlying5 w2) trodAll_mk0))), rfl, bel.frame _, fun h => by cases h⟩
set_option maxRecDepth 100000 in
theorem lifted (os : Os) (started : os.Started) (H : Type) (enc : TypeId × Value → H) (F : Stop.Interp) :
    ReturnsInHanded {} Tryz.checked os 4 .any ((OpenSpec.ofChange Rows.scanSumsSpec).preRow enc Tryz.prog Tryz.f4 Rows.scanSumsRow.domain false Rows.scanSumsRow.laid) (((OpenSpec.ofChange Rows.scanSumsSpec).at F).post enc Tryz.prog Tryz.f4 false true false false) := by
  obtain ⟨places, hx⟩ := reads os enc
  refine returnsInHanded_of_row (C := Tryz.checked) (s := OpenSpec.ofChange Rows.scanSumsSpec) own started (by kernel_rfl) Tryz.func4
    (witness_row_at (enc := enc) (C := Tryz.checked) false (laidWorld os) #[.slice none 0 0, .slice none 0 0, .int .u8 0] rfl (by kernel_rfl) (by kernel_rfl) (by kernel_rfl)
      (OpenSpec.preRow_of_cond 8 hx (by kernel_rfl) (fun k hk => by cases hk) (by kernel_rfl) (laid_met os))) ?_
  intro W base args ds gs before hval hW _ _ _ hL _ _
  exact contract H enc W base args ds gs before hval hW hL
theorem said : Rows.ScanSumsSaid :=
  OpenClaim.holds_of_cond 4 Tryz.f4 rfl rfl rfl rfl rfl rfl rfl ⟨rfl, rfl, rfl, rfl, rfl⟩ rfl rfl rfl rfl rfl (by kernel_rfl) Tryz.func4 (by kernel_rfl)
    (of_decide_eq_true (by kernel_rfl)) (by unfold Func.isWrapper; first | (rw [if_pos (by decide +kernel)]; kernel_rfl) | (rw [if_neg (by decide +kernel)]; exact ⟨rfl, rfl⟩))
    (fun os started H enc _ F => by rw [OpenClaim.pre_eq_preRow]; exact lifted os started H enc F)
theorem plain (f : FuncId) (fn : Func) (hf : Tryz.pinned.checked.prog.funcNamed Rows.scanSumsRow.func = some f) (hfn : Tryz.pinned.checked.prog.funcs[f]? = some fn) :
    true = Tryz.pinned.checked.prog.looks [] ∧ ∀ (j : Nat) t, fn.params[j]? = some t → Tryz.pinned.checked.prog.wantsStandIn t = false := by
  obtain rfl : f = 4 := Option.some.inj ((show Tryz.prog.funcNamed Rows.scanSumsRow.func = some 4 by kernel_rfl).symm.trans hf) |>.symm
  obtain rfl : fn = Tryz.f4 := (Option.some.inj (Tryz.func4.symm.trans hfn)).symm
  refine ⟨by kernel_rfl, fun j t ht => ?_⟩
  rw [Tryz.params4] at ht
  have hm := Array.mem_of_getElem? ht
  have hall : (#[22, 23, 5] : Array TypeId).all (fun t => Tryz.prog.wantsStandIn t == false) = true := by kernel_rfl
  exact eq_of_beq (Array.all_eq_true'.1 hall t hm)
theorem card : Rows.ScanSumsCardSaid :=
  Claim7.holds_tied_plain_at .later [] _ _ _ _ said (fun _ h => by cases h) (by kernel_rfl) (fun _ h => by cases h) scanSums_row_tie rfl ⟨rfl, rfl⟩ (by kernel_rfl) rfl plain (by kernel_rfl)
#print axioms card
end Go.Proofs.YtphjaebkcimklaaGreatDoor.scanSums
namespace Go.Proofs.YtphjaebkcimklaaGreatDoor
/-- The card, under a short name, for the claim. -/
theorem scanSums_holds : Rows.ScanSumsCardSaid := scanSums.card
end Go.Proofs.YtphjaebkcimklaaGreatDoor
