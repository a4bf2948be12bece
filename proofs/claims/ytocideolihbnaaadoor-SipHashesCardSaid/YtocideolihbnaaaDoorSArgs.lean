/- Arguments that are arrays of numbers, opened: a seed of sixteen bytes, a state of four numbers. -/
import Derived.Test.YtocideolihbnaaaDoorSAwake
import Derived.OpenShut
import Derived.WideShapes
set_option linter.unusedVariables false
set_option linter.unusedSimpArgs false
namespace Go.Proofs.YtocideolihbnaaaDoor
open Go.RowKit Go.WideShapes

def numAt (cs : Array Value) (i : Nat) : Int :=
  match cs[i]? with
  | some (Value.int _ z) => z
  | _ => 0
section
variable {H : Type} {enc : TypeId × Value → H} {P : Program} {w : World} {base : Nat} {spare : Nat → Bool} {held : Bool} {t e : TypeId} {v : Value} {d : DataW H} {p : List MemPlace} {r : Reach} {b0 n : Nat} {k : IntKind}
theorem okWide_array (ht : P.underlying t = some (.array n e)) (h : Value.okWide P w r b0 t v) : ∃ cs, v = .agg cs ∧ cs.size = P.cellsOf t := by
  simp only [Value.okWide, ht] at h
  obtain ⟨cs, h1, h2, _⟩ := h
  exact ⟨cs, h1, h2⟩
theorem open_arrI (ht : P.underlying t = some (.array n e)) (he : P.underlying e = some (.int k)) (hce : P.cellsOf e = 1) (hct : P.cellsOf t = n)
    (hv : Value.okWide P w r b0 t v) (h : DataW.Trod enc P w base spare held t v d p) :
    ∃ zs : List Int, v = .agg (zs.map (Value.int k)).toArray ∧ zs.length = n ∧ ∀ z ∈ zs, (Lit.int k z).wf = true := by
  obtain ⟨cs, rfl, hs⟩ := okWide_array ht hv
  obtain ⟨fuel, hf⟩ := h
  obtain ⟨xs, m, rfl, _, hl, hxl, hx⟩ := DataW.trod_array ht hf
  rw [hct] at hs
  have each : ∀ i, i < n → ∃ z, cs[i]? = some (.int k z) ∧ (Lit.int k z).wf = true := by
    intro i hi
    have h1 := hx i hi
    rw [hce, Nat.mul_one, List.getElem?_eq_getElem (by omega)] at h1
    obtain ⟨z, hz, _, hw⟩ := DataW.trod_int he h1
    refine ⟨z, ?_, hw⟩
    have h2 : ((Value.cells (.agg cs)).toList.drop i).take 1 = [Value.int k z] := by simpa using hz
    have h3 := congrArg (fun l : List Value => l[0]?) h2
    simpa [Value.cells, List.getElem?_take, List.getElem?_drop] using h3
  refine ⟨(List.range n).map fun i => numAt cs i, ?_, by simp, ?_⟩
  · congr 1
    apply Array.ext_getElem?
    intro i
    by_cases hi : i < n
    · obtain ⟨z, hz, _⟩ := each i hi
      simp [List.getElem?_map, List.getElem?_range hi, hz, numAt]
    · rw [Array.getElem?_eq_none (by omega), Array.getElem?_eq_none (by simp; omega)]
  · intro z hz
    simp only [List.mem_map, List.mem_range] at hz
    obtain ⟨i, hi, rfl⟩ := hz
    obtain ⟨z, hz, hw⟩ := each i hi
    unfold numAt
    rw [hz]
    exact hw
end

theorem cells23 : Tryd.prog.cellsOf 23 = 16 := by kernel_rfl
theorem cells31 : Tryd.prog.cellsOf 31 = 4 := by kernel_rfl
theorem cells5 : Tryd.prog.cellsOf 5 = 1 := by kernel_rfl
theorem cells26 : Tryd.prog.cellsOf 26 = 1 := by kernel_rfl

theorem wf_u8 {z : Int} (h : (Lit.int .u8 z).wf = true) : 0 ≤ z ∧ z < 256 := by
  simp [Lit.wf, IntKind.min, IntKind.max, IntKind.signed, IntKind.bits] at h; omega
theorem wf_u64 {z : Int} (h : (Lit.int .u64 z).wf = true) : 0 ≤ z ∧ z < 18446744073709551616 := by
  simp [Lit.wf, IntKind.min, IntKind.max, IntKind.signed, IntKind.bits] at h; omega
theorem row_of {zs : List Int} (h : ∀ z ∈ zs, (Lit.int .u8 z).wf = true) : ∃ l : List UInt8, l.length = zs.length ∧ rowOf l = (zs.map (Value.int .u8)).toArray := by
  refine ⟨zs.map fun z => UInt8.ofNat z.toNat, by simp, ?_⟩
  unfold rowOf
  congr 1
  rw [List.map_map]
  apply List.map_congr_left
  intro z hz
  have := wf_u8 (h z hz)
  simp only [Function.comp, Value.int.injEq, true_and]
  rw [UInt8.toNat_ofNat']
  omega

section
variable {H : Type} {enc : TypeId × Value → H} {w : World} {base : Nat} {spare : Nat → Bool} {held : Bool} {v : Value} {d : DataW H} {p : List MemPlace} {r : Reach} {b0 : Nat}
theorem open_seed (hv : Value.okWide Tryd.prog w r b0 23 v) (h : DataW.Trod enc Tryd.prog w base spare held 23 v d p) : ∃ l : List UInt8, v = .agg (rowOf l) ∧ l.length = 16 := by
  obtain ⟨zs, rfl, hl, hw⟩ := open_arrI Tryd.underlying23 Tryd.underlying5 cells5 cells23 hv h
  obtain ⟨l, h1, h2⟩ := row_of hw
  exact ⟨l, by rw [h2], by omega⟩
theorem open_st (hv : Value.okWide Tryd.prog w r b0 31 v) (h : DataW.Trod enc Tryd.prog w base spare held 31 v d p) : ∃ x : St, v = x.v ∧ x.ok := by
  obtain ⟨zs, rfl, hl, hw⟩ := open_arrI Tryd.underlying31 Tryd.underlying26 cells26 cells31 hv h
  match zs, hl, hw with
  | [p, q, r, s], _, hw =>
    have h0 := wf_u64 (hw p (by simp))
    have h1 := wf_u64 (hw q (by simp))
    have h2 := wf_u64 (hw r (by simp))
    have h3 := wf_u64 (hw s (by simp))
    obtain ⟨p, rfl⟩ := Int.eq_ofNat_of_zero_le h0.1
    obtain ⟨q, rfl⟩ := Int.eq_ofNat_of_zero_le h1.1
    obtain ⟨r, rfl⟩ := Int.eq_ofNat_of_zero_le h2.1
    obtain ⟨s, rfl⟩ := Int.eq_ofNat_of_zero_le h3.1
    exact ⟨⟨p, q, r, s⟩, rfl, by dsimp only; omega, by dsimp only; omega, by dsimp only; omega, by dsimp only; omega⟩
end

end Go.Proofs.YtocideolihbnaaaDoor
