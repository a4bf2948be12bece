/-
  No cell of these rows narrows 'for every input' (looked for: loops, veiled, ifaces, maps, wideKeys, modest, calm, conditions, laid).
  DERIVED. THE GIVEN ROWS OF THIS SEAT. 10 by the template 'for every input the law returns true; each argument reads behind the call as it read before'; 0 by the template 'total and deterministic' (their statements: YtlnlgahokifolaaTotals.lean).
  GIVEN WITH THE SEED: the statements are not yours to turn. If you find one false, say at which input.
  Laid BY PROGRAM, IN A SANDBOX (cutbox-rows.mjs): the forced cells as the released guide's own fill.sh prints them over the translation ae822440fc165d53… (all of the seat's roots in one cut). By AI agents, Wed Nov 11 2026. No macro, syntax, notation, axiom, sorry.
-/
import Derived.Test.YtlnlgahokifolaaChecked
import GoSem.Claim
import GoSem.ClaimJoined
import GoSem.ClaimMapViews
import Derived.JoinedTies
import Derived.KernelRfl
namespace Go.Proofs.Ytlnlgahokifolaa
/- THE CELL 'sum', in the pinned program and in every row, IS THE sha256 OF THE DUMP (.gsa) THAT YtlnlgahokifolaaProg.lean LOADS. Nothing in Lean hashes anything: it is a label: what it is worth is what the hold of that sum in a sandbox is worth. -/
noncomputable def Try.pinned : Pinned := { name := "ytlnlgahokifolaa", sum := "ae822440fc165d5335ca4348a50c72d0e6941d26a8e87cbaa6e68e460cb7f329", checked := Try.checked }
namespace Rows
def none {H : Type} : Left H := { results := [], args := [] }

/-- 'brushwoodlaw11.TreePlays': WHATEVER THE INPUT: true; the input reads as it did. -/
def treePlaysSpec : ChangeSpec := { name := "treePlays", fn := fun _ => fun
  | [d] => { results := [.lit (.bool true)], args := [d] }
  | _ => none }
def treePlaysRow : OpenClaim := { program := "ytlnlgahokifolaa", sum := "ae822440fc165d5335ca4348a50c72d0e6941d26a8e87cbaa6e68e460cb7f329", func := "brushwood/brushwoodlaw11.TreePlays", spec := "treePlays", inPlace := ["internal/bytealg.Compare"], unfollowed := true, recurses := true, apart := false }
def TreePlaysSaid : Prop := treePlaysRow.holds Try.pinned (OpenSpec.ofChange treePlaysSpec)

/-- ITS FALSE NEIGHBOUR: 'it returns false'. Refute it at one input. -/
def treePlaysWrong : ChangeSpec := { name := "treePlays", fn := fun _ => fun
  | [d] => { results := [.lit (.bool false)], args := [d] }
  | _ => none }
def TreePlaysWrongFalsely : Prop := treePlaysRow.holds Try.pinned (OpenSpec.ofChange treePlaysWrong)

/-- 'brushwoodlaw11.TreeStays': WHATEVER THE INPUT: true; the input reads as it did. -/
def treeStaysSpec : ChangeSpec := { name := "treeStays", fn := fun _ => fun
  | [d] => { results := [.lit (.bool true)], args := [d] }
  | _ => none }
def treeStaysRow : OpenClaim := { program := "ytlnlgahokifolaa", sum := "ae822440fc165d5335ca4348a50c72d0e6941d26a8e87cbaa6e68e460cb7f329", func := "brushwood/brushwoodlaw11.TreeStays", spec := "treeStays", inPlace := ["internal/bytealg.Compare"], unfollowed := true, recurses := true, apart := false }
def TreeStaysSaid : Prop := treeStaysRow.holds Try.pinned (OpenSpec.ofChange treeStaysSpec)

/-- ITS FALSE NEIGHBOUR: 'it returns false'. Refute it at one input. -/
def treeStaysWrong : ChangeSpec := { name := "treeStays", fn := fun _ => fun
  | [d] => { results := [.lit (.bool false)], args := [d] }
  | _ => none }
def TreeStaysWrongFalsely : Prop := treeStaysRow.holds Try.pinned (OpenSpec.ofChange treeStaysWrong)

/-- 'brushwoodlaw11.TreeMeters': WHATEVER THE INPUT: true; the input reads as it did. -/
def treeMetersSpec : ChangeSpec := { name := "treeMeters", fn := fun _ => fun
  | [d] => { results := [.lit (.bool true)], args := [d] }
  | _ => none }
def treeMetersRow : OpenClaim := { program := "ytlnlgahokifolaa", sum := "ae822440fc165d5335ca4348a50c72d0e6941d26a8e87cbaa6e68e460cb7f329", func := "brushwood/brushwoodlaw11.TreeMeters", spec := "treeMeters", inPlace := ["internal/bytealg.Compare"], unfollowed := true, recurses := true, apart := false }
def TreeMetersSaid : Prop := treeMetersRow.holds Try.pinned (OpenSpec.ofChange treeMetersSpec)

/-- ITS FALSE NEIGHBOUR: 'it returns false'. Refute it at one input. -/
def treeMetersWrong : ChangeSpec := { name := "treeMeters", fn := fun _ => fun
  | [d] => { results := [.lit (.bool false)], args := [d] }
  | _ => none }
def TreeMetersWrongFalsely : Prop := treeMetersRow.holds Try.pinned (OpenSpec.ofChange treeMetersWrong)

/-- 'brushwoodlaw11.TreeParts': WHATEVER THE INPUT: true; the input reads as it did. -/
def treePartsSpec : ChangeSpec := { name := "treeParts", fn := fun _ => fun
  | [d] => { results := [.lit (.bool true)], args := [d] }
  | _ => none }
def treePartsRow : OpenClaim := { program := "ytlnlgahokifolaa", sum := "ae822440fc165d5335ca4348a50c72d0e6941d26a8e87cbaa6e68e460cb7f329", func := "brushwood/brushwoodlaw11.TreeParts", spec := "treeParts", inPlace := ["internal/bytealg.Compare"], unfollowed := true, recurses := true, apart := false }
def TreePartsSaid : Prop := treePartsRow.holds Try.pinned (OpenSpec.ofChange treePartsSpec)

/-- ITS FALSE NEIGHBOUR: 'it returns false'. Refute it at one input. -/
def treePartsWrong : ChangeSpec := { name := "treeParts", fn := fun _ => fun
  | [d] => { results := [.lit (.bool false)], args := [d] }
  | _ => none }
def TreePartsWrongFalsely : Prop := treePartsRow.holds Try.pinned (OpenSpec.ofChange treePartsWrong)

/-- 'brushwoodlaw11.TreeJoins': WHATEVER THE INPUT: true; the input reads as it did. -/
def treeJoinsSpec : ChangeSpec := { name := "treeJoins", fn := fun _ => fun
  | [d1, d2] => { results := [.lit (.bool true)], args := [d1, d2] }
  | _ => none }
def treeJoinsRow : OpenClaim := { program := "ytlnlgahokifolaa", sum := "ae822440fc165d5335ca4348a50c72d0e6941d26a8e87cbaa6e68e460cb7f329", func := "brushwood/brushwoodlaw11.TreeJoins", spec := "treeJoins", inPlace := ["internal/bytealg.Compare"], unfollowed := true, recurses := true, apart := false }
def TreeJoinsSaid : Prop := treeJoinsRow.holds Try.pinned (OpenSpec.ofChange treeJoinsSpec)

/-- ITS FALSE NEIGHBOUR: 'it returns false'. Refute it at one input. -/
def treeJoinsWrong : ChangeSpec := { name := "treeJoins", fn := fun _ => fun
  | [d1, d2] => { results := [.lit (.bool false)], args := [d1, d2] }
  | _ => none }
def TreeJoinsWrongFalsely : Prop := treeJoinsRow.holds Try.pinned (OpenSpec.ofChange treeJoinsWrong)

/-- 'brushwoodlaw11.TreeFrom': WHATEVER THE INPUT: true; the input reads as it did. -/
def treeFromSpec : ChangeSpec := { name := "treeFrom", fn := fun _ => fun
  | [d] => { results := [.lit (.bool true)], args := [d] }
  | _ => none }
def treeFromRow : OpenClaim := { program := "ytlnlgahokifolaa", sum := "ae822440fc165d5335ca4348a50c72d0e6941d26a8e87cbaa6e68e460cb7f329", func := "brushwood/brushwoodlaw11.TreeFrom", spec := "treeFrom", inPlace := ["internal/bytealg.Compare"], unfollowed := true, recurses := true, apart := false }
def TreeFromSaid : Prop := treeFromRow.holds Try.pinned (OpenSpec.ofChange treeFromSpec)

/-- ITS FALSE NEIGHBOUR: 'it returns false'. Refute it at one input. -/
def treeFromWrong : ChangeSpec := { name := "treeFrom", fn := fun _ => fun
  | [d] => { results := [.lit (.bool false)], args := [d] }
  | _ => none }
def TreeFromWrongFalsely : Prop := treeFromRow.holds Try.pinned (OpenSpec.ofChange treeFromWrong)

/-- 'brushwoodlaw12.RankTells': WHATEVER THE INPUT: true; the input reads as it did. -/
def rankTellsSpec : ChangeSpec := { name := "rankTells", fn := fun _ => fun
  | [d1, d2] => { results := [.lit (.bool true)], args := [d1, d2] }
  | _ => none }
def rankTellsRow : OpenClaim := { program := "ytlnlgahokifolaa", sum := "ae822440fc165d5335ca4348a50c72d0e6941d26a8e87cbaa6e68e460cb7f329", func := "brushwood/brushwoodlaw12.RankTells", spec := "rankTells", inPlace := ["internal/bytealg.Compare"], unfollowed := true, recurses := true, apart := false }
def RankTellsSaid : Prop := rankTellsRow.holds Try.pinned (OpenSpec.ofChange rankTellsSpec)

/-- ITS FALSE NEIGHBOUR: 'it returns false'. Refute it at one input. -/
def rankTellsWrong : ChangeSpec := { name := "rankTells", fn := fun _ => fun
  | [d1, d2] => { results := [.lit (.bool false)], args := [d1, d2] }
  | _ => none }
def RankTellsWrongFalsely : Prop := rankTellsRow.holds Try.pinned (OpenSpec.ofChange rankTellsWrong)

/-- 'brushwoodlaw12.RankBack': WHATEVER THE INPUT: true; the input reads as it did. -/
def rankBackSpec : ChangeSpec := { name := "rankBack", fn := fun _ => fun
  | [d] => { results := [.lit (.bool true)], args := [d] }
  | _ => none }
def rankBackRow : OpenClaim := { program := "ytlnlgahokifolaa", sum := "ae822440fc165d5335ca4348a50c72d0e6941d26a8e87cbaa6e68e460cb7f329", func := "brushwood/brushwoodlaw12.RankBack", spec := "rankBack", inPlace := ["internal/bytealg.Compare"], unfollowed := true, recurses := true, apart := false }
def RankBackSaid : Prop := rankBackRow.holds Try.pinned (OpenSpec.ofChange rankBackSpec)

/-- ITS FALSE NEIGHBOUR: 'it returns false'. Refute it at one input. -/
def rankBackWrong : ChangeSpec := { name := "rankBack", fn := fun _ => fun
  | [d] => { results := [.lit (.bool false)], args := [d] }
  | _ => none }
def RankBackWrongFalsely : Prop := rankBackRow.holds Try.pinned (OpenSpec.ofChange rankBackWrong)

/-- 'brushwoodlaw12.RankRises': WHATEVER THE INPUT: true; the input reads as it did. -/
def rankRisesSpec : ChangeSpec := { name := "rankRises", fn := fun _ => fun
  | [d1, d2, d3] => { results := [.lit (.bool true)], args := [d1, d2, d3] }
  | _ => none }
def rankRisesRow : OpenClaim := { program := "ytlnlgahokifolaa", sum := "ae822440fc165d5335ca4348a50c72d0e6941d26a8e87cbaa6e68e460cb7f329", func := "brushwood/brushwoodlaw12.RankRises", spec := "rankRises", inPlace := ["internal/bytealg.Compare"], unfollowed := true, recurses := true, apart := false }
def RankRisesSaid : Prop := rankRisesRow.holds Try.pinned (OpenSpec.ofChange rankRisesSpec)

/-- ITS FALSE NEIGHBOUR: 'it returns false'. Refute it at one input. -/
def rankRisesWrong : ChangeSpec := { name := "rankRises", fn := fun _ => fun
  | [d1, d2, d3] => { results := [.lit (.bool false)], args := [d1, d2, d3] }
  | _ => none }
def RankRisesWrongFalsely : Prop := rankRisesRow.holds Try.pinned (OpenSpec.ofChange rankRisesWrong)

/-- 'brushwoodlaw12.RankAt': WHATEVER THE INPUT: true; the input reads as it did. -/
def rankAtSpec : ChangeSpec := { name := "rankAt", fn := fun _ => fun
  | [d1, d2] => { results := [.lit (.bool true)], args := [d1, d2] }
  | _ => none }
def rankAtRow : OpenClaim := { program := "ytlnlgahokifolaa", sum := "ae822440fc165d5335ca4348a50c72d0e6941d26a8e87cbaa6e68e460cb7f329", func := "brushwood/brushwoodlaw12.RankAt", spec := "rankAt", inPlace := ["internal/bytealg.Compare"], unfollowed := true, recurses := true, apart := false }
def RankAtSaid : Prop := rankAtRow.holds Try.pinned (OpenSpec.ofChange rankAtSpec)

/-- ITS FALSE NEIGHBOUR: 'it returns false'. Refute it at one input. -/
def rankAtWrong : ChangeSpec := { name := "rankAt", fn := fun _ => fun
  | [d1, d2] => { results := [.lit (.bool false)], args := [d1, d2] }
  | _ => none }
def RankAtWrongFalsely : Prop := rankAtRow.holds Try.pinned (OpenSpec.ofChange rankAtWrong)

/- THE SECOND FORM. 'bulk': how many values and letters a reading holds, each counted each time it is reached (what is shared counts as often as it is met; a slice's spare places count too). A statement '..UptoSaid' is the law's where the arguments, and the package variables that the reading takes, are together of bulk at most 1048576: NARROWER than '..Said'. Prove '..Said' where nothing that the law and all that it calls make is longer than what came in: it says more and counts as full. Else prove '..UptoSaid'. A law counts once. -/
mutual
def uptoBulk {H : Type} : DataW H → Nat
  | .lit (.string bytes) => bytes.length + 1
  | .lit _ => 1
  | .nil => 1
  | .ptr d => uptoBulk d + 1
  | .slice elems spare => uptoBulkAll elems + uptoBulkAll spare + 1
  | .agg parts => uptoBulkAll parts + 1
  | .iface _ d => uptoBulk d + 1
  | .map entries => uptoBulkEntries entries + 1
  | .held _ => 1
def uptoBulkAll {H : Type} : List (DataW H) → Nat
  | [] => 0
  | d :: r => uptoBulk d + uptoBulkAll r
def uptoBulkEntries {H : Type} : List (Lit × DataW H) → Nat
  | [] => 0
  | x :: r => uptoBulkEntry x + uptoBulkEntries r
def uptoBulkEntry {H : Type} : Lit × DataW H → Nat
  | (.string bytes, d) => bytes.length + uptoBulk d + 1
  | (_, d) => uptoBulk d + 1
 end
def uptoSmall : (H : Type) → List (DataW H) → Bool := fun _ ds => decide (uptoBulkAll ds ≤ 1048576)
def OpenSpec.upto (s : _root_.Go.ChangeSpec) : _root_.Go.OpenSpec := { _root_.Go.OpenSpec.ofChange s with cond := some uptoSmall }

/-- 'brushwoodlaw11.TreePlays', WHERE WHAT IT READS IS OF BULK AT MOST 1048576: true; the input reads as it did. -/
def treePlaysUptoRow : OpenClaim := { program := "ytlnlgahokifolaa", sum := "ae822440fc165d5335ca4348a50c72d0e6941d26a8e87cbaa6e68e460cb7f329", func := "brushwood/brushwoodlaw11.TreePlays", spec := "treePlays", inPlace := ["internal/bytealg.Compare"], unfollowed := true, recurses := true, apart := false, narrowed := true }
def TreePlaysUptoSaid : Prop := treePlaysUptoRow.holds Try.pinned (OpenSpec.upto treePlaysSpec)

/-- 'brushwoodlaw11.TreeStays', WHERE WHAT IT READS IS OF BULK AT MOST 1048576: true; the input reads as it did. -/
def treeStaysUptoRow : OpenClaim := { program := "ytlnlgahokifolaa", sum := "ae822440fc165d5335ca4348a50c72d0e6941d26a8e87cbaa6e68e460cb7f329", func := "brushwood/brushwoodlaw11.TreeStays", spec := "treeStays", inPlace := ["internal/bytealg.Compare"], unfollowed := true, recurses := true, apart := false, narrowed := true }
def TreeStaysUptoSaid : Prop := treeStaysUptoRow.holds Try.pinned (OpenSpec.upto treeStaysSpec)

/-- 'brushwoodlaw11.TreeMeters', WHERE WHAT IT READS IS OF BULK AT MOST 1048576: true; the input reads as it did. -/
def treeMetersUptoRow : OpenClaim := { program := "ytlnlgahokifolaa", sum := "ae822440fc165d5335ca4348a50c72d0e6941d26a8e87cbaa6e68e460cb7f329", func := "brushwood/brushwoodlaw11.TreeMeters", spec := "treeMeters", inPlace := ["internal/bytealg.Compare"], unfollowed := true, recurses := true, apart := false, narrowed := true }
def TreeMetersUptoSaid : Prop := treeMetersUptoRow.holds Try.pinned (OpenSpec.upto treeMetersSpec)

/-- 'brushwoodlaw11.TreeParts', WHERE WHAT IT READS IS OF BULK AT MOST 1048576: true; the input reads as it did. -/
def treePartsUptoRow : OpenClaim := { program := "ytlnlgahokifolaa", sum := "ae822440fc165d5335ca4348a50c72d0e6941d26a8e87cbaa6e68e460cb7f329", func := "brushwood/brushwoodlaw11.TreeParts", spec := "treeParts", inPlace := ["internal/bytealg.Compare"], unfollowed := true, recurses := true, apart := false, narrowed := true }
def TreePartsUptoSaid : Prop := treePartsUptoRow.holds Try.pinned (OpenSpec.upto treePartsSpec)

/-- 'brushwoodlaw11.TreeJoins', WHERE WHAT IT READS IS OF BULK AT MOST 1048576: true; the input reads as it did. -/
def treeJoinsUptoRow : OpenClaim := { program := "ytlnlgahokifolaa", sum := "ae822440fc165d5335ca4348a50c72d0e6941d26a8e87cbaa6e68e460cb7f329", func := "brushwood/brushwoodlaw11.TreeJoins", spec := "treeJoins", inPlace := ["internal/bytealg.Compare"], unfollowed := true, recurses := true, apart := false, narrowed := true }
def TreeJoinsUptoSaid : Prop := treeJoinsUptoRow.holds Try.pinned (OpenSpec.upto treeJoinsSpec)

/-- 'brushwoodlaw11.TreeFrom', WHERE WHAT IT READS IS OF BULK AT MOST 1048576: true; the input reads as it did. -/
def treeFromUptoRow : OpenClaim := { program := "ytlnlgahokifolaa", sum := "ae822440fc165d5335ca4348a50c72d0e6941d26a8e87cbaa6e68e460cb7f329", func := "brushwood/brushwoodlaw11.TreeFrom", spec := "treeFrom", inPlace := ["internal/bytealg.Compare"], unfollowed := true, recurses := true, apart := false, narrowed := true }
def TreeFromUptoSaid : Prop := treeFromUptoRow.holds Try.pinned (OpenSpec.upto treeFromSpec)

/-- 'brushwoodlaw12.RankTells', WHERE WHAT IT READS IS OF BULK AT MOST 1048576: true; the input reads as it did. -/
def rankTellsUptoRow : OpenClaim := { program := "ytlnlgahokifolaa", sum := "ae822440fc165d5335ca4348a50c72d0e6941d26a8e87cbaa6e68e460cb7f329", func := "brushwood/brushwoodlaw12.RankTells", spec := "rankTells", inPlace := ["internal/bytealg.Compare"], unfollowed := true, recurses := true, apart := false, narrowed := true }
def RankTellsUptoSaid : Prop := rankTellsUptoRow.holds Try.pinned (OpenSpec.upto rankTellsSpec)

/-- 'brushwoodlaw12.RankBack', WHERE WHAT IT READS IS OF BULK AT MOST 1048576: true; the input reads as it did. -/
def rankBackUptoRow : OpenClaim := { program := "ytlnlgahokifolaa", sum := "ae822440fc165d5335ca4348a50c72d0e6941d26a8e87cbaa6e68e460cb7f329", func := "brushwood/brushwoodlaw12.RankBack", spec := "rankBack", inPlace := ["internal/bytealg.Compare"], unfollowed := true, recurses := true, apart := false, narrowed := true }
def RankBackUptoSaid : Prop := rankBackUptoRow.holds Try.pinned (OpenSpec.upto rankBackSpec)

/-- 'brushwoodlaw12.RankRises', WHERE WHAT IT READS IS OF BULK AT MOST 1048576: true; the input reads as it did. -/
def rankRisesUptoRow : OpenClaim := { program := "ytlnlgahokifolaa", sum := "ae822440fc165d5335ca4348a50c72d0e6941d26a8e87cbaa6e68e460cb7f329", func := "brushwood/brushwoodlaw12.RankRises", spec := "rankRises", inPlace := ["internal/bytealg.Compare"], unfollowed := true, recurses := true, apart := false, narrowed := true }
def RankRisesUptoSaid : Prop := rankRisesUptoRow.holds Try.pinned (OpenSpec.upto rankRisesSpec)

/-- 'brushwoodlaw12.RankAt', WHERE WHAT IT READS IS OF BULK AT MOST 1048576: true; the input reads as it did. -/
def rankAtUptoRow : OpenClaim := { program := "ytlnlgahokifolaa", sum := "ae822440fc165d5335ca4348a50c72d0e6941d26a8e87cbaa6e68e460cb7f329", func := "brushwood/brushwoodlaw12.RankAt", spec := "rankAt", inPlace := ["internal/bytealg.Compare"], unfollowed := true, recurses := true, apart := false, narrowed := true }
def RankAtUptoSaid : Prop := rankAtUptoRow.holds Try.pinned (OpenSpec.upto rankAtSpec)

end Rows
end Go.Proofs.Ytlnlgahokifolaa
