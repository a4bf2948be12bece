/-
  No cell of these rows narrows 'for every input' (looked for: loops, veiled, ifaces, maps, wideKeys, modest, calm, conditions, laid).
  DERIVED. THE GIVEN ROWS OF THIS SEAT. 6 by the template 'for every input the law returns true; each argument reads behind the call as it read before'; 0 by the template 'total and deterministic' (their statements: YtocideolihbnaaaTotals.lean).
  GIVEN WITH THE SEED: the statements are not yours to turn. If you find one false, say at which input.
  Laid BY PROGRAM, IN A SANDBOX (cutbox-rows.mjs): the forced cells as the released guide's own fill.sh prints them over the translation 8070abc5a8a0f0c1… (all of the seat's roots in one cut). By AI agents, Wed Nov 11 2026. No macro, syntax, notation, axiom, sorry.
-/
import Derived.Test.YtocideolihbnaaaChecked
import GoSem.Claim
import GoSem.ClaimJoined
import GoSem.ClaimMapViews
import Derived.JoinedTies
import Derived.KernelRfl
namespace Go.Proofs.Ytocideolihbnaaa
/- THE CELL 'sum', in the pinned program and in every row, IS THE sha256 OF THE DUMP (.gsa) THAT YtocideolihbnaaaProg.lean LOADS. Nothing in Lean hashes anything: it is a label: what it is worth is what the hold of that sum in a sandbox is worth. -/
noncomputable def Try.pinned : Pinned := { name := "ytocideolihbnaaa", sum := "8070abc5a8a0f0c1e6f58e52058cfbefe9ed4e691375201c971b3b1a51657b8e", checked := Try.checked }
namespace Rows
def none {H : Type} : Left H := { results := [], args := [] }

/-- 'brushwoodlaw04.PairParts': WHATEVER THE INPUT: true; the input reads as it did. -/
def pairPartsSpec : ChangeSpec := { name := "pairParts", fn := fun _ => fun
  | [d1, d2] => { results := [.lit (.bool true)], args := [d1, d2] }
  | _ => none }
def pairPartsRow : OpenClaim := { program := "ytocideolihbnaaa", sum := "8070abc5a8a0f0c1e6f58e52058cfbefe9ed4e691375201c971b3b1a51657b8e", func := "brushwood/brushwoodlaw04.PairParts", spec := "pairParts", inPlace := ["internal/bytealg.Compare"], unfollowed := true, recurses := true, apart := false }
def PairPartsSaid : Prop := pairPartsRow.holds Try.pinned (OpenSpec.ofChange pairPartsSpec)

/-- ITS FALSE NEIGHBOUR: 'it returns false'. Refute it at one input. -/
def pairPartsWrong : ChangeSpec := { name := "pairParts", fn := fun _ => fun
  | [d1, d2] => { results := [.lit (.bool false)], args := [d1, d2] }
  | _ => none }
def PairPartsWrongFalsely : Prop := pairPartsRow.holds Try.pinned (OpenSpec.ofChange pairPartsWrong)

/-- 'brushwoodlaw04.PairOwn': WHATEVER THE INPUT: true; the input reads as it did. -/
def pairOwnSpec : ChangeSpec := { name := "pairOwn", fn := fun _ => fun
  | [d1, d2] => { results := [.lit (.bool true)], args := [d1, d2] }
  | _ => none }
def pairOwnRow : OpenClaim := { program := "ytocideolihbnaaa", sum := "8070abc5a8a0f0c1e6f58e52058cfbefe9ed4e691375201c971b3b1a51657b8e", func := "brushwood/brushwoodlaw04.PairOwn", spec := "pairOwn", inPlace := ["internal/bytealg.Compare"], unfollowed := true, recurses := true, apart := false }
def PairOwnSaid : Prop := pairOwnRow.holds Try.pinned (OpenSpec.ofChange pairOwnSpec)

/-- ITS FALSE NEIGHBOUR: 'it returns false'. Refute it at one input. -/
def pairOwnWrong : ChangeSpec := { name := "pairOwn", fn := fun _ => fun
  | [d1, d2] => { results := [.lit (.bool false)], args := [d1, d2] }
  | _ => none }
def PairOwnWrongFalsely : Prop := pairOwnRow.holds Try.pinned (OpenSpec.ofChange pairOwnWrong)

/-- 'brushwoodlaw04.PairFinds': WHATEVER THE INPUT: true; the input reads as it did. -/
def pairFindsSpec : ChangeSpec := { name := "pairFinds", fn := fun _ => fun
  | [d1, d2] => { results := [.lit (.bool true)], args := [d1, d2] }
  | _ => none }
def pairFindsRow : OpenClaim := { program := "ytocideolihbnaaa", sum := "8070abc5a8a0f0c1e6f58e52058cfbefe9ed4e691375201c971b3b1a51657b8e", func := "brushwood/brushwoodlaw04.PairFinds", spec := "pairFinds", inPlace := ["internal/bytealg.Compare"], unfollowed := true, recurses := true, apart := false }
def PairFindsSaid : Prop := pairFindsRow.holds Try.pinned (OpenSpec.ofChange pairFindsSpec)

/-- ITS FALSE NEIGHBOUR: 'it returns false'. Refute it at one input. -/
def pairFindsWrong : ChangeSpec := { name := "pairFinds", fn := fun _ => fun
  | [d1, d2] => { results := [.lit (.bool false)], args := [d1, d2] }
  | _ => none }
def PairFindsWrongFalsely : Prop := pairFindsRow.holds Try.pinned (OpenSpec.ofChange pairFindsWrong)

/-- 'brushwoodlaw04.PairMaps': WHATEVER THE INPUT: true; the input reads as it did. -/
def pairMapsSpec : ChangeSpec := { name := "pairMaps", fn := fun _ => fun
  | [d] => { results := [.lit (.bool true)], args := [d] }
  | _ => none }
def pairMapsRow : OpenClaim := { program := "ytocideolihbnaaa", sum := "8070abc5a8a0f0c1e6f58e52058cfbefe9ed4e691375201c971b3b1a51657b8e", func := "brushwood/brushwoodlaw04.PairMaps", spec := "pairMaps", inPlace := ["internal/bytealg.Compare"], unfollowed := true, recurses := true, apart := false }
def PairMapsSaid : Prop := pairMapsRow.holds Try.pinned (OpenSpec.ofChange pairMapsSpec)

/-- ITS FALSE NEIGHBOUR: 'it returns false'. Refute it at one input. -/
def pairMapsWrong : ChangeSpec := { name := "pairMaps", fn := fun _ => fun
  | [d] => { results := [.lit (.bool false)], args := [d] }
  | _ => none }
def PairMapsWrongFalsely : Prop := pairMapsRow.holds Try.pinned (OpenSpec.ofChange pairMapsWrong)

/-- 'brushwoodlaw04.PairBig': WHATEVER THE INPUT: true; the input reads as it did. -/
def pairBigSpec : ChangeSpec := { name := "pairBig", fn := fun _ => fun
  | [d1, d2, d3] => { results := [.lit (.bool true)], args := [d1, d2, d3] }
  | _ => none }
def pairBigRow : OpenClaim := { program := "ytocideolihbnaaa", sum := "8070abc5a8a0f0c1e6f58e52058cfbefe9ed4e691375201c971b3b1a51657b8e", func := "brushwood/brushwoodlaw04.PairBig", spec := "pairBig", inPlace := ["internal/bytealg.Compare"], unfollowed := true, recurses := true, apart := false }
def PairBigSaid : Prop := pairBigRow.holds Try.pinned (OpenSpec.ofChange pairBigSpec)

/-- ITS FALSE NEIGHBOUR: 'it returns false'. Refute it at one input. -/
def pairBigWrong : ChangeSpec := { name := "pairBig", fn := fun _ => fun
  | [d1, d2, d3] => { results := [.lit (.bool false)], args := [d1, d2, d3] }
  | _ => none }
def PairBigWrongFalsely : Prop := pairBigRow.holds Try.pinned (OpenSpec.ofChange pairBigWrong)

/-- 'brushwoodlaw04.PairComes': WHATEVER THE INPUT: true; the input reads as it did. -/
def pairComesSpec : ChangeSpec := { name := "pairComes", fn := fun _ => fun
  | [d] => { results := [.lit (.bool true)], args := [d] }
  | _ => none }
def pairComesRow : OpenClaim := { program := "ytocideolihbnaaa", sum := "8070abc5a8a0f0c1e6f58e52058cfbefe9ed4e691375201c971b3b1a51657b8e", func := "brushwood/brushwoodlaw04.PairComes", spec := "pairComes", inPlace := ["internal/bytealg.Compare"], unfollowed := true, recurses := true, apart := false }
def PairComesSaid : Prop := pairComesRow.holds Try.pinned (OpenSpec.ofChange pairComesSpec)

/-- ITS FALSE NEIGHBOUR: 'it returns false'. Refute it at one input. -/
def pairComesWrong : ChangeSpec := { name := "pairComes", fn := fun _ => fun
  | [d] => { results := [.lit (.bool false)], args := [d] }
  | _ => none }
def PairComesWrongFalsely : Prop := pairComesRow.holds Try.pinned (OpenSpec.ofChange pairComesWrong)

/- THE SECOND FORM. 'bulk': how many values and letters a reading holds, each counted each time it is reached (what is shared counts as often as it is met; a slice's spare places count too). A statement '..UptoSaid' is the law's where the arguments, and the package variables that the reading takes, are together of bulk at most 1048576: NARROWER than '..Said'. Prove '..Said' where nothing that the law and all that it calls make is longer than what came in: it says more and counts as full. Else prove '..UptoSaid'. A law counts once. -/
mutual
def uptoBulk {H : Type} : DataW H → Nat
  | .lit (.string bytes) => bytes.length + 1
  | .lit _ => 1
  | .nil => 1
  | .ptr d => uptoBulk d + 1
  | .slice elems spare => uptoBulkAll elems + uptoBulkAll spare + 1
  | .agg parts => uptoBulkAll parts + 1
  | .iface _ d => uptoBulk d + 1
  | .map entries => uptoBulkEntries entries + 1
  | .held _ => 1
def uptoBulkAll {H : Type} : List (DataW H) → Nat
  | [] => 0
  | d :: r => uptoBulk d + uptoBulkAll r
def uptoBulkEntries {H : Type} : List (Lit × DataW H) → Nat
  | [] => 0
  | x :: r => uptoBulkEntry x + uptoBulkEntries r
def uptoBulkEntry {H : Type} : Lit × DataW H → Nat
  | (.string bytes, d) => bytes.length + uptoBulk d + 1
  | (_, d) => uptoBulk d + 1
 end
def uptoSmall : (H : Type) → List (DataW H) → Bool := fun _ ds => decide (uptoBulkAll ds ≤ 1048576)
def OpenSpec.upto (s : _root_.Go.ChangeSpec) : _root_.Go.OpenSpec := { _root_.Go.OpenSpec.ofChange s with cond := some uptoSmall }

/-- 'brushwoodlaw04.PairParts', WHERE WHAT IT READS IS OF BULK AT MOST 1048576: true; the input reads as it did. -/
def pairPartsUptoRow : OpenClaim := { program := "ytocideolihbnaaa", sum := "8070abc5a8a0f0c1e6f58e52058cfbefe9ed4e691375201c971b3b1a51657b8e", func := "brushwood/brushwoodlaw04.PairParts", spec := "pairParts", inPlace := ["internal/bytealg.Compare"], unfollowed := true, recurses := true, apart := false, narrowed := true }
def PairPartsUptoSaid : Prop := pairPartsUptoRow.holds Try.pinned (OpenSpec.upto pairPartsSpec)

/-- 'brushwoodlaw04.PairOwn', WHERE WHAT IT READS IS OF BULK AT MOST 1048576: true; the input reads as it did. -/
def pairOwnUptoRow : OpenClaim := { program := "ytocideolihbnaaa", sum := "8070abc5a8a0f0c1e6f58e52058cfbefe9ed4e691375201c971b3b1a51657b8e", func := "brushwood/brushwoodlaw04.PairOwn", spec := "pairOwn", inPlace := ["internal/bytealg.Compare"], unfollowed := true, recurses := true, apart := false, narrowed := true }
def PairOwnUptoSaid : Prop := pairOwnUptoRow.holds Try.pinned (OpenSpec.upto pairOwnSpec)

/-- 'brushwoodlaw04.PairFinds', WHERE WHAT IT READS IS OF BULK AT MOST 1048576: true; the input reads as it did. -/
def pairFindsUptoRow : OpenClaim := { program := "ytocideolihbnaaa", sum := "8070abc5a8a0f0c1e6f58e52058cfbefe9ed4e691375201c971b3b1a51657b8e", func := "brushwood/brushwoodlaw04.PairFinds", spec := "pairFinds", inPlace := ["internal/bytealg.Compare"], unfollowed := true, recurses := true, apart := false, narrowed := true }
def PairFindsUptoSaid : Prop := pairFindsUptoRow.holds Try.pinned (OpenSpec.upto pairFindsSpec)

/-- 'brushwoodlaw04.PairMaps', WHERE WHAT IT READS IS OF BULK AT MOST 1048576: true; the input reads as it did. -/
def pairMapsUptoRow : OpenClaim := { program := "ytocideolihbnaaa", sum := "8070abc5a8a0f0c1e6f58e52058cfbefe9ed4e691375201c971b3b1a51657b8e", func := "brushwood/brushwoodlaw04.PairMaps", spec := "pairMaps", inPlace := ["internal/bytealg.Compare"], unfollowed := true, recurses := true, apart := false, narrowed := true }
def PairMapsUptoSaid : Prop := pairMapsUptoRow.holds Try.pinned (OpenSpec.upto pairMapsSpec)

/-- 'brushwoodlaw04.PairBig', WHERE WHAT IT READS IS OF BULK AT MOST 1048576: true; the input reads as it did. -/
def pairBigUptoRow : OpenClaim := { program := "ytocideolihbnaaa", sum := "8070abc5a8a0f0c1e6f58e52058cfbefe9ed4e691375201c971b3b1a51657b8e", func := "brushwood/brushwoodlaw04.PairBig", spec := "pairBig", inPlace := ["internal/bytealg.Compare"], unfollowed := true, recurses := true, apart := false, narrowed := true }
def PairBigUptoSaid : Prop := pairBigUptoRow.holds Try.pinned (OpenSpec.upto pairBigSpec)

/-- 'brushwoodlaw04.PairComes', WHERE WHAT IT READS IS OF BULK AT MOST 1048576: true; the input reads as it did. -/
def pairComesUptoRow : OpenClaim := { program := "ytocideolihbnaaa", sum := "8070abc5a8a0f0c1e6f58e52058cfbefe9ed4e691375201c971b3b1a51657b8e", func := "brushwood/brushwoodlaw04.PairComes", spec := "pairComes", inPlace := ["internal/bytealg.Compare"], unfollowed := true, recurses := true, apart := false, narrowed := true }
def PairComesUptoSaid : Prop := pairComesUptoRow.holds Try.pinned (OpenSpec.upto pairComesSpec)

end Rows
end Go.Proofs.Ytocideolihbnaaa
