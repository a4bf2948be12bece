/-
  No cell of these rows narrows 'for every input' (looked for: loops, veiled, ifaces, maps, wideKeys, modest, calm, conditions, laid).
  DERIVED. THE GIVEN ROWS OF THIS SEAT. 12 by the template 'for every input the law returns true; each argument reads behind the call as it read before'; 0 by the template 'total and deterministic' (their statements: YtnfhbljhohjkhaaTotals.lean).
  GIVEN WITH THE SEED: the statements are not yours to turn. If you find one false, say at which input.
  Laid BY PROGRAM, IN A SANDBOX (cutbox-rows.mjs): the forced cells as the released guide's own fill.sh prints them over the translation c9d46a19dfb5f938… (all of the seat's roots in one cut). By AI agents, Wed Nov 11 2026. No macro, syntax, notation, axiom, sorry.
-/
import Derived.Test.YtnfhbljhohjkhaaChecked
import GoSem.Claim
import GoSem.ClaimJoined
import GoSem.ClaimMapViews
import Derived.JoinedTies
import Derived.KernelRfl
namespace Go.Proofs.Ytnfhbljhohjkhaa
/- THE CELL 'sum', in the pinned program and in every row, IS THE sha256 OF THE DUMP (.gsa) THAT YtnfhbljhohjkhaaProg.lean LOADS. Nothing in Lean hashes anything: it is a label: what it is worth is what the hold of that sum in a sandbox is worth. -/
noncomputable def Try.pinned : Pinned := { name := "ytnfhbljhohjkhaa", sum := "c9d46a19dfb5f938a366cbf976b40e555d8f0688e35e7b57f4f333cb7b03d345", checked := Try.checked }
namespace Rows
def none {H : Type} : Left H := { results := [], args := [] }

/-- 'brushwoodlaw13.SplitAt': WHATEVER THE INPUT: true; the input reads as it did. -/
def splitAtSpec : ChangeSpec := { name := "splitAt", fn := fun _ => fun
  | [d1, d2] => { results := [.lit (.bool true)], args := [d1, d2] }
  | _ => none }
def splitAtRow : OpenClaim := { program := "ytnfhbljhohjkhaa", sum := "c9d46a19dfb5f938a366cbf976b40e555d8f0688e35e7b57f4f333cb7b03d345", func := "brushwood/brushwoodlaw13.SplitAt", spec := "splitAt", inPlace := ["internal/bytealg.Compare"], unfollowed := true, recurses := true, apart := false }
def SplitAtSaid : Prop := splitAtRow.holds Try.pinned (OpenSpec.ofChange splitAtSpec)

/-- ITS FALSE NEIGHBOUR: 'it returns false'. Refute it at one input. -/
def splitAtWrong : ChangeSpec := { name := "splitAt", fn := fun _ => fun
  | [d1, d2] => { results := [.lit (.bool false)], args := [d1, d2] }
  | _ => none }
def SplitAtWrongFalsely : Prop := splitAtRow.holds Try.pinned (OpenSpec.ofChange splitAtWrong)

/-- 'brushwoodlaw13.SplitBack': WHATEVER THE INPUT: true; the input reads as it did. -/
def splitBackSpec : ChangeSpec := { name := "splitBack", fn := fun _ => fun
  | [d1, d2] => { results := [.lit (.bool true)], args := [d1, d2] }
  | _ => none }
def splitBackRow : OpenClaim := { program := "ytnfhbljhohjkhaa", sum := "c9d46a19dfb5f938a366cbf976b40e555d8f0688e35e7b57f4f333cb7b03d345", func := "brushwood/brushwoodlaw13.SplitBack", spec := "splitBack", inPlace := ["internal/bytealg.Compare"], unfollowed := true, recurses := true, apart := false }
def SplitBackSaid : Prop := splitBackRow.holds Try.pinned (OpenSpec.ofChange splitBackSpec)

/-- ITS FALSE NEIGHBOUR: 'it returns false'. Refute it at one input. -/
def splitBackWrong : ChangeSpec := { name := "splitBack", fn := fun _ => fun
  | [d1, d2] => { results := [.lit (.bool false)], args := [d1, d2] }
  | _ => none }
def SplitBackWrongFalsely : Prop := splitBackRow.holds Try.pinned (OpenSpec.ofChange splitBackWrong)

/-- 'brushwoodlaw13.SplitCuts': WHATEVER THE INPUT: true; the input reads as it did. -/
def splitCutsSpec : ChangeSpec := { name := "splitCuts", fn := fun _ => fun
  | [d1, d2] => { results := [.lit (.bool true)], args := [d1, d2] }
  | _ => none }
def splitCutsRow : OpenClaim := { program := "ytnfhbljhohjkhaa", sum := "c9d46a19dfb5f938a366cbf976b40e555d8f0688e35e7b57f4f333cb7b03d345", func := "brushwood/brushwoodlaw13.SplitCuts", spec := "splitCuts", inPlace := ["internal/bytealg.Compare"], unfollowed := true, recurses := true, apart := false }
def SplitCutsSaid : Prop := splitCutsRow.holds Try.pinned (OpenSpec.ofChange splitCutsSpec)

/-- ITS FALSE NEIGHBOUR: 'it returns false'. Refute it at one input. -/
def splitCutsWrong : ChangeSpec := { name := "splitCuts", fn := fun _ => fun
  | [d1, d2] => { results := [.lit (.bool false)], args := [d1, d2] }
  | _ => none }
def SplitCutsWrongFalsely : Prop := splitCutsRow.holds Try.pinned (OpenSpec.ofChange splitCutsWrong)

/-- 'brushwoodlaw13.SplitTwice': WHATEVER THE INPUT: true; the input reads as it did. -/
def splitTwiceSpec : ChangeSpec := { name := "splitTwice", fn := fun _ => fun
  | [d1, d2, d3] => { results := [.lit (.bool true)], args := [d1, d2, d3] }
  | _ => none }
def splitTwiceRow : OpenClaim := { program := "ytnfhbljhohjkhaa", sum := "c9d46a19dfb5f938a366cbf976b40e555d8f0688e35e7b57f4f333cb7b03d345", func := "brushwood/brushwoodlaw13.SplitTwice", spec := "splitTwice", inPlace := ["internal/bytealg.Compare"], unfollowed := true, recurses := true, apart := false }
def SplitTwiceSaid : Prop := splitTwiceRow.holds Try.pinned (OpenSpec.ofChange splitTwiceSpec)

/-- ITS FALSE NEIGHBOUR: 'it returns false'. Refute it at one input. -/
def splitTwiceWrong : ChangeSpec := { name := "splitTwice", fn := fun _ => fun
  | [d1, d2, d3] => { results := [.lit (.bool false)], args := [d1, d2, d3] }
  | _ => none }
def SplitTwiceWrongFalsely : Prop := splitTwiceRow.holds Try.pinned (OpenSpec.ofChange splitTwiceWrong)

/-- 'brushwoodlaw14.BlendUnion': WHATEVER THE INPUT: true; the input reads as it did. -/
def blendUnionSpec : ChangeSpec := { name := "blendUnion", fn := fun _ => fun
  | [d1, d2] => { results := [.lit (.bool true)], args := [d1, d2] }
  | _ => none }
def blendUnionRow : OpenClaim := { program := "ytnfhbljhohjkhaa", sum := "c9d46a19dfb5f938a366cbf976b40e555d8f0688e35e7b57f4f333cb7b03d345", func := "brushwood/brushwoodlaw14.BlendUnion", spec := "blendUnion", inPlace := ["internal/bytealg.Compare"], unfollowed := true, recurses := true, apart := false }
def BlendUnionSaid : Prop := blendUnionRow.holds Try.pinned (OpenSpec.ofChange blendUnionSpec)

/-- ITS FALSE NEIGHBOUR: 'it returns false'. Refute it at one input. -/
def blendUnionWrong : ChangeSpec := { name := "blendUnion", fn := fun _ => fun
  | [d1, d2] => { results := [.lit (.bool false)], args := [d1, d2] }
  | _ => none }
def BlendUnionWrongFalsely : Prop := blendUnionRow.holds Try.pinned (OpenSpec.ofChange blendUnionWrong)

/-- 'brushwoodlaw14.BlendParts': WHATEVER THE INPUT: true; the input reads as it did. -/
def blendPartsSpec : ChangeSpec := { name := "blendParts", fn := fun _ => fun
  | [d1, d2] => { results := [.lit (.bool true)], args := [d1, d2] }
  | _ => none }
def blendPartsRow : OpenClaim := { program := "ytnfhbljhohjkhaa", sum := "c9d46a19dfb5f938a366cbf976b40e555d8f0688e35e7b57f4f333cb7b03d345", func := "brushwood/brushwoodlaw14.BlendParts", spec := "blendParts", inPlace := ["internal/bytealg.Compare"], unfollowed := true, recurses := true, apart := false }
def BlendPartsSaid : Prop := blendPartsRow.holds Try.pinned (OpenSpec.ofChange blendPartsSpec)

/-- ITS FALSE NEIGHBOUR: 'it returns false'. Refute it at one input. -/
def blendPartsWrong : ChangeSpec := { name := "blendParts", fn := fun _ => fun
  | [d1, d2] => { results := [.lit (.bool false)], args := [d1, d2] }
  | _ => none }
def BlendPartsWrongFalsely : Prop := blendPartsRow.holds Try.pinned (OpenSpec.ofChange blendPartsWrong)

/-- 'brushwoodlaw14.BlendLaws': WHATEVER THE INPUT: true; the input reads as it did. -/
def blendLawsSpec : ChangeSpec := { name := "blendLaws", fn := fun _ => fun
  | [d1, d2] => { results := [.lit (.bool true)], args := [d1, d2] }
  | _ => none }
def blendLawsRow : OpenClaim := { program := "ytnfhbljhohjkhaa", sum := "c9d46a19dfb5f938a366cbf976b40e555d8f0688e35e7b57f4f333cb7b03d345", func := "brushwood/brushwoodlaw14.BlendLaws", spec := "blendLaws", inPlace := ["internal/bytealg.Compare"], unfollowed := true, recurses := true, apart := false }
def BlendLawsSaid : Prop := blendLawsRow.holds Try.pinned (OpenSpec.ofChange blendLawsSpec)

/-- ITS FALSE NEIGHBOUR: 'it returns false'. Refute it at one input. -/
def blendLawsWrong : ChangeSpec := { name := "blendLaws", fn := fun _ => fun
  | [d1, d2] => { results := [.lit (.bool false)], args := [d1, d2] }
  | _ => none }
def BlendLawsWrongFalsely : Prop := blendLawsRow.holds Try.pinned (OpenSpec.ofChange blendLawsWrong)

/-- 'brushwoodlaw14.BlendTurns': WHATEVER THE INPUT: true; the input reads as it did. -/
def blendTurnsSpec : ChangeSpec := { name := "blendTurns", fn := fun _ => fun
  | [d1, d2, d3] => { results := [.lit (.bool true)], args := [d1, d2, d3] }
  | _ => none }
def blendTurnsRow : OpenClaim := { program := "ytnfhbljhohjkhaa", sum := "c9d46a19dfb5f938a366cbf976b40e555d8f0688e35e7b57f4f333cb7b03d345", func := "brushwood/brushwoodlaw14.BlendTurns", spec := "blendTurns", inPlace := ["internal/bytealg.Compare"], unfollowed := true, recurses := true, apart := false }
def BlendTurnsSaid : Prop := blendTurnsRow.holds Try.pinned (OpenSpec.ofChange blendTurnsSpec)

/-- ITS FALSE NEIGHBOUR: 'it returns false'. Refute it at one input. -/
def blendTurnsWrong : ChangeSpec := { name := "blendTurns", fn := fun _ => fun
  | [d1, d2, d3] => { results := [.lit (.bool false)], args := [d1, d2, d3] }
  | _ => none }
def BlendTurnsWrongFalsely : Prop := blendTurnsRow.holds Try.pinned (OpenSpec.ofChange blendTurnsWrong)

/-- 'brushwoodlaw15.WalkBack': WHATEVER THE INPUT: true; the input reads as it did. -/
def walkBackSpec : ChangeSpec := { name := "walkBack", fn := fun _ => fun
  | [d] => { results := [.lit (.bool true)], args := [d] }
  | _ => none }
def walkBackRow : OpenClaim := { program := "ytnfhbljhohjkhaa", sum := "c9d46a19dfb5f938a366cbf976b40e555d8f0688e35e7b57f4f333cb7b03d345", func := "brushwood/brushwoodlaw15.WalkBack", spec := "walkBack", inPlace := ["internal/bytealg.Compare"], unfollowed := true, recurses := true, apart := false }
def WalkBackSaid : Prop := walkBackRow.holds Try.pinned (OpenSpec.ofChange walkBackSpec)

/-- ITS FALSE NEIGHBOUR: 'it returns false'. Refute it at one input. -/
def walkBackWrong : ChangeSpec := { name := "walkBack", fn := fun _ => fun
  | [d] => { results := [.lit (.bool false)], args := [d] }
  | _ => none }
def WalkBackWrongFalsely : Prop := walkBackRow.holds Try.pinned (OpenSpec.ofChange walkBackWrong)

/-- 'brushwoodlaw15.WalkPlays': WHATEVER THE INPUT: true; the input reads as it did. -/
def walkPlaysSpec : ChangeSpec := { name := "walkPlays", fn := fun _ => fun
  | [d1, d2, d3] => { results := [.lit (.bool true)], args := [d1, d2, d3] }
  | _ => none }
def walkPlaysRow : OpenClaim := { program := "ytnfhbljhohjkhaa", sum := "c9d46a19dfb5f938a366cbf976b40e555d8f0688e35e7b57f4f333cb7b03d345", func := "brushwood/brushwoodlaw15.WalkPlays", spec := "walkPlays", inPlace := ["internal/bytealg.Compare"], unfollowed := true, recurses := true, apart := false }
def WalkPlaysSaid : Prop := walkPlaysRow.holds Try.pinned (OpenSpec.ofChange walkPlaysSpec)

/-- ITS FALSE NEIGHBOUR: 'it returns false'. Refute it at one input. -/
def walkPlaysWrong : ChangeSpec := { name := "walkPlays", fn := fun _ => fun
  | [d1, d2, d3] => { results := [.lit (.bool false)], args := [d1, d2, d3] }
  | _ => none }
def WalkPlaysWrongFalsely : Prop := walkPlaysRow.holds Try.pinned (OpenSpec.ofChange walkPlaysWrong)

/-- 'brushwoodlaw15.WalkDown': WHATEVER THE INPUT: true; the input reads as it did. -/
def walkDownSpec : ChangeSpec := { name := "walkDown", fn := fun _ => fun
  | [d1, d2, d3] => { results := [.lit (.bool true)], args := [d1, d2, d3] }
  | _ => none }
def walkDownRow : OpenClaim := { program := "ytnfhbljhohjkhaa", sum := "c9d46a19dfb5f938a366cbf976b40e555d8f0688e35e7b57f4f333cb7b03d345", func := "brushwood/brushwoodlaw15.WalkDown", spec := "walkDown", inPlace := ["internal/bytealg.Compare"], unfollowed := true, recurses := true, apart := false }
def WalkDownSaid : Prop := walkDownRow.holds Try.pinned (OpenSpec.ofChange walkDownSpec)

/-- ITS FALSE NEIGHBOUR: 'it returns false'. Refute it at one input. -/
def walkDownWrong : ChangeSpec := { name := "walkDown", fn := fun _ => fun
  | [d1, d2, d3] => { results := [.lit (.bool false)], args := [d1, d2, d3] }
  | _ => none }
def WalkDownWrongFalsely : Prop := walkDownRow.holds Try.pinned (OpenSpec.ofChange walkDownWrong)

/-- 'brushwoodlaw15.WalkAll': WHATEVER THE INPUT: true; the input reads as it did. -/
def walkAllSpec : ChangeSpec := { name := "walkAll", fn := fun _ => fun
  | [d1, d2, d3] => { results := [.lit (.bool true)], args := [d1, d2, d3] }
  | _ => none }
def walkAllRow : OpenClaim := { program := "ytnfhbljhohjkhaa", sum := "c9d46a19dfb5f938a366cbf976b40e555d8f0688e35e7b57f4f333cb7b03d345", func := "brushwood/brushwoodlaw15.WalkAll", spec := "walkAll", inPlace := ["internal/bytealg.Compare"], unfollowed := true, recurses := true, apart := false }
def WalkAllSaid : Prop := walkAllRow.holds Try.pinned (OpenSpec.ofChange walkAllSpec)

/-- ITS FALSE NEIGHBOUR: 'it returns false'. Refute it at one input. -/
def walkAllWrong : ChangeSpec := { name := "walkAll", fn := fun _ => fun
  | [d1, d2, d3] => { results := [.lit (.bool false)], args := [d1, d2, d3] }
  | _ => none }
def WalkAllWrongFalsely : Prop := walkAllRow.holds Try.pinned (OpenSpec.ofChange walkAllWrong)

/- THE SECOND FORM. 'bulk': how many values and letters a reading holds, each counted each time it is reached (what is shared counts as often as it is met; a slice's spare places count too). A statement '..UptoSaid' is the law's where the arguments, and the package variables that the reading takes, are together of bulk at most 1048576: NARROWER than '..Said'. Prove '..Said' where nothing that the law and all that it calls make is longer than what came in: it says more and counts as full. Else prove '..UptoSaid'. A law counts once. -/
mutual
def uptoBulk {H : Type} : DataW H → Nat
  | .lit (.string bytes) => bytes.length + 1
  | .lit _ => 1
  | .nil => 1
  | .ptr d => uptoBulk d + 1
  | .slice elems spare => uptoBulkAll elems + uptoBulkAll spare + 1
  | .agg parts => uptoBulkAll parts + 1
  | .iface _ d => uptoBulk d + 1
  | .map entries => uptoBulkEntries entries + 1
  | .held _ => 1
def uptoBulkAll {H : Type} : List (DataW H) → Nat
  | [] => 0
  | d :: r => uptoBulk d + uptoBulkAll r
def uptoBulkEntries {H : Type} : List (Lit × DataW H) → Nat
  | [] => 0
  | x :: r => uptoBulkEntry x + uptoBulkEntries r
def uptoBulkEntry {H : Type} : Lit × DataW H → Nat
  | (.string bytes, d) => bytes.length + uptoBulk d + 1
  | (_, d) => uptoBulk d + 1
 end
def uptoSmall : (H : Type) → List (DataW H) → Bool := fun _ ds => decide (uptoBulkAll ds ≤ 1048576)
def OpenSpec.upto (s : _root_.Go.ChangeSpec) : _root_.Go.OpenSpec := { _root_.Go.OpenSpec.ofChange s with cond := some uptoSmall }

/-- 'brushwoodlaw13.SplitAt', WHERE WHAT IT READS IS OF BULK AT MOST 1048576: true; the input reads as it did. -/
def splitAtUptoRow : OpenClaim := { program := "ytnfhbljhohjkhaa", sum := "c9d46a19dfb5f938a366cbf976b40e555d8f0688e35e7b57f4f333cb7b03d345", func := "brushwood/brushwoodlaw13.SplitAt", spec := "splitAt", inPlace := ["internal/bytealg.Compare"], unfollowed := true, recurses := true, apart := false, narrowed := true }
def SplitAtUptoSaid : Prop := splitAtUptoRow.holds Try.pinned (OpenSpec.upto splitAtSpec)

/-- 'brushwoodlaw13.SplitBack', WHERE WHAT IT READS IS OF BULK AT MOST 1048576: true; the input reads as it did. -/
def splitBackUptoRow : OpenClaim := { program := "ytnfhbljhohjkhaa", sum := "c9d46a19dfb5f938a366cbf976b40e555d8f0688e35e7b57f4f333cb7b03d345", func := "brushwood/brushwoodlaw13.SplitBack", spec := "splitBack", inPlace := ["internal/bytealg.Compare"], unfollowed := true, recurses := true, apart := false, narrowed := true }
def SplitBackUptoSaid : Prop := splitBackUptoRow.holds Try.pinned (OpenSpec.upto splitBackSpec)

/-- 'brushwoodlaw13.SplitCuts', WHERE WHAT IT READS IS OF BULK AT MOST 1048576: true; the input reads as it did. -/
def splitCutsUptoRow : OpenClaim := { program := "ytnfhbljhohjkhaa", sum := "c9d46a19dfb5f938a366cbf976b40e555d8f0688e35e7b57f4f333cb7b03d345", func := "brushwood/brushwoodlaw13.SplitCuts", spec := "splitCuts", inPlace := ["internal/bytealg.Compare"], unfollowed := true, recurses := true, apart := false, narrowed := true }
def SplitCutsUptoSaid : Prop := splitCutsUptoRow.holds Try.pinned (OpenSpec.upto splitCutsSpec)

/-- 'brushwoodlaw13.SplitTwice', WHERE WHAT IT READS IS OF BULK AT MOST 1048576: true; the input reads as it did. -/
def splitTwiceUptoRow : OpenClaim := { program := "ytnfhbljhohjkhaa", sum := "c9d46a19dfb5f938a366cbf976b40e555d8f0688e35e7b57f4f333cb7b03d345", func := "brushwood/brushwoodlaw13.SplitTwice", spec := "splitTwice", inPlace := ["internal/bytealg.Compare"], unfollowed := true, recurses := true, apart := false, narrowed := true }
def SplitTwiceUptoSaid : Prop := splitTwiceUptoRow.holds Try.pinned (OpenSpec.upto splitTwiceSpec)

/-- 'brushwoodlaw14.BlendUnion', WHERE WHAT IT READS IS OF BULK AT MOST 1048576: true; the input reads as it did. -/
def blendUnionUptoRow : OpenClaim := { program := "ytnfhbljhohjkhaa", sum := "c9d46a19dfb5f938a366cbf976b40e555d8f0688e35e7b57f4f333cb7b03d345", func := "brushwood/brushwoodlaw14.BlendUnion", spec := "blendUnion", inPlace := ["internal/bytealg.Compare"], unfollowed := true, recurses := true, apart := false, narrowed := true }
def BlendUnionUptoSaid : Prop := blendUnionUptoRow.holds Try.pinned (OpenSpec.upto blendUnionSpec)

/-- 'brushwoodlaw14.BlendParts', WHERE WHAT IT READS IS OF BULK AT MOST 1048576: true; the input reads as it did. -/
def blendPartsUptoRow : OpenClaim := { program := "ytnfhbljhohjkhaa", sum := "c9d46a19dfb5f938a366cbf976b40e555d8f0688e35e7b57f4f333cb7b03d345", func := "brushwood/brushwoodlaw14.BlendParts", spec := "blendParts", inPlace := ["internal/bytealg.Compare"], unfollowed := true, recurses := true, apart := false, narrowed := true }
def BlendPartsUptoSaid : Prop := blendPartsUptoRow.holds Try.pinned (OpenSpec.upto blendPartsSpec)

/-- 'brushwoodlaw14.BlendLaws', WHERE WHAT IT READS IS OF BULK AT MOST 1048576: true; the input reads as it did. -/
def blendLawsUptoRow : OpenClaim := { program := "ytnfhbljhohjkhaa", sum := "c9d46a19dfb5f938a366cbf976b40e555d8f0688e35e7b57f4f333cb7b03d345", func := "brushwood/brushwoodlaw14.BlendLaws", spec := "blendLaws", inPlace := ["internal/bytealg.Compare"], unfollowed := true, recurses := true, apart := false, narrowed := true }
def BlendLawsUptoSaid : Prop := blendLawsUptoRow.holds Try.pinned (OpenSpec.upto blendLawsSpec)

/-- 'brushwoodlaw14.BlendTurns', WHERE WHAT IT READS IS OF BULK AT MOST 1048576: true; the input reads as it did. -/
def blendTurnsUptoRow : OpenClaim := { program := "ytnfhbljhohjkhaa", sum := "c9d46a19dfb5f938a366cbf976b40e555d8f0688e35e7b57f4f333cb7b03d345", func := "brushwood/brushwoodlaw14.BlendTurns", spec := "blendTurns", inPlace := ["internal/bytealg.Compare"], unfollowed := true, recurses := true, apart := false, narrowed := true }
def BlendTurnsUptoSaid : Prop := blendTurnsUptoRow.holds Try.pinned (OpenSpec.upto blendTurnsSpec)

/-- 'brushwoodlaw15.WalkBack', WHERE WHAT IT READS IS OF BULK AT MOST 1048576: true; the input reads as it did. -/
def walkBackUptoRow : OpenClaim := { program := "ytnfhbljhohjkhaa", sum := "c9d46a19dfb5f938a366cbf976b40e555d8f0688e35e7b57f4f333cb7b03d345", func := "brushwood/brushwoodlaw15.WalkBack", spec := "walkBack", inPlace := ["internal/bytealg.Compare"], unfollowed := true, recurses := true, apart := false, narrowed := true }
def WalkBackUptoSaid : Prop := walkBackUptoRow.holds Try.pinned (OpenSpec.upto walkBackSpec)

/-- 'brushwoodlaw15.WalkPlays', WHERE WHAT IT READS IS OF BULK AT MOST 1048576: true; the input reads as it did. -/
def walkPlaysUptoRow : OpenClaim := { program := "ytnfhbljhohjkhaa", sum := "c9d46a19dfb5f938a366cbf976b40e555d8f0688e35e7b57f4f333cb7b03d345", func := "brushwood/brushwoodlaw15.WalkPlays", spec := "walkPlays", inPlace := ["internal/bytealg.Compare"], unfollowed := true, recurses := true, apart := false, narrowed := true }
def WalkPlaysUptoSaid : Prop := walkPlaysUptoRow.holds Try.pinned (OpenSpec.upto walkPlaysSpec)

/-- 'brushwoodlaw15.WalkDown', WHERE WHAT IT READS IS OF BULK AT MOST 1048576: true; the input reads as it did. -/
def walkDownUptoRow : OpenClaim := { program := "ytnfhbljhohjkhaa", sum := "c9d46a19dfb5f938a366cbf976b40e555d8f0688e35e7b57f4f333cb7b03d345", func := "brushwood/brushwoodlaw15.WalkDown", spec := "walkDown", inPlace := ["internal/bytealg.Compare"], unfollowed := true, recurses := true, apart := false, narrowed := true }
def WalkDownUptoSaid : Prop := walkDownUptoRow.holds Try.pinned (OpenSpec.upto walkDownSpec)

/-- 'brushwoodlaw15.WalkAll', WHERE WHAT IT READS IS OF BULK AT MOST 1048576: true; the input reads as it did. -/
def walkAllUptoRow : OpenClaim := { program := "ytnfhbljhohjkhaa", sum := "c9d46a19dfb5f938a366cbf976b40e555d8f0688e35e7b57f4f333cb7b03d345", func := "brushwood/brushwoodlaw15.WalkAll", spec := "walkAll", inPlace := ["internal/bytealg.Compare"], unfollowed := true, recurses := true, apart := false, narrowed := true }
def WalkAllUptoSaid : Prop := walkAllUptoRow.holds Try.pinned (OpenSpec.upto walkAllSpec)

end Rows
end Go.Proofs.Ytnfhbljhohjkhaa
