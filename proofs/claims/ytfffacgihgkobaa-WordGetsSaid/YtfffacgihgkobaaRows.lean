/-
  No cell of these rows narrows 'for every input' (looked for: loops, veiled, ifaces, maps, wideKeys, modest, calm, conditions, laid).
  DERIVED. THE GIVEN ROWS OF THIS SEAT. 10 by the template 'for every input the law returns true; each argument reads behind the call as it read before'; 0 by the template 'total and deterministic' (their statements: YtfffacgihgkobaaTotals.lean).
  GIVEN WITH THE SEED: the statements are not yours to turn. If you find one false, say at which input.
  Laid BY PROGRAM, IN A SANDBOX (cutbox-rows.mjs): the forced cells as the released guide's own fill.sh prints them over the translation 3d42c0656b25cab5… (all of the seat's roots in one cut). By AI agents, Wed Nov 11 2026. No macro, syntax, notation, axiom, sorry.
-/
import Derived.Test.YtfffacgihgkobaaChecked
import GoSem.Claim
import GoSem.ClaimJoined
import GoSem.ClaimMapViews
import Derived.JoinedTies
import Derived.KernelRfl
namespace Go.Proofs.Ytfffacgihgkobaa
/- THE CELL 'sum', in the pinned program and in every row, IS THE sha256 OF THE DUMP (.gsa) THAT YtfffacgihgkobaaProg.lean LOADS. Nothing in Lean hashes anything: it is a label: what it is worth is what the hold of that sum in a sandbox is worth. -/
noncomputable def Try.pinned : Pinned := { name := "ytfffacgihgkobaa", sum := "3d42c0656b25cab579b9466ef561ab44a0af5a71e1bac4d80f6e1e700367fc2b", checked := Try.checked }
namespace Rows
def none {H : Type} : Left H := { results := [], args := [] }

/-- 'brushwoodlaw10.WeighBeside': WHATEVER THE INPUT: true; the input reads as it did. -/
def weighBesideSpec : ChangeSpec := { name := "weighBeside", fn := fun _ => fun
  | [d] => { results := [.lit (.bool true)], args := [d] }
  | _ => none }
def weighBesideRow : OpenClaim := { program := "ytfffacgihgkobaa", sum := "3d42c0656b25cab579b9466ef561ab44a0af5a71e1bac4d80f6e1e700367fc2b", func := "brushwood/brushwoodlaw10.WeighBeside", spec := "weighBeside", apart := false }
def WeighBesideSaid : Prop := weighBesideRow.holds Try.pinned (OpenSpec.ofChange weighBesideSpec)

/-- ITS FALSE NEIGHBOUR: 'it returns false'. Refute it at one input. -/
def weighBesideWrong : ChangeSpec := { name := "weighBeside", fn := fun _ => fun
  | [d] => { results := [.lit (.bool false)], args := [d] }
  | _ => none }
def WeighBesideWrongFalsely : Prop := weighBesideRow.holds Try.pinned (OpenSpec.ofChange weighBesideWrong)

/-- 'brushwoodlaw10.WeighEven': WHATEVER THE INPUT: true; the input reads as it did. -/
def weighEvenSpec : ChangeSpec := { name := "weighEven", fn := fun _ => fun
  | [d1, d2, d3] => { results := [.lit (.bool true)], args := [d1, d2, d3] }
  | _ => none }
def weighEvenRow : OpenClaim := { program := "ytfffacgihgkobaa", sum := "3d42c0656b25cab579b9466ef561ab44a0af5a71e1bac4d80f6e1e700367fc2b", func := "brushwood/brushwoodlaw10.WeighEven", spec := "weighEven", apart := false }
def WeighEvenSaid : Prop := weighEvenRow.holds Try.pinned (OpenSpec.ofChange weighEvenSpec)

/-- ITS FALSE NEIGHBOUR: 'it returns false'. Refute it at one input. -/
def weighEvenWrong : ChangeSpec := { name := "weighEven", fn := fun _ => fun
  | [d1, d2, d3] => { results := [.lit (.bool false)], args := [d1, d2, d3] }
  | _ => none }
def WeighEvenWrongFalsely : Prop := weighEvenRow.holds Try.pinned (OpenSpec.ofChange weighEvenWrong)

/-- 'brushwoodlaw10.WeighTurns': WHATEVER THE INPUT: true; the input reads as it did. -/
def weighTurnsSpec : ChangeSpec := { name := "weighTurns", fn := fun _ => fun
  | [d] => { results := [.lit (.bool true)], args := [d] }
  | _ => none }
def weighTurnsRow : OpenClaim := { program := "ytfffacgihgkobaa", sum := "3d42c0656b25cab579b9466ef561ab44a0af5a71e1bac4d80f6e1e700367fc2b", func := "brushwood/brushwoodlaw10.WeighTurns", spec := "weighTurns", apart := false }
def WeighTurnsSaid : Prop := weighTurnsRow.holds Try.pinned (OpenSpec.ofChange weighTurnsSpec)

/-- ITS FALSE NEIGHBOUR: 'it returns false'. Refute it at one input. -/
def weighTurnsWrong : ChangeSpec := { name := "weighTurns", fn := fun _ => fun
  | [d] => { results := [.lit (.bool false)], args := [d] }
  | _ => none }
def WeighTurnsWrongFalsely : Prop := weighTurnsRow.holds Try.pinned (OpenSpec.ofChange weighTurnsWrong)

/-- 'brushwoodlaw10.WeighLeast': WHATEVER THE INPUT: true; the input reads as it did. -/
def weighLeastSpec : ChangeSpec := { name := "weighLeast", fn := fun _ => fun
  | [d] => { results := [.lit (.bool true)], args := [d] }
  | _ => none }
def weighLeastRow : OpenClaim := { program := "ytfffacgihgkobaa", sum := "3d42c0656b25cab579b9466ef561ab44a0af5a71e1bac4d80f6e1e700367fc2b", func := "brushwood/brushwoodlaw10.WeighLeast", spec := "weighLeast", recurses := true, apart := false }
def WeighLeastSaid : Prop := weighLeastRow.holds Try.pinned (OpenSpec.ofChange weighLeastSpec)

/-- ITS FALSE NEIGHBOUR: 'it returns false'. Refute it at one input. -/
def weighLeastWrong : ChangeSpec := { name := "weighLeast", fn := fun _ => fun
  | [d] => { results := [.lit (.bool false)], args := [d] }
  | _ => none }
def WeighLeastWrongFalsely : Prop := weighLeastRow.holds Try.pinned (OpenSpec.ofChange weighLeastWrong)

/-- 'brushwoodlaw10.WeighHeight': WHATEVER THE INPUT: true; the input reads as it did. -/
def weighHeightSpec : ChangeSpec := { name := "weighHeight", fn := fun _ => fun
  | [d] => { results := [.lit (.bool true)], args := [d] }
  | _ => none }
def weighHeightRow : OpenClaim := { program := "ytfffacgihgkobaa", sum := "3d42c0656b25cab579b9466ef561ab44a0af5a71e1bac4d80f6e1e700367fc2b", func := "brushwood/brushwoodlaw10.WeighHeight", spec := "weighHeight", apart := false }
def WeighHeightSaid : Prop := weighHeightRow.holds Try.pinned (OpenSpec.ofChange weighHeightSpec)

/-- ITS FALSE NEIGHBOUR: 'it returns false'. Refute it at one input. -/
def weighHeightWrong : ChangeSpec := { name := "weighHeight", fn := fun _ => fun
  | [d] => { results := [.lit (.bool false)], args := [d] }
  | _ => none }
def WeighHeightWrongFalsely : Prop := weighHeightRow.holds Try.pinned (OpenSpec.ofChange weighHeightWrong)

/-- 'brushwoodlaw01.WordCuts': WHATEVER THE INPUT: true; the input reads as it did. -/
def wordCutsSpec : ChangeSpec := { name := "wordCuts", fn := fun _ => fun
  | [d1, d2, d3] => { results := [.lit (.bool true)], args := [d1, d2, d3] }
  | _ => none }
def wordCutsRow : OpenClaim := { program := "ytfffacgihgkobaa", sum := "3d42c0656b25cab579b9466ef561ab44a0af5a71e1bac4d80f6e1e700367fc2b", func := "brushwood/brushwoodlaw01.WordCuts", spec := "wordCuts", apart := false }
def WordCutsSaid : Prop := wordCutsRow.holds Try.pinned (OpenSpec.ofChange wordCutsSpec)

/-- ITS FALSE NEIGHBOUR: 'it returns false'. Refute it at one input. -/
def wordCutsWrong : ChangeSpec := { name := "wordCuts", fn := fun _ => fun
  | [d1, d2, d3] => { results := [.lit (.bool false)], args := [d1, d2, d3] }
  | _ => none }
def WordCutsWrongFalsely : Prop := wordCutsRow.holds Try.pinned (OpenSpec.ofChange wordCutsWrong)

/-- 'brushwoodlaw01.WordParts': WHATEVER THE INPUT: true; the input reads as it did. -/
def wordPartsSpec : ChangeSpec := { name := "wordParts", fn := fun _ => fun
  | [d1, d2] => { results := [.lit (.bool true)], args := [d1, d2] }
  | _ => none }
def wordPartsRow : OpenClaim := { program := "ytfffacgihgkobaa", sum := "3d42c0656b25cab579b9466ef561ab44a0af5a71e1bac4d80f6e1e700367fc2b", func := "brushwood/brushwoodlaw01.WordParts", spec := "wordParts", apart := false }
def WordPartsSaid : Prop := wordPartsRow.holds Try.pinned (OpenSpec.ofChange wordPartsSpec)

/-- ITS FALSE NEIGHBOUR: 'it returns false'. Refute it at one input. -/
def wordPartsWrong : ChangeSpec := { name := "wordParts", fn := fun _ => fun
  | [d1, d2] => { results := [.lit (.bool false)], args := [d1, d2] }
  | _ => none }
def WordPartsWrongFalsely : Prop := wordPartsRow.holds Try.pinned (OpenSpec.ofChange wordPartsWrong)

/-- 'brushwoodlaw01.WordTurns': WHATEVER THE INPUT: true; the input reads as it did. -/
def wordTurnsSpec : ChangeSpec := { name := "wordTurns", fn := fun _ => fun
  | [d1, d2] => { results := [.lit (.bool true)], args := [d1, d2] }
  | _ => none }
def wordTurnsRow : OpenClaim := { program := "ytfffacgihgkobaa", sum := "3d42c0656b25cab579b9466ef561ab44a0af5a71e1bac4d80f6e1e700367fc2b", func := "brushwood/brushwoodlaw01.WordTurns", spec := "wordTurns", apart := false }
def WordTurnsSaid : Prop := wordTurnsRow.holds Try.pinned (OpenSpec.ofChange wordTurnsSpec)

/-- ITS FALSE NEIGHBOUR: 'it returns false'. Refute it at one input. -/
def wordTurnsWrong : ChangeSpec := { name := "wordTurns", fn := fun _ => fun
  | [d1, d2] => { results := [.lit (.bool false)], args := [d1, d2] }
  | _ => none }
def WordTurnsWrongFalsely : Prop := wordTurnsRow.holds Try.pinned (OpenSpec.ofChange wordTurnsWrong)

/-- 'brushwoodlaw01.WordPuts': WHATEVER THE INPUT: true; the input reads as it did. -/
def wordPutsSpec : ChangeSpec := { name := "wordPuts", fn := fun _ => fun
  | [d1, d2] => { results := [.lit (.bool true)], args := [d1, d2] }
  | _ => none }
def wordPutsRow : OpenClaim := { program := "ytfffacgihgkobaa", sum := "3d42c0656b25cab579b9466ef561ab44a0af5a71e1bac4d80f6e1e700367fc2b", func := "brushwood/brushwoodlaw01.WordPuts", spec := "wordPuts", apart := false }
def WordPutsSaid : Prop := wordPutsRow.holds Try.pinned (OpenSpec.ofChange wordPutsSpec)

/-- ITS FALSE NEIGHBOUR: 'it returns false'. Refute it at one input. -/
def wordPutsWrong : ChangeSpec := { name := "wordPuts", fn := fun _ => fun
  | [d1, d2] => { results := [.lit (.bool false)], args := [d1, d2] }
  | _ => none }
def WordPutsWrongFalsely : Prop := wordPutsRow.holds Try.pinned (OpenSpec.ofChange wordPutsWrong)

/-- 'brushwoodlaw01.WordGets': WHATEVER THE INPUT: true; the input reads as it did. -/
def wordGetsSpec : ChangeSpec := { name := "wordGets", fn := fun _ => fun
  | [d] => { results := [.lit (.bool true)], args := [d] }
  | _ => none }
def wordGetsRow : OpenClaim := { program := "ytfffacgihgkobaa", sum := "3d42c0656b25cab579b9466ef561ab44a0af5a71e1bac4d80f6e1e700367fc2b", func := "brushwood/brushwoodlaw01.WordGets", spec := "wordGets", apart := false }
def WordGetsSaid : Prop := wordGetsRow.holds Try.pinned (OpenSpec.ofChange wordGetsSpec)

/-- ITS FALSE NEIGHBOUR: 'it returns false'. Refute it at one input. -/
def wordGetsWrong : ChangeSpec := { name := "wordGets", fn := fun _ => fun
  | [d] => { results := [.lit (.bool false)], args := [d] }
  | _ => none }
def WordGetsWrongFalsely : Prop := wordGetsRow.holds Try.pinned (OpenSpec.ofChange wordGetsWrong)

/- THE SECOND FORM. 'bulk': how many values and letters a reading holds, each counted each time it is reached (what is shared counts as often as it is met; a slice's spare places count too). A statement '..UptoSaid' is the law's where the arguments, and the package variables that the reading takes, are together of bulk at most 1048576: NARROWER than '..Said'. Prove '..Said' where nothing that the law and all that it calls make is longer than what came in: it says more and counts as full. Else prove '..UptoSaid'. A law counts once. -/
mutual
def uptoBulk {H : Type} : DataW H → Nat
  | .lit (.string bytes) => bytes.length + 1
  | .lit _ => 1
  | .nil => 1
  | .ptr d => uptoBulk d + 1
  | .slice elems spare => uptoBulkAll elems + uptoBulkAll spare + 1
  | .agg parts => uptoBulkAll parts + 1
  | .iface _ d => uptoBulk d + 1
  | .map entries => uptoBulkEntries entries + 1
  | .held _ => 1
def uptoBulkAll {H : Type} : List (DataW H) → Nat
  | [] => 0
  | d :: r => uptoBulk d + uptoBulkAll r
def uptoBulkEntries {H : Type} : List (Lit × DataW H) → Nat
  | [] => 0
  | x :: r => uptoBulkEntry x + uptoBulkEntries r
def uptoBulkEntry {H : Type} : Lit × DataW H → Nat
  | (.string bytes, d) => bytes.length + uptoBulk d + 1
  | (_, d) => uptoBulk d + 1
 end
def uptoSmall : (H : Type) → List (DataW H) → Bool := fun _ ds => decide (uptoBulkAll ds ≤ 1048576)
def OpenSpec.upto (s : _root_.Go.ChangeSpec) : _root_.Go.OpenSpec := { _root_.Go.OpenSpec.ofChange s with cond := some uptoSmall }

/-- 'brushwoodlaw10.WeighBeside', WHERE WHAT IT READS IS OF BULK AT MOST 1048576: true; the input reads as it did. -/
def weighBesideUptoRow : OpenClaim := { program := "ytfffacgihgkobaa", sum := "3d42c0656b25cab579b9466ef561ab44a0af5a71e1bac4d80f6e1e700367fc2b", func := "brushwood/brushwoodlaw10.WeighBeside", spec := "weighBeside", apart := false, narrowed := true }
def WeighBesideUptoSaid : Prop := weighBesideUptoRow.holds Try.pinned (OpenSpec.upto weighBesideSpec)

/-- 'brushwoodlaw10.WeighEven', WHERE WHAT IT READS IS OF BULK AT MOST 1048576: true; the input reads as it did. -/
def weighEvenUptoRow : OpenClaim := { program := "ytfffacgihgkobaa", sum := "3d42c0656b25cab579b9466ef561ab44a0af5a71e1bac4d80f6e1e700367fc2b", func := "brushwood/brushwoodlaw10.WeighEven", spec := "weighEven", apart := false, narrowed := true }
def WeighEvenUptoSaid : Prop := weighEvenUptoRow.holds Try.pinned (OpenSpec.upto weighEvenSpec)

/-- 'brushwoodlaw10.WeighTurns', WHERE WHAT IT READS IS OF BULK AT MOST 1048576: true; the input reads as it did. -/
def weighTurnsUptoRow : OpenClaim := { program := "ytfffacgihgkobaa", sum := "3d42c0656b25cab579b9466ef561ab44a0af5a71e1bac4d80f6e1e700367fc2b", func := "brushwood/brushwoodlaw10.WeighTurns", spec := "weighTurns", apart := false, narrowed := true }
def WeighTurnsUptoSaid : Prop := weighTurnsUptoRow.holds Try.pinned (OpenSpec.upto weighTurnsSpec)

/-- 'brushwoodlaw10.WeighLeast', WHERE WHAT IT READS IS OF BULK AT MOST 1048576: true; the input reads as it did. -/
def weighLeastUptoRow : OpenClaim := { program := "ytfffacgihgkobaa", sum := "3d42c0656b25cab579b9466ef561ab44a0af5a71e1bac4d80f6e1e700367fc2b", func := "brushwood/brushwoodlaw10.WeighLeast", spec := "weighLeast", recurses := true, apart := false, narrowed := true }
def WeighLeastUptoSaid : Prop := weighLeastUptoRow.holds Try.pinned (OpenSpec.upto weighLeastSpec)

/-- 'brushwoodlaw10.WeighHeight', WHERE WHAT IT READS IS OF BULK AT MOST 1048576: true; the input reads as it did. -/
def weighHeightUptoRow : OpenClaim := { program := "ytfffacgihgkobaa", sum := "3d42c0656b25cab579b9466ef561ab44a0af5a71e1bac4d80f6e1e700367fc2b", func := "brushwood/brushwoodlaw10.WeighHeight", spec := "weighHeight", apart := false, narrowed := true }
def WeighHeightUptoSaid : Prop := weighHeightUptoRow.holds Try.pinned (OpenSpec.upto weighHeightSpec)

/-- 'brushwoodlaw01.WordCuts', WHERE WHAT IT READS IS OF BULK AT MOST 1048576: true; the input reads as it did. -/
def wordCutsUptoRow : OpenClaim := { program := "ytfffacgihgkobaa", sum := "3d42c0656b25cab579b9466ef561ab44a0af5a71e1bac4d80f6e1e700367fc2b", func := "brushwood/brushwoodlaw01.WordCuts", spec := "wordCuts", apart := false, narrowed := true }
def WordCutsUptoSaid : Prop := wordCutsUptoRow.holds Try.pinned (OpenSpec.upto wordCutsSpec)

/-- 'brushwoodlaw01.WordParts', WHERE WHAT IT READS IS OF BULK AT MOST 1048576: true; the input reads as it did. -/
def wordPartsUptoRow : OpenClaim := { program := "ytfffacgihgkobaa", sum := "3d42c0656b25cab579b9466ef561ab44a0af5a71e1bac4d80f6e1e700367fc2b", func := "brushwood/brushwoodlaw01.WordParts", spec := "wordParts", apart := false, narrowed := true }
def WordPartsUptoSaid : Prop := wordPartsUptoRow.holds Try.pinned (OpenSpec.upto wordPartsSpec)

/-- 'brushwoodlaw01.WordTurns', WHERE WHAT IT READS IS OF BULK AT MOST 1048576: true; the input reads as it did. -/
def wordTurnsUptoRow : OpenClaim := { program := "ytfffacgihgkobaa", sum := "3d42c0656b25cab579b9466ef561ab44a0af5a71e1bac4d80f6e1e700367fc2b", func := "brushwood/brushwoodlaw01.WordTurns", spec := "wordTurns", apart := false, narrowed := true }
def WordTurnsUptoSaid : Prop := wordTurnsUptoRow.holds Try.pinned (OpenSpec.upto wordTurnsSpec)

/-- 'brushwoodlaw01.WordPuts', WHERE WHAT IT READS IS OF BULK AT MOST 1048576: true; the input reads as it did. -/
def wordPutsUptoRow : OpenClaim := { program := "ytfffacgihgkobaa", sum := "3d42c0656b25cab579b9466ef561ab44a0af5a71e1bac4d80f6e1e700367fc2b", func := "brushwood/brushwoodlaw01.WordPuts", spec := "wordPuts", apart := false, narrowed := true }
def WordPutsUptoSaid : Prop := wordPutsUptoRow.holds Try.pinned (OpenSpec.upto wordPutsSpec)

/-- 'brushwoodlaw01.WordGets', WHERE WHAT IT READS IS OF BULK AT MOST 1048576: true; the input reads as it did. -/
def wordGetsUptoRow : OpenClaim := { program := "ytfffacgihgkobaa", sum := "3d42c0656b25cab579b9466ef561ab44a0af5a71e1bac4d80f6e1e700367fc2b", func := "brushwood/brushwoodlaw01.WordGets", spec := "wordGets", apart := false, narrowed := true }
def WordGetsUptoSaid : Prop := wordGetsUptoRow.holds Try.pinned (OpenSpec.upto wordGetsSpec)

end Rows
end Go.Proofs.Ytfffacgihgkobaa
