/-
  NARROWER THAN 'FOR EVERY INPUT', by the rows' own cells (each row's printed sentence says how): ScanGroups: laid · ScanSums: laid · ScanTells: laid · ScanRanges: laid · ScanParts: laid.
  DERIVED. THE GIVEN ROWS OF THIS SEAT. 5 by the template 'for every input the law returns true; each argument reads behind the call as it read before'; 0 by the template 'total and deterministic' (their statements: YtphjaebkcimklaaGreatDoorTotals.lean).
  GIVEN WITH THE SEED: the statements are not yours to turn. If you find one false, say at which input.
  Laid BY PROGRAM, IN A SANDBOX (cutbox-rows.mjs): the forced cells as the released guide's own fill.sh prints them over the translation 674d0dbaf0d48bf1… (all of the seat's roots in one cut). By AI agents, Wed Nov 11 2026. No macro, syntax, notation, axiom, sorry.
-/
import Derived.Test.YtphjaebkcimklaaGreatDoorChecked
import GoSem.Claim
import GoSem.ClaimJoined
import GoSem.ClaimMapViews
import Derived.JoinedTies
import Derived.KernelRfl
namespace Go.Proofs.YtphjaebkcimklaaGreatDoor
/- THE CELL 'sum', in the pinned program and in every row, IS THE sha256 OF THE DUMP (.gsa) THAT YtphjaebkcimklaaGreatDoorProg.lean LOADS. Nothing in Lean hashes anything: it is a label: what it is worth is what the hold of that sum in a sandbox is worth. -/
noncomputable def Tryz.pinned : Pinned := { name := "ytphjaebkcimklaagreatdoor", sum := "674d0dbaf0d48bf16b32a68ded451776c379676f3b15b16b5fb712f2fbea8de4", checked := Tryz.checked }
namespace Rows
def none {H : Type} : Left H := { results := [], args := [] }

/- WHAT THE LISTED PACKAGE-LEVEL VARIABLES READ AS WHEN THE CALL BEGINS. Each datum BY PROGRAM (the guide's laid-datum.mjs) off the statement by which the dump's own 'gosem.cut.vars' lays the variable. In a bare row this is a premise. The card (YtphjaebkcimklaaGreatDoorCards.lean) ties it to the program's text. -/
def laid_math_bits_deBruijn32tab {H : Type} : DataW H := .agg [.lit (.int .u8 0), .lit (.int .u8 1), .lit (.int .u8 28), .lit (.int .u8 2), .lit (.int .u8 29), .lit (.int .u8 14), .lit (.int .u8 24), .lit (.int .u8 3), .lit (.int .u8 30), .lit (.int .u8 22), .lit (.int .u8 20), .lit (.int .u8 15), .lit (.int .u8 25), .lit (.int .u8 17), .lit (.int .u8 4), .lit (.int .u8 8), .lit (.int .u8 31), .lit (.int .u8 27), .lit (.int .u8 13), .lit (.int .u8 23), .lit (.int .u8 21), .lit (.int .u8 19), .lit (.int .u8 16), .lit (.int .u8 7), .lit (.int .u8 26), .lit (.int .u8 12), .lit (.int .u8 18), .lit (.int .u8 6), .lit (.int .u8 11), .lit (.int .u8 5), .lit (.int .u8 10), .lit (.int .u8 9)]
def laid_brushwood_sip_start {H : Type} : DataW H := .agg [.lit (.int .u64 8317987319222330741), .lit (.int .u64 7237128888997146477), .lit (.int .u64 7816392313619706465), .lit (.int .u64 8387220255154660723)]

/-- 'brushwoodlaw23.ScanGroups': WHATEVER THE INPUT: true; the input reads as it did. -/
def scanGroupsSpec : ChangeSpec := { name := "scanGroups", fn := fun _ => fun
  | [d1, d2] => { results := [.lit (.bool true)], args := [d1, d2] }
  | _ => none }
def scanGroupsRow : OpenClaim := { program := "ytphjaebkcimklaagreatdoor", sum := "674d0dbaf0d48bf16b32a68ded451776c379676f3b15b16b5fb712f2fbea8de4", func := "brushwood/brushwoodlaw23.ScanGroups", spec := "scanGroups", inPlace := ["internal/bytealg.Compare"], unfollowed := true, recurses := true, named := ["brushwood/sip.start", "math/bits.deBruijn32tab"], apart := false, laid := [("math/bits.deBruijn32tab", laid_math_bits_deBruijn32tab), ("brushwood/sip.start", laid_brushwood_sip_start)] }
def ScanGroupsSaid : Prop := scanGroupsRow.holds Tryz.pinned (OpenSpec.ofChange scanGroupsSpec)

/-- ITS FALSE NEIGHBOUR: 'it returns false'. Refute it at one input. -/
def scanGroupsWrong : ChangeSpec := { name := "scanGroups", fn := fun _ => fun
  | [d1, d2] => { results := [.lit (.bool false)], args := [d1, d2] }
  | _ => none }
def ScanGroupsWrongFalsely : Prop := scanGroupsRow.holds Tryz.pinned (OpenSpec.ofChange scanGroupsWrong)

/-- 'brushwoodlaw23.ScanSums': WHATEVER THE INPUT: true; the input reads as it did. -/
def scanSumsSpec : ChangeSpec := { name := "scanSums", fn := fun _ => fun
  | [d1, d2, d3] => { results := [.lit (.bool true)], args := [d1, d2, d3] }
  | _ => none }
def scanSumsRow : OpenClaim := { program := "ytphjaebkcimklaagreatdoor", sum := "674d0dbaf0d48bf16b32a68ded451776c379676f3b15b16b5fb712f2fbea8de4", func := "brushwood/brushwoodlaw23.ScanSums", spec := "scanSums", inPlace := ["internal/bytealg.Compare"], unfollowed := true, recurses := true, named := ["brushwood/sip.start", "math/bits.deBruijn32tab"], apart := false, laid := [("math/bits.deBruijn32tab", laid_math_bits_deBruijn32tab), ("brushwood/sip.start", laid_brushwood_sip_start)] }
def ScanSumsSaid : Prop := scanSumsRow.holds Tryz.pinned (OpenSpec.ofChange scanSumsSpec)

/-- ITS FALSE NEIGHBOUR: 'it returns false'. Refute it at one input. -/
def scanSumsWrong : ChangeSpec := { name := "scanSums", fn := fun _ => fun
  | [d1, d2, d3] => { results := [.lit (.bool false)], args := [d1, d2, d3] }
  | _ => none }
def ScanSumsWrongFalsely : Prop := scanSumsRow.holds Tryz.pinned (OpenSpec.ofChange scanSumsWrong)

/-- 'brushwoodlaw23.ScanTells': WHATEVER THE INPUT: true; the input reads as it did. -/
def scanTellsSpec : ChangeSpec := { name := "scanTells", fn := fun _ => fun
  | [d1, d2, d3] => { results := [.lit (.bool true)], args := [d1, d2, d3] }
  | _ => none }
def scanTellsRow : OpenClaim := { program := "ytphjaebkcimklaagreatdoor", sum := "674d0dbaf0d48bf16b32a68ded451776c379676f3b15b16b5fb712f2fbea8de4", func := "brushwood/brushwoodlaw23.ScanTells", spec := "scanTells", inPlace := ["internal/bytealg.Compare"], unfollowed := true, recurses := true, named := ["brushwood/sip.start", "math/bits.deBruijn32tab"], apart := false, laid := [("math/bits.deBruijn32tab", laid_math_bits_deBruijn32tab), ("brushwood/sip.start", laid_brushwood_sip_start)] }
def ScanTellsSaid : Prop := scanTellsRow.holds Tryz.pinned (OpenSpec.ofChange scanTellsSpec)

/-- ITS FALSE NEIGHBOUR: 'it returns false'. Refute it at one input. -/
def scanTellsWrong : ChangeSpec := { name := "scanTells", fn := fun _ => fun
  | [d1, d2, d3] => { results := [.lit (.bool false)], args := [d1, d2, d3] }
  | _ => none }
def ScanTellsWrongFalsely : Prop := scanTellsRow.holds Tryz.pinned (OpenSpec.ofChange scanTellsWrong)

/-- 'brushwoodlaw23.ScanRanges': WHATEVER THE INPUT: true; the input reads as it did. -/
def scanRangesSpec : ChangeSpec := { name := "scanRanges", fn := fun _ => fun
  | [d1, d2] => { results := [.lit (.bool true)], args := [d1, d2] }
  | _ => none }
def scanRangesRow : OpenClaim := { program := "ytphjaebkcimklaagreatdoor", sum := "674d0dbaf0d48bf16b32a68ded451776c379676f3b15b16b5fb712f2fbea8de4", func := "brushwood/brushwoodlaw23.ScanRanges", spec := "scanRanges", inPlace := ["internal/bytealg.Compare"], unfollowed := true, recurses := true, named := ["brushwood/sip.start", "math/bits.deBruijn32tab"], apart := false, laid := [("math/bits.deBruijn32tab", laid_math_bits_deBruijn32tab), ("brushwood/sip.start", laid_brushwood_sip_start)] }
def ScanRangesSaid : Prop := scanRangesRow.holds Tryz.pinned (OpenSpec.ofChange scanRangesSpec)

/-- ITS FALSE NEIGHBOUR: 'it returns false'. Refute it at one input. -/
def scanRangesWrong : ChangeSpec := { name := "scanRanges", fn := fun _ => fun
  | [d1, d2] => { results := [.lit (.bool false)], args := [d1, d2] }
  | _ => none }
def ScanRangesWrongFalsely : Prop := scanRangesRow.holds Tryz.pinned (OpenSpec.ofChange scanRangesWrong)

/-- 'brushwoodlaw23.ScanParts': WHATEVER THE INPUT: true; the input reads as it did. -/
def scanPartsSpec : ChangeSpec := { name := "scanParts", fn := fun _ => fun
  | [d1, d2, d3] => { results := [.lit (.bool true)], args := [d1, d2, d3] }
  | _ => none }
def scanPartsRow : OpenClaim := { program := "ytphjaebkcimklaagreatdoor", sum := "674d0dbaf0d48bf16b32a68ded451776c379676f3b15b16b5fb712f2fbea8de4", func := "brushwood/brushwoodlaw23.ScanParts", spec := "scanParts", inPlace := ["internal/bytealg.Compare"], unfollowed := true, recurses := true, named := ["brushwood/sip.start", "math/bits.deBruijn32tab"], apart := false, laid := [("math/bits.deBruijn32tab", laid_math_bits_deBruijn32tab), ("brushwood/sip.start", laid_brushwood_sip_start)] }
def ScanPartsSaid : Prop := scanPartsRow.holds Tryz.pinned (OpenSpec.ofChange scanPartsSpec)

/-- ITS FALSE NEIGHBOUR: 'it returns false'. Refute it at one input. -/
def scanPartsWrong : ChangeSpec := { name := "scanParts", fn := fun _ => fun
  | [d1, d2, d3] => { results := [.lit (.bool false)], args := [d1, d2, d3] }
  | _ => none }
def ScanPartsWrongFalsely : Prop := scanPartsRow.holds Tryz.pinned (OpenSpec.ofChange scanPartsWrong)

/- THE SECOND FORM. 'bulk': how many values and letters a reading holds, each counted each time it is reached (what is shared counts as often as it is met; a slice's spare places count too). A statement '..UptoSaid' is the law's where the arguments, and the package variables that the reading takes, are together of bulk at most 1048576: NARROWER than '..Said'. Prove '..Said' where nothing that the law and all that it calls make is longer than what came in: it says more and counts as full. Else prove '..UptoSaid'. A law counts once. -/
mutual
def uptoBulk {H : Type} : DataW H → Nat
  | .lit (.string bytes) => bytes.length + 1
  | .lit _ => 1
  | .nil => 1
  | .ptr d => uptoBulk d + 1
  | .slice elems spare => uptoBulkAll elems + uptoBulkAll spare + 1
  | .agg parts => uptoBulkAll parts + 1
  | .iface _ d => uptoBulk d + 1
  | .map entries => uptoBulkEntries entries + 1
  | .held _ => 1
def uptoBulkAll {H : Type} : List (DataW H) → Nat
  | [] => 0
  | d :: r => uptoBulk d + uptoBulkAll r
def uptoBulkEntries {H : Type} : List (Lit × DataW H) → Nat
  | [] => 0
  | x :: r => uptoBulkEntry x + uptoBulkEntries r
def uptoBulkEntry {H : Type} : Lit × DataW H → Nat
  | (.string bytes, d) => bytes.length + uptoBulk d + 1
  | (_, d) => uptoBulk d + 1
 end
def uptoSmall : (H : Type) → List (DataW H) → Bool := fun _ ds => decide (uptoBulkAll ds ≤ 1048576)
def OpenSpec.upto (s : _root_.Go.ChangeSpec) : _root_.Go.OpenSpec := { _root_.Go.OpenSpec.ofChange s with cond := some uptoSmall }

/-- 'brushwoodlaw23.ScanGroups', WHERE WHAT IT READS IS OF BULK AT MOST 1048576: true; the input reads as it did. -/
def scanGroupsUptoRow : OpenClaim := { program := "ytphjaebkcimklaagreatdoor", sum := "674d0dbaf0d48bf16b32a68ded451776c379676f3b15b16b5fb712f2fbea8de4", func := "brushwood/brushwoodlaw23.ScanGroups", spec := "scanGroups", inPlace := ["internal/bytealg.Compare"], unfollowed := true, recurses := true, named := ["brushwood/sip.start", "math/bits.deBruijn32tab"], apart := false, laid := [("math/bits.deBruijn32tab", laid_math_bits_deBruijn32tab), ("brushwood/sip.start", laid_brushwood_sip_start)], narrowed := true }
def ScanGroupsUptoSaid : Prop := scanGroupsUptoRow.holds Tryz.pinned (OpenSpec.upto scanGroupsSpec)

/-- 'brushwoodlaw23.ScanSums', WHERE WHAT IT READS IS OF BULK AT MOST 1048576: true; the input reads as it did. -/
def scanSumsUptoRow : OpenClaim := { program := "ytphjaebkcimklaagreatdoor", sum := "674d0dbaf0d48bf16b32a68ded451776c379676f3b15b16b5fb712f2fbea8de4", func := "brushwood/brushwoodlaw23.ScanSums", spec := "scanSums", inPlace := ["internal/bytealg.Compare"], unfollowed := true, recurses := true, named := ["brushwood/sip.start", "math/bits.deBruijn32tab"], apart := false, laid := [("math/bits.deBruijn32tab", laid_math_bits_deBruijn32tab), ("brushwood/sip.start", laid_brushwood_sip_start)], narrowed := true }
def ScanSumsUptoSaid : Prop := scanSumsUptoRow.holds Tryz.pinned (OpenSpec.upto scanSumsSpec)

/-- 'brushwoodlaw23.ScanTells', WHERE WHAT IT READS IS OF BULK AT MOST 1048576: true; the input reads as it did. -/
def scanTellsUptoRow : OpenClaim := { program := "ytphjaebkcimklaagreatdoor", sum := "674d0dbaf0d48bf16b32a68ded451776c379676f3b15b16b5fb712f2fbea8de4", func := "brushwood/brushwoodlaw23.ScanTells", spec := "scanTells", inPlace := ["internal/bytealg.Compare"], unfollowed := true, recurses := true, named := ["brushwood/sip.start", "math/bits.deBruijn32tab"], apart := false, laid := [("math/bits.deBruijn32tab", laid_math_bits_deBruijn32tab), ("brushwood/sip.start", laid_brushwood_sip_start)], narrowed := true }
def ScanTellsUptoSaid : Prop := scanTellsUptoRow.holds Tryz.pinned (OpenSpec.upto scanTellsSpec)

/-- 'brushwoodlaw23.ScanRanges', WHERE WHAT IT READS IS OF BULK AT MOST 1048576: true; the input reads as it did. -/
def scanRangesUptoRow : OpenClaim := { program := "ytphjaebkcimklaagreatdoor", sum := "674d0dbaf0d48bf16b32a68ded451776c379676f3b15b16b5fb712f2fbea8de4", func := "brushwood/brushwoodlaw23.ScanRanges", spec := "scanRanges", inPlace := ["internal/bytealg.Compare"], unfollowed := true, recurses := true, named := ["brushwood/sip.start", "math/bits.deBruijn32tab"], apart := false, laid := [("math/bits.deBruijn32tab", laid_math_bits_deBruijn32tab), ("brushwood/sip.start", laid_brushwood_sip_start)], narrowed := true }
def ScanRangesUptoSaid : Prop := scanRangesUptoRow.holds Tryz.pinned (OpenSpec.upto scanRangesSpec)

/-- 'brushwoodlaw23.ScanParts', WHERE WHAT IT READS IS OF BULK AT MOST 1048576: true; the input reads as it did. -/
def scanPartsUptoRow : OpenClaim := { program := "ytphjaebkcimklaagreatdoor", sum := "674d0dbaf0d48bf16b32a68ded451776c379676f3b15b16b5fb712f2fbea8de4", func := "brushwood/brushwoodlaw23.ScanParts", spec := "scanParts", inPlace := ["internal/bytealg.Compare"], unfollowed := true, recurses := true, named := ["brushwood/sip.start", "math/bits.deBruijn32tab"], apart := false, laid := [("math/bits.deBruijn32tab", laid_math_bits_deBruijn32tab), ("brushwood/sip.start", laid_brushwood_sip_start)], narrowed := true }
def ScanPartsUptoSaid : Prop := scanPartsUptoRow.holds Tryz.pinned (OpenSpec.upto scanPartsSpec)

end Rows
end Go.Proofs.YtphjaebkcimklaaGreatDoor
