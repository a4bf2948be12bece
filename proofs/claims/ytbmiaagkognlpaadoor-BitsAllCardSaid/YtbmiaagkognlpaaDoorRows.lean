/-
  NARROWER THAN 'FOR EVERY INPUT', by the rows' own cells (each row's printed sentence says how): ChunkCommon: laid · ChunkWays: laid · ChunkFrom: laid · ChunkBack: laid · BitsAll: laid · BitsNth: laid.
  DERIVED. THE GIVEN ROWS OF THIS SEAT. 6 by the template 'for every input the law returns true; each argument reads behind the call as it read before'; 0 by the template 'total and deterministic' (their statements: YtbmiaagkognlpaaDoorTotals.lean).
  GIVEN WITH THE SEED: the statements are not yours to turn. If you find one false, say at which input.
  Laid BY PROGRAM, IN A SANDBOX (cutbox-rows.mjs): the forced cells as the released guide's own fill.sh prints them over the translation 993d57bb24a979cf… (all of the seat's roots in one cut). By AI agents, Wed Nov 11 2026. No macro, syntax, notation, axiom, sorry.
-/
import Derived.Test.YtbmiaagkognlpaaDoorChecked
import GoSem.Claim
import GoSem.ClaimJoined
import GoSem.ClaimMapViews
import Derived.JoinedTies
import Derived.KernelRfl
namespace Go.Proofs.YtbmiaagkognlpaaDoor
/- THE CELL 'sum', in the pinned program and in every row, IS THE sha256 OF THE DUMP (.gsa) THAT YtbmiaagkognlpaaDoorProg.lean LOADS. Nothing in Lean hashes anything: it is a label: what it is worth is what the hold of that sum in a sandbox is worth. -/
noncomputable def Tryd.pinned : Pinned := { name := "ytbmiaagkognlpaadoor", sum := "993d57bb24a979cff1da2aaf203b2a21029c9bcaf3903a94f2534803e6f2f758", checked := Tryd.checked }
namespace Rows
def none {H : Type} : Left H := { results := [], args := [] }

/- WHAT THE LISTED PACKAGE-LEVEL VARIABLES READ AS WHEN THE CALL BEGINS. Each datum BY PROGRAM (the guide's laid-datum.mjs) off the statement by which the dump's own 'gosem.cut.vars' lays the variable. In a bare row this is a premise. The card (YtbmiaagkognlpaaDoorCards.lean) ties it to the program's text. -/
def laid_math_bits_deBruijn64tab {H : Type} : DataW H := .agg [.lit (.int .u8 0), .lit (.int .u8 1), .lit (.int .u8 56), .lit (.int .u8 2), .lit (.int .u8 57), .lit (.int .u8 49), .lit (.int .u8 28), .lit (.int .u8 3), .lit (.int .u8 61), .lit (.int .u8 58), .lit (.int .u8 42), .lit (.int .u8 50), .lit (.int .u8 38), .lit (.int .u8 29), .lit (.int .u8 17), .lit (.int .u8 4), .lit (.int .u8 62), .lit (.int .u8 47), .lit (.int .u8 59), .lit (.int .u8 36), .lit (.int .u8 45), .lit (.int .u8 43), .lit (.int .u8 51), .lit (.int .u8 22), .lit (.int .u8 53), .lit (.int .u8 39), .lit (.int .u8 33), .lit (.int .u8 30), .lit (.int .u8 24), .lit (.int .u8 18), .lit (.int .u8 12), .lit (.int .u8 5), .lit (.int .u8 63), .lit (.int .u8 55), .lit (.int .u8 48), .lit (.int .u8 27), .lit (.int .u8 60), .lit (.int .u8 41), .lit (.int .u8 37), .lit (.int .u8 16), .lit (.int .u8 46), .lit (.int .u8 35), .lit (.int .u8 44), .lit (.int .u8 21), .lit (.int .u8 52), .lit (.int .u8 32), .lit (.int .u8 23), .lit (.int .u8 11), .lit (.int .u8 54), .lit (.int .u8 26), .lit (.int .u8 40), .lit (.int .u8 15), .lit (.int .u8 34), .lit (.int .u8 20), .lit (.int .u8 31), .lit (.int .u8 10), .lit (.int .u8 25), .lit (.int .u8 14), .lit (.int .u8 19), .lit (.int .u8 9), .lit (.int .u8 13), .lit (.int .u8 8), .lit (.int .u8 7), .lit (.int .u8 6)]
def laid_math_bits_deBruijn32tab {H : Type} : DataW H := .agg [.lit (.int .u8 0), .lit (.int .u8 1), .lit (.int .u8 28), .lit (.int .u8 2), .lit (.int .u8 29), .lit (.int .u8 14), .lit (.int .u8 24), .lit (.int .u8 3), .lit (.int .u8 30), .lit (.int .u8 22), .lit (.int .u8 20), .lit (.int .u8 15), .lit (.int .u8 25), .lit (.int .u8 17), .lit (.int .u8 4), .lit (.int .u8 8), .lit (.int .u8 31), .lit (.int .u8 27), .lit (.int .u8 13), .lit (.int .u8 23), .lit (.int .u8 21), .lit (.int .u8 19), .lit (.int .u8 16), .lit (.int .u8 7), .lit (.int .u8 26), .lit (.int .u8 12), .lit (.int .u8 18), .lit (.int .u8 6), .lit (.int .u8 11), .lit (.int .u8 5), .lit (.int .u8 10), .lit (.int .u8 9)]

/-- 'brushwoodlaw06.ChunkCommon': WHATEVER THE INPUT: true; the input reads as it did. -/
def chunkCommonSpec : ChangeSpec := { name := "chunkCommon", fn := fun _ => fun
  | [d1, d2] => { results := [.lit (.bool true)], args := [d1, d2] }
  | _ => none }
def chunkCommonRow : OpenClaim := { program := "ytbmiaagkognlpaadoor", sum := "993d57bb24a979cff1da2aaf203b2a21029c9bcaf3903a94f2534803e6f2f758", func := "brushwood/brushwoodlaw06.ChunkCommon", spec := "chunkCommon", named := ["math/bits.deBruijn64tab"], apart := false, laid := [("math/bits.deBruijn64tab", laid_math_bits_deBruijn64tab)] }
def ChunkCommonSaid : Prop := chunkCommonRow.holds Tryd.pinned (OpenSpec.ofChange chunkCommonSpec)

/-- ITS FALSE NEIGHBOUR: 'it returns false'. Refute it at one input. -/
def chunkCommonWrong : ChangeSpec := { name := "chunkCommon", fn := fun _ => fun
  | [d1, d2] => { results := [.lit (.bool false)], args := [d1, d2] }
  | _ => none }
def ChunkCommonWrongFalsely : Prop := chunkCommonRow.holds Tryd.pinned (OpenSpec.ofChange chunkCommonWrong)

/-- 'brushwoodlaw06.ChunkWays': WHATEVER THE INPUT: true; the input reads as it did. -/
def chunkWaysSpec : ChangeSpec := { name := "chunkWays", fn := fun _ => fun
  | [d1, d2] => { results := [.lit (.bool true)], args := [d1, d2] }
  | _ => none }
def chunkWaysRow : OpenClaim := { program := "ytbmiaagkognlpaadoor", sum := "993d57bb24a979cff1da2aaf203b2a21029c9bcaf3903a94f2534803e6f2f758", func := "brushwood/brushwoodlaw06.ChunkWays", spec := "chunkWays", named := ["math/bits.deBruijn64tab"], apart := false, laid := [("math/bits.deBruijn64tab", laid_math_bits_deBruijn64tab)] }
def ChunkWaysSaid : Prop := chunkWaysRow.holds Tryd.pinned (OpenSpec.ofChange chunkWaysSpec)

/-- ITS FALSE NEIGHBOUR: 'it returns false'. Refute it at one input. -/
def chunkWaysWrong : ChangeSpec := { name := "chunkWays", fn := fun _ => fun
  | [d1, d2] => { results := [.lit (.bool false)], args := [d1, d2] }
  | _ => none }
def ChunkWaysWrongFalsely : Prop := chunkWaysRow.holds Tryd.pinned (OpenSpec.ofChange chunkWaysWrong)

/-- 'brushwoodlaw06.ChunkFrom': WHATEVER THE INPUT: true; the input reads as it did. -/
def chunkFromSpec : ChangeSpec := { name := "chunkFrom", fn := fun _ => fun
  | [d] => { results := [.lit (.bool true)], args := [d] }
  | _ => none }
def chunkFromRow : OpenClaim := { program := "ytbmiaagkognlpaadoor", sum := "993d57bb24a979cff1da2aaf203b2a21029c9bcaf3903a94f2534803e6f2f758", func := "brushwood/brushwoodlaw06.ChunkFrom", spec := "chunkFrom", named := ["math/bits.deBruijn64tab"], apart := false, laid := [("math/bits.deBruijn64tab", laid_math_bits_deBruijn64tab)] }
def ChunkFromSaid : Prop := chunkFromRow.holds Tryd.pinned (OpenSpec.ofChange chunkFromSpec)

/-- ITS FALSE NEIGHBOUR: 'it returns false'. Refute it at one input. -/
def chunkFromWrong : ChangeSpec := { name := "chunkFrom", fn := fun _ => fun
  | [d] => { results := [.lit (.bool false)], args := [d] }
  | _ => none }
def ChunkFromWrongFalsely : Prop := chunkFromRow.holds Tryd.pinned (OpenSpec.ofChange chunkFromWrong)

/-- 'brushwoodlaw06.ChunkBack': WHATEVER THE INPUT: true; the input reads as it did. -/
def chunkBackSpec : ChangeSpec := { name := "chunkBack", fn := fun _ => fun
  | [d] => { results := [.lit (.bool true)], args := [d] }
  | _ => none }
def chunkBackRow : OpenClaim := { program := "ytbmiaagkognlpaadoor", sum := "993d57bb24a979cff1da2aaf203b2a21029c9bcaf3903a94f2534803e6f2f758", func := "brushwood/brushwoodlaw06.ChunkBack", spec := "chunkBack", named := ["math/bits.deBruijn64tab"], apart := false, laid := [("math/bits.deBruijn64tab", laid_math_bits_deBruijn64tab)] }
def ChunkBackSaid : Prop := chunkBackRow.holds Tryd.pinned (OpenSpec.ofChange chunkBackSpec)

/-- ITS FALSE NEIGHBOUR: 'it returns false'. Refute it at one input. -/
def chunkBackWrong : ChangeSpec := { name := "chunkBack", fn := fun _ => fun
  | [d] => { results := [.lit (.bool false)], args := [d] }
  | _ => none }
def ChunkBackWrongFalsely : Prop := chunkBackRow.holds Tryd.pinned (OpenSpec.ofChange chunkBackWrong)

/-- 'brushwoodlaw07.BitsAll': WHATEVER THE INPUT: true; the input reads as it did. -/
def bitsAllSpec : ChangeSpec := { name := "bitsAll", fn := fun _ => fun
  | [d1, d2] => { results := [.lit (.bool true)], args := [d1, d2] }
  | _ => none }
def bitsAllRow : OpenClaim := { program := "ytbmiaagkognlpaadoor", sum := "993d57bb24a979cff1da2aaf203b2a21029c9bcaf3903a94f2534803e6f2f758", func := "brushwood/brushwoodlaw07.BitsAll", spec := "bitsAll", unfollowed := true, recurses := true, named := ["math/bits.deBruijn32tab"], apart := false, laid := [("math/bits.deBruijn32tab", laid_math_bits_deBruijn32tab)] }
def BitsAllSaid : Prop := bitsAllRow.holds Tryd.pinned (OpenSpec.ofChange bitsAllSpec)

/-- ITS FALSE NEIGHBOUR: 'it returns false'. Refute it at one input. -/
def bitsAllWrong : ChangeSpec := { name := "bitsAll", fn := fun _ => fun
  | [d1, d2] => { results := [.lit (.bool false)], args := [d1, d2] }
  | _ => none }
def BitsAllWrongFalsely : Prop := bitsAllRow.holds Tryd.pinned (OpenSpec.ofChange bitsAllWrong)

/-- 'brushwoodlaw07.BitsNth': WHATEVER THE INPUT: true; the input reads as it did. -/
def bitsNthSpec : ChangeSpec := { name := "bitsNth", fn := fun _ => fun
  | [d1, d2] => { results := [.lit (.bool true)], args := [d1, d2] }
  | _ => none }
def bitsNthRow : OpenClaim := { program := "ytbmiaagkognlpaadoor", sum := "993d57bb24a979cff1da2aaf203b2a21029c9bcaf3903a94f2534803e6f2f758", func := "brushwood/brushwoodlaw07.BitsNth", spec := "bitsNth", unfollowed := true, recurses := true, named := ["math/bits.deBruijn32tab"], apart := false, laid := [("math/bits.deBruijn32tab", laid_math_bits_deBruijn32tab)] }
def BitsNthSaid : Prop := bitsNthRow.holds Tryd.pinned (OpenSpec.ofChange bitsNthSpec)

/-- ITS FALSE NEIGHBOUR: 'it returns false'. Refute it at one input. -/
def bitsNthWrong : ChangeSpec := { name := "bitsNth", fn := fun _ => fun
  | [d1, d2] => { results := [.lit (.bool false)], args := [d1, d2] }
  | _ => none }
def BitsNthWrongFalsely : Prop := bitsNthRow.holds Tryd.pinned (OpenSpec.ofChange bitsNthWrong)

/- THE SECOND FORM. 'bulk': how many values and letters a reading holds, each counted each time it is reached (what is shared counts as often as it is met; a slice's spare places count too). A statement '..UptoSaid' is the law's where the arguments, and the package variables that the reading takes, are together of bulk at most 1048576: NARROWER than '..Said'. Prove '..Said' where nothing that the law and all that it calls make is longer than what came in: it says more and counts as full. Else prove '..UptoSaid'. A law counts once. -/
mutual
def uptoBulk {H : Type} : DataW H → Nat
  | .lit (.string bytes) => bytes.length + 1
  | .lit _ => 1
  | .nil => 1
  | .ptr d => uptoBulk d + 1
  | .slice elems spare => uptoBulkAll elems + uptoBulkAll spare + 1
  | .agg parts => uptoBulkAll parts + 1
  | .iface _ d => uptoBulk d + 1
  | .map entries => uptoBulkEntries entries + 1
  | .held _ => 1
def uptoBulkAll {H : Type} : List (DataW H) → Nat
  | [] => 0
  | d :: r => uptoBulk d + uptoBulkAll r
def uptoBulkEntries {H : Type} : List (Lit × DataW H) → Nat
  | [] => 0
  | x :: r => uptoBulkEntry x + uptoBulkEntries r
def uptoBulkEntry {H : Type} : Lit × DataW H → Nat
  | (.string bytes, d) => bytes.length + uptoBulk d + 1
  | (_, d) => uptoBulk d + 1
 end
def uptoSmall : (H : Type) → List (DataW H) → Bool := fun _ ds => decide (uptoBulkAll ds ≤ 1048576)
def OpenSpec.upto (s : _root_.Go.ChangeSpec) : _root_.Go.OpenSpec := { _root_.Go.OpenSpec.ofChange s with cond := some uptoSmall }

/-- 'brushwoodlaw06.ChunkCommon', WHERE WHAT IT READS IS OF BULK AT MOST 1048576: true; the input reads as it did. -/
def chunkCommonUptoRow : OpenClaim := { program := "ytbmiaagkognlpaadoor", sum := "993d57bb24a979cff1da2aaf203b2a21029c9bcaf3903a94f2534803e6f2f758", func := "brushwood/brushwoodlaw06.ChunkCommon", spec := "chunkCommon", named := ["math/bits.deBruijn64tab"], apart := false, laid := [("math/bits.deBruijn64tab", laid_math_bits_deBruijn64tab)], narrowed := true }
def ChunkCommonUptoSaid : Prop := chunkCommonUptoRow.holds Tryd.pinned (OpenSpec.upto chunkCommonSpec)

/-- 'brushwoodlaw06.ChunkWays', WHERE WHAT IT READS IS OF BULK AT MOST 1048576: true; the input reads as it did. -/
def chunkWaysUptoRow : OpenClaim := { program := "ytbmiaagkognlpaadoor", sum := "993d57bb24a979cff1da2aaf203b2a21029c9bcaf3903a94f2534803e6f2f758", func := "brushwood/brushwoodlaw06.ChunkWays", spec := "chunkWays", named := ["math/bits.deBruijn64tab"], apart := false, laid := [("math/bits.deBruijn64tab", laid_math_bits_deBruijn64tab)], narrowed := true }
def ChunkWaysUptoSaid : Prop := chunkWaysUptoRow.holds Tryd.pinned (OpenSpec.upto chunkWaysSpec)

/-- 'brushwoodlaw06.ChunkFrom', WHERE WHAT IT READS IS OF BULK AT MOST 1048576: true; the input reads as it did. -/
def chunkFromUptoRow : OpenClaim := { program := "ytbmiaagkognlpaadoor", sum := "993d57bb24a979cff1da2aaf203b2a21029c9bcaf3903a94f2534803e6f2f758", func := "brushwood/brushwoodlaw06.ChunkFrom", spec := "chunkFrom", named := ["math/bits.deBruijn64tab"], apart := false, laid := [("math/bits.deBruijn64tab", laid_math_bits_deBruijn64tab)], narrowed := true }
def ChunkFromUptoSaid : Prop := chunkFromUptoRow.holds Tryd.pinned (OpenSpec.upto chunkFromSpec)

/-- 'brushwoodlaw06.ChunkBack', WHERE WHAT IT READS IS OF BULK AT MOST 1048576: true; the input reads as it did. -/
def chunkBackUptoRow : OpenClaim := { program := "ytbmiaagkognlpaadoor", sum := "993d57bb24a979cff1da2aaf203b2a21029c9bcaf3903a94f2534803e6f2f758", func := "brushwood/brushwoodlaw06.ChunkBack", spec := "chunkBack", named := ["math/bits.deBruijn64tab"], apart := false, laid := [("math/bits.deBruijn64tab", laid_math_bits_deBruijn64tab)], narrowed := true }
def ChunkBackUptoSaid : Prop := chunkBackUptoRow.holds Tryd.pinned (OpenSpec.upto chunkBackSpec)

/-- 'brushwoodlaw07.BitsAll', WHERE WHAT IT READS IS OF BULK AT MOST 1048576: true; the input reads as it did. -/
def bitsAllUptoRow : OpenClaim := { program := "ytbmiaagkognlpaadoor", sum := "993d57bb24a979cff1da2aaf203b2a21029c9bcaf3903a94f2534803e6f2f758", func := "brushwood/brushwoodlaw07.BitsAll", spec := "bitsAll", unfollowed := true, recurses := true, named := ["math/bits.deBruijn32tab"], apart := false, laid := [("math/bits.deBruijn32tab", laid_math_bits_deBruijn32tab)], narrowed := true }
def BitsAllUptoSaid : Prop := bitsAllUptoRow.holds Tryd.pinned (OpenSpec.upto bitsAllSpec)

/-- 'brushwoodlaw07.BitsNth', WHERE WHAT IT READS IS OF BULK AT MOST 1048576: true; the input reads as it did. -/
def bitsNthUptoRow : OpenClaim := { program := "ytbmiaagkognlpaadoor", sum := "993d57bb24a979cff1da2aaf203b2a21029c9bcaf3903a94f2534803e6f2f758", func := "brushwood/brushwoodlaw07.BitsNth", spec := "bitsNth", unfollowed := true, recurses := true, named := ["math/bits.deBruijn32tab"], apart := false, laid := [("math/bits.deBruijn32tab", laid_math_bits_deBruijn32tab)], narrowed := true }
def BitsNthUptoSaid : Prop := bitsNthUptoRow.holds Tryd.pinned (OpenSpec.upto bitsNthSpec)

end Rows
end Go.Proofs.YtbmiaagkognlpaaDoor
