/-
  NARROWER THAN 'FOR EVERY INPUT', by the rows' own cells (each row's printed sentence says how): SipHashes: laid · SipRounds: laid · SipSteps: laid · SipGoes: laid · SipBack: laid.
  DERIVED. THE GIVEN ROWS OF THIS SEAT. 5 by the template 'for every input the law returns true; each argument reads behind the call as it read before'; 0 by the template 'total and deterministic' (their statements: YtocideolihbnaaaDoorTotals.lean).
  GIVEN WITH THE SEED: the statements are not yours to turn. If you find one false, say at which input.
  Laid BY PROGRAM, IN A SANDBOX (cutbox-rows.mjs): the forced cells as the released guide's own fill.sh prints them over the translation 6bfc45460b0996c4… (all of the seat's roots in one cut). By AI agents, Wed Nov 11 2026. No macro, syntax, notation, axiom, sorry.
-/
import Derived.Test.YtocideolihbnaaaDoorChecked
import GoSem.Claim
import GoSem.ClaimJoined
import GoSem.ClaimMapViews
import Derived.JoinedTies
import Derived.KernelRfl
namespace Go.Proofs.YtocideolihbnaaaDoor
/- THE CELL 'sum', in the pinned program and in every row, IS THE sha256 OF THE DUMP (.gsa) THAT YtocideolihbnaaaDoorProg.lean LOADS. Nothing in Lean hashes anything: it is a label: what it is worth is what the hold of that sum in a sandbox is worth. -/
noncomputable def Tryd.pinned : Pinned := { name := "ytocideolihbnaaadoor", sum := "6bfc45460b0996c47ffc88eb9218f40d77ed723ca68bc1967a275f84e3fbc928", checked := Tryd.checked }
namespace Rows
def none {H : Type} : Left H := { results := [], args := [] }

/- WHAT THE LISTED PACKAGE-LEVEL VARIABLES READ AS WHEN THE CALL BEGINS. Each datum BY PROGRAM (the guide's laid-datum.mjs) off the statement by which the dump's own 'gosem.cut.vars' lays the variable. In a bare row this is a premise. The card (YtocideolihbnaaaDoorCards.lean) ties it to the program's text. -/
def laid_brushwood_sip_start {H : Type} : DataW H := .agg [.lit (.int .u64 8317987319222330741), .lit (.int .u64 7237128888997146477), .lit (.int .u64 7816392313619706465), .lit (.int .u64 8387220255154660723)]

/-- 'brushwoodlaw05.SipHashes': WHATEVER THE INPUT: true; the input reads as it did. -/
def sipHashesSpec : ChangeSpec := { name := "sipHashes", fn := fun _ => fun
  | [d1, d2] => { results := [.lit (.bool true)], args := [d1, d2] }
  | _ => none }
def sipHashesRow : OpenClaim := { program := "ytocideolihbnaaadoor", sum := "6bfc45460b0996c47ffc88eb9218f40d77ed723ca68bc1967a275f84e3fbc928", func := "brushwood/brushwoodlaw05.SipHashes", spec := "sipHashes", named := ["brushwood/sip.start"], apart := false, laid := [("brushwood/sip.start", laid_brushwood_sip_start)] }
def SipHashesSaid : Prop := sipHashesRow.holds Tryd.pinned (OpenSpec.ofChange sipHashesSpec)

/-- ITS FALSE NEIGHBOUR: 'it returns false'. Refute it at one input. -/
def sipHashesWrong : ChangeSpec := { name := "sipHashes", fn := fun _ => fun
  | [d1, d2] => { results := [.lit (.bool false)], args := [d1, d2] }
  | _ => none }
def SipHashesWrongFalsely : Prop := sipHashesRow.holds Tryd.pinned (OpenSpec.ofChange sipHashesWrong)

/-- 'brushwoodlaw05.SipRounds': WHATEVER THE INPUT: true; the input reads as it did. -/
def sipRoundsSpec : ChangeSpec := { name := "sipRounds", fn := fun _ => fun
  | [d] => { results := [.lit (.bool true)], args := [d] }
  | _ => none }
def sipRoundsRow : OpenClaim := { program := "ytocideolihbnaaadoor", sum := "6bfc45460b0996c47ffc88eb9218f40d77ed723ca68bc1967a275f84e3fbc928", func := "brushwood/brushwoodlaw05.SipRounds", spec := "sipRounds", named := ["brushwood/sip.start"], apart := false, laid := [("brushwood/sip.start", laid_brushwood_sip_start)] }
def SipRoundsSaid : Prop := sipRoundsRow.holds Tryd.pinned (OpenSpec.ofChange sipRoundsSpec)

/-- ITS FALSE NEIGHBOUR: 'it returns false'. Refute it at one input. -/
def sipRoundsWrong : ChangeSpec := { name := "sipRounds", fn := fun _ => fun
  | [d] => { results := [.lit (.bool false)], args := [d] }
  | _ => none }
def SipRoundsWrongFalsely : Prop := sipRoundsRow.holds Tryd.pinned (OpenSpec.ofChange sipRoundsWrong)

/-- 'brushwoodlaw05.SipSteps': WHATEVER THE INPUT: true; the input reads as it did. -/
def sipStepsSpec : ChangeSpec := { name := "sipSteps", fn := fun _ => fun
  | [d1, d2, d3] => { results := [.lit (.bool true)], args := [d1, d2, d3] }
  | _ => none }
def sipStepsRow : OpenClaim := { program := "ytocideolihbnaaadoor", sum := "6bfc45460b0996c47ffc88eb9218f40d77ed723ca68bc1967a275f84e3fbc928", func := "brushwood/brushwoodlaw05.SipSteps", spec := "sipSteps", named := ["brushwood/sip.start"], apart := false, laid := [("brushwood/sip.start", laid_brushwood_sip_start)] }
def SipStepsSaid : Prop := sipStepsRow.holds Tryd.pinned (OpenSpec.ofChange sipStepsSpec)

/-- ITS FALSE NEIGHBOUR: 'it returns false'. Refute it at one input. -/
def sipStepsWrong : ChangeSpec := { name := "sipSteps", fn := fun _ => fun
  | [d1, d2, d3] => { results := [.lit (.bool false)], args := [d1, d2, d3] }
  | _ => none }
def SipStepsWrongFalsely : Prop := sipStepsRow.holds Tryd.pinned (OpenSpec.ofChange sipStepsWrong)

/-- 'brushwoodlaw05.SipGoes': WHATEVER THE INPUT: true; the input reads as it did. -/
def sipGoesSpec : ChangeSpec := { name := "sipGoes", fn := fun _ => fun
  | [d1, d2] => { results := [.lit (.bool true)], args := [d1, d2] }
  | _ => none }
def sipGoesRow : OpenClaim := { program := "ytocideolihbnaaadoor", sum := "6bfc45460b0996c47ffc88eb9218f40d77ed723ca68bc1967a275f84e3fbc928", func := "brushwood/brushwoodlaw05.SipGoes", spec := "sipGoes", named := ["brushwood/sip.start"], apart := false, laid := [("brushwood/sip.start", laid_brushwood_sip_start)] }
def SipGoesSaid : Prop := sipGoesRow.holds Tryd.pinned (OpenSpec.ofChange sipGoesSpec)

/-- ITS FALSE NEIGHBOUR: 'it returns false'. Refute it at one input. -/
def sipGoesWrong : ChangeSpec := { name := "sipGoes", fn := fun _ => fun
  | [d1, d2] => { results := [.lit (.bool false)], args := [d1, d2] }
  | _ => none }
def SipGoesWrongFalsely : Prop := sipGoesRow.holds Tryd.pinned (OpenSpec.ofChange sipGoesWrong)

/-- 'brushwoodlaw05.SipBack': WHATEVER THE INPUT: true; the input reads as it did. -/
def sipBackSpec : ChangeSpec := { name := "sipBack", fn := fun _ => fun
  | [d1, d2] => { results := [.lit (.bool true)], args := [d1, d2] }
  | _ => none }
def sipBackRow : OpenClaim := { program := "ytocideolihbnaaadoor", sum := "6bfc45460b0996c47ffc88eb9218f40d77ed723ca68bc1967a275f84e3fbc928", func := "brushwood/brushwoodlaw05.SipBack", spec := "sipBack", named := ["brushwood/sip.start"], apart := false, laid := [("brushwood/sip.start", laid_brushwood_sip_start)] }
def SipBackSaid : Prop := sipBackRow.holds Tryd.pinned (OpenSpec.ofChange sipBackSpec)

/-- ITS FALSE NEIGHBOUR: 'it returns false'. Refute it at one input. -/
def sipBackWrong : ChangeSpec := { name := "sipBack", fn := fun _ => fun
  | [d1, d2] => { results := [.lit (.bool false)], args := [d1, d2] }
  | _ => none }
def SipBackWrongFalsely : Prop := sipBackRow.holds Tryd.pinned (OpenSpec.ofChange sipBackWrong)

/- THE SECOND FORM. 'bulk': how many values and letters a reading holds, each counted each time it is reached (what is shared counts as often as it is met; a slice's spare places count too). A statement '..UptoSaid' is the law's where the arguments, and the package variables that the reading takes, are together of bulk at most 1048576: NARROWER than '..Said'. Prove '..Said' where nothing that the law and all that it calls make is longer than what came in: it says more and counts as full. Else prove '..UptoSaid'. A law counts once. -/
mutual
def uptoBulk {H : Type} : DataW H → Nat
  | .lit (.string bytes) => bytes.length + 1
  | .lit _ => 1
  | .nil => 1
  | .ptr d => uptoBulk d + 1
  | .slice elems spare => uptoBulkAll elems + uptoBulkAll spare + 1
  | .agg parts => uptoBulkAll parts + 1
  | .iface _ d => uptoBulk d + 1
  | .map entries => uptoBulkEntries entries + 1
  | .held _ => 1
def uptoBulkAll {H : Type} : List (DataW H) → Nat
  | [] => 0
  | d :: r => uptoBulk d + uptoBulkAll r
def uptoBulkEntries {H : Type} : List (Lit × DataW H) → Nat
  | [] => 0
  | x :: r => uptoBulkEntry x + uptoBulkEntries r
def uptoBulkEntry {H : Type} : Lit × DataW H → Nat
  | (.string bytes, d) => bytes.length + uptoBulk d + 1
  | (_, d) => uptoBulk d + 1
 end
def uptoSmall : (H : Type) → List (DataW H) → Bool := fun _ ds => decide (uptoBulkAll ds ≤ 1048576)
def OpenSpec.upto (s : _root_.Go.ChangeSpec) : _root_.Go.OpenSpec := { _root_.Go.OpenSpec.ofChange s with cond := some uptoSmall }

/-- 'brushwoodlaw05.SipHashes', WHERE WHAT IT READS IS OF BULK AT MOST 1048576: true; the input reads as it did. -/
def sipHashesUptoRow : OpenClaim := { program := "ytocideolihbnaaadoor", sum := "6bfc45460b0996c47ffc88eb9218f40d77ed723ca68bc1967a275f84e3fbc928", func := "brushwood/brushwoodlaw05.SipHashes", spec := "sipHashes", named := ["brushwood/sip.start"], apart := false, laid := [("brushwood/sip.start", laid_brushwood_sip_start)], narrowed := true }
def SipHashesUptoSaid : Prop := sipHashesUptoRow.holds Tryd.pinned (OpenSpec.upto sipHashesSpec)

/-- 'brushwoodlaw05.SipRounds', WHERE WHAT IT READS IS OF BULK AT MOST 1048576: true; the input reads as it did. -/
def sipRoundsUptoRow : OpenClaim := { program := "ytocideolihbnaaadoor", sum := "6bfc45460b0996c47ffc88eb9218f40d77ed723ca68bc1967a275f84e3fbc928", func := "brushwood/brushwoodlaw05.SipRounds", spec := "sipRounds", named := ["brushwood/sip.start"], apart := false, laid := [("brushwood/sip.start", laid_brushwood_sip_start)], narrowed := true }
def SipRoundsUptoSaid : Prop := sipRoundsUptoRow.holds Tryd.pinned (OpenSpec.upto sipRoundsSpec)

/-- 'brushwoodlaw05.SipSteps', WHERE WHAT IT READS IS OF BULK AT MOST 1048576: true; the input reads as it did. -/
def sipStepsUptoRow : OpenClaim := { program := "ytocideolihbnaaadoor", sum := "6bfc45460b0996c47ffc88eb9218f40d77ed723ca68bc1967a275f84e3fbc928", func := "brushwood/brushwoodlaw05.SipSteps", spec := "sipSteps", named := ["brushwood/sip.start"], apart := false, laid := [("brushwood/sip.start", laid_brushwood_sip_start)], narrowed := true }
def SipStepsUptoSaid : Prop := sipStepsUptoRow.holds Tryd.pinned (OpenSpec.upto sipStepsSpec)

/-- 'brushwoodlaw05.SipGoes', WHERE WHAT IT READS IS OF BULK AT MOST 1048576: true; the input reads as it did. -/
def sipGoesUptoRow : OpenClaim := { program := "ytocideolihbnaaadoor", sum := "6bfc45460b0996c47ffc88eb9218f40d77ed723ca68bc1967a275f84e3fbc928", func := "brushwood/brushwoodlaw05.SipGoes", spec := "sipGoes", named := ["brushwood/sip.start"], apart := false, laid := [("brushwood/sip.start", laid_brushwood_sip_start)], narrowed := true }
def SipGoesUptoSaid : Prop := sipGoesUptoRow.holds Tryd.pinned (OpenSpec.upto sipGoesSpec)

/-- 'brushwoodlaw05.SipBack', WHERE WHAT IT READS IS OF BULK AT MOST 1048576: true; the input reads as it did. -/
def sipBackUptoRow : OpenClaim := { program := "ytocideolihbnaaadoor", sum := "6bfc45460b0996c47ffc88eb9218f40d77ed723ca68bc1967a275f84e3fbc928", func := "brushwood/brushwoodlaw05.SipBack", spec := "sipBack", named := ["brushwood/sip.start"], apart := false, laid := [("brushwood/sip.start", laid_brushwood_sip_start)], narrowed := true }
def SipBackUptoSaid : Prop := sipBackUptoRow.holds Tryd.pinned (OpenSpec.upto sipBackSpec)

end Rows
end Go.Proofs.YtocideolihbnaaaDoor
