/-
  DERIVED. GIVEN WITH THE SEED: THE CARDS: each row of YtphjaebkcimklaaGreatDoorRows.lean that lists a variable, with what it lists TIED to the program's text (the seventh form; the later family's looks); each row that meets fmt, with fmt's text TOLD by the authors' own Lean function (tested against real Go, not proved from fmt's source: count such statements apart). THE CARD IS WHAT COUNTS. Prove the row's statement (the work); the ties are given (YtphjaebkcimklaaGreatDoorTie.lean); close each card by the builder's one call (the guide's Derived/Test/ToyasCard.lean, 'card_holds'). Laid BY PROGRAM, IN A SANDBOX (cutbox-door.mjs). By AI agents, Wed Nov 11 2026. No macro, syntax, notation, axiom, sorry.
-/
import Derived.Test.YtphjaebkcimklaaGreatDoorRows
import GoSem.ClaimSeven
namespace Go.Proofs.YtphjaebkcimklaaGreatDoor
namespace Rows

/-- THE TIED CARD OF 'brushwoodlaw23.ScanGroups'. -/
def scanGroupsCard : Claim7 := { stood := { row := scanGroupsRow, standIns := [], harness := (true, "bd6759555fb8cbd306a2687774d00af69802f7cad587e06cc0868a25a549b607"), looks := true }, kinds := [], alts := [], laidByText := true, laidKinds := [.data, .data], laidTests := true, laidLooks := .later }
def ScanGroupsCardSaid : Prop := Claim7.holds Tryz.pinned (.plain (OpenSpec.ofChange scanGroupsSpec)) scanGroupsCard

/-- THE TIED CARD OF 'brushwoodlaw23.ScanSums'. -/
def scanSumsCard : Claim7 := { stood := { row := scanSumsRow, standIns := [], harness := (true, "bd6759555fb8cbd306a2687774d00af69802f7cad587e06cc0868a25a549b607"), looks := true }, kinds := [], alts := [], laidByText := true, laidKinds := [.data, .data], laidTests := true, laidLooks := .later }
def ScanSumsCardSaid : Prop := Claim7.holds Tryz.pinned (.plain (OpenSpec.ofChange scanSumsSpec)) scanSumsCard

/-- THE TIED CARD OF 'brushwoodlaw23.ScanTells'. -/
def scanTellsCard : Claim7 := { stood := { row := scanTellsRow, standIns := [], harness := (true, "bd6759555fb8cbd306a2687774d00af69802f7cad587e06cc0868a25a549b607"), looks := true }, kinds := [], alts := [], laidByText := true, laidKinds := [.data, .data], laidTests := true, laidLooks := .later }
def ScanTellsCardSaid : Prop := Claim7.holds Tryz.pinned (.plain (OpenSpec.ofChange scanTellsSpec)) scanTellsCard

/-- THE TIED CARD OF 'brushwoodlaw23.ScanRanges'. -/
def scanRangesCard : Claim7 := { stood := { row := scanRangesRow, standIns := [], harness := (true, "bd6759555fb8cbd306a2687774d00af69802f7cad587e06cc0868a25a549b607"), looks := true }, kinds := [], alts := [], laidByText := true, laidKinds := [.data, .data], laidTests := true, laidLooks := .later }
def ScanRangesCardSaid : Prop := Claim7.holds Tryz.pinned (.plain (OpenSpec.ofChange scanRangesSpec)) scanRangesCard

/-- THE TIED CARD OF 'brushwoodlaw23.ScanParts'. -/
def scanPartsCard : Claim7 := { stood := { row := scanPartsRow, standIns := [], harness := (true, "bd6759555fb8cbd306a2687774d00af69802f7cad587e06cc0868a25a549b607"), looks := true }, kinds := [], alts := [], laidByText := true, laidKinds := [.data, .data], laidTests := true, laidLooks := .later }
def ScanPartsCardSaid : Prop := Claim7.holds Tryz.pinned (.plain (OpenSpec.ofChange scanPartsSpec)) scanPartsCard

/-- THE SECOND FORM's CARD OF 'brushwoodlaw23.ScanGroups'. -/
def scanGroupsUptoCard : Claim7 := { stood := { row := scanGroupsUptoRow, standIns := [], harness := (true, "bd6759555fb8cbd306a2687774d00af69802f7cad587e06cc0868a25a549b607"), looks := true }, kinds := [], alts := [], laidByText := true, laidKinds := [.data, .data], laidTests := true, laidLooks := .later }
def ScanGroupsUptoCardSaid : Prop := Claim7.holds Tryz.pinned (.plain (OpenSpec.upto scanGroupsSpec)) scanGroupsUptoCard

/-- THE SECOND FORM's CARD OF 'brushwoodlaw23.ScanSums'. -/
def scanSumsUptoCard : Claim7 := { stood := { row := scanSumsUptoRow, standIns := [], harness := (true, "bd6759555fb8cbd306a2687774d00af69802f7cad587e06cc0868a25a549b607"), looks := true }, kinds := [], alts := [], laidByText := true, laidKinds := [.data, .data], laidTests := true, laidLooks := .later }
def ScanSumsUptoCardSaid : Prop := Claim7.holds Tryz.pinned (.plain (OpenSpec.upto scanSumsSpec)) scanSumsUptoCard

/-- THE SECOND FORM's CARD OF 'brushwoodlaw23.ScanTells'. -/
def scanTellsUptoCard : Claim7 := { stood := { row := scanTellsUptoRow, standIns := [], harness := (true, "bd6759555fb8cbd306a2687774d00af69802f7cad587e06cc0868a25a549b607"), looks := true }, kinds := [], alts := [], laidByText := true, laidKinds := [.data, .data], laidTests := true, laidLooks := .later }
def ScanTellsUptoCardSaid : Prop := Claim7.holds Tryz.pinned (.plain (OpenSpec.upto scanTellsSpec)) scanTellsUptoCard

/-- THE SECOND FORM's CARD OF 'brushwoodlaw23.ScanRanges'. -/
def scanRangesUptoCard : Claim7 := { stood := { row := scanRangesUptoRow, standIns := [], harness := (true, "bd6759555fb8cbd306a2687774d00af69802f7cad587e06cc0868a25a549b607"), looks := true }, kinds := [], alts := [], laidByText := true, laidKinds := [.data, .data], laidTests := true, laidLooks := .later }
def ScanRangesUptoCardSaid : Prop := Claim7.holds Tryz.pinned (.plain (OpenSpec.upto scanRangesSpec)) scanRangesUptoCard

/-- THE SECOND FORM's CARD OF 'brushwoodlaw23.ScanParts'. -/
def scanPartsUptoCard : Claim7 := { stood := { row := scanPartsUptoRow, standIns := [], harness := (true, "bd6759555fb8cbd306a2687774d00af69802f7cad587e06cc0868a25a549b607"), looks := true }, kinds := [], alts := [], laidByText := true, laidKinds := [.data, .data], laidTests := true, laidLooks := .later }
def ScanPartsUptoCardSaid : Prop := Claim7.holds Tryz.pinned (.plain (OpenSpec.upto scanPartsSpec)) scanPartsUptoCard
end Rows
end Go.Proofs.YtphjaebkcimklaaGreatDoor
