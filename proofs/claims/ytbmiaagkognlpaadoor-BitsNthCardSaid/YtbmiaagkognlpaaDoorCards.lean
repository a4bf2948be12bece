/-
  DERIVED. GIVEN WITH THE SEED: THE CARDS: each row of YtbmiaagkognlpaaDoorRows.lean that lists a variable, with what it lists TIED to the program's text (the seventh form; the later family's looks); each row that meets fmt, with fmt's text TOLD by the authors' own Lean function (tested against real Go, not proved from fmt's source: count such statements apart). THE CARD IS WHAT COUNTS. Prove the row's statement (the work); the ties are given (YtbmiaagkognlpaaDoorTie.lean); close each card by the builder's one call (the guide's Derived/Test/ToyasCard.lean, 'card_holds'). Laid BY PROGRAM, IN A SANDBOX (cutbox-door.mjs). By AI agents, Wed Nov 11 2026. No macro, syntax, notation, axiom, sorry.
-/
import Derived.Test.YtbmiaagkognlpaaDoorRows
import GoSem.ClaimSeven
namespace Go.Proofs.YtbmiaagkognlpaaDoor
namespace Rows

/-- THE TIED CARD OF 'brushwoodlaw06.ChunkCommon'. -/
def chunkCommonCard : Claim7 := { stood := { row := chunkCommonRow, standIns := [], harness := (true, "a98a0e24e883ff9108d99664199797ec1c0ae0b6fc9ba0855e6714286878936f"), looks := false }, kinds := [], alts := [], laidByText := true, laidKinds := [.data], laidTests := true, laidLooks := .later }
def ChunkCommonCardSaid : Prop := Claim7.holds Tryd.pinned (.plain (OpenSpec.ofChange chunkCommonSpec)) chunkCommonCard

/-- THE TIED CARD OF 'brushwoodlaw06.ChunkWays'. -/
def chunkWaysCard : Claim7 := { stood := { row := chunkWaysRow, standIns := [], harness := (true, "a98a0e24e883ff9108d99664199797ec1c0ae0b6fc9ba0855e6714286878936f"), looks := false }, kinds := [], alts := [], laidByText := true, laidKinds := [.data], laidTests := true, laidLooks := .later }
def ChunkWaysCardSaid : Prop := Claim7.holds Tryd.pinned (.plain (OpenSpec.ofChange chunkWaysSpec)) chunkWaysCard

/-- THE TIED CARD OF 'brushwoodlaw06.ChunkFrom'. -/
def chunkFromCard : Claim7 := { stood := { row := chunkFromRow, standIns := [], harness := (true, "a98a0e24e883ff9108d99664199797ec1c0ae0b6fc9ba0855e6714286878936f"), looks := false }, kinds := [], alts := [], laidByText := true, laidKinds := [.data], laidTests := true, laidLooks := .later }
def ChunkFromCardSaid : Prop := Claim7.holds Tryd.pinned (.plain (OpenSpec.ofChange chunkFromSpec)) chunkFromCard

/-- THE TIED CARD OF 'brushwoodlaw06.ChunkBack'. -/
def chunkBackCard : Claim7 := { stood := { row := chunkBackRow, standIns := [], harness := (true, "a98a0e24e883ff9108d99664199797ec1c0ae0b6fc9ba0855e6714286878936f"), looks := false }, kinds := [], alts := [], laidByText := true, laidKinds := [.data], laidTests := true, laidLooks := .later }
def ChunkBackCardSaid : Prop := Claim7.holds Tryd.pinned (.plain (OpenSpec.ofChange chunkBackSpec)) chunkBackCard

/-- THE TIED CARD OF 'brushwoodlaw07.BitsAll'. -/
def bitsAllCard : Claim7 := { stood := { row := bitsAllRow, standIns := [], harness := (true, "a98a0e24e883ff9108d99664199797ec1c0ae0b6fc9ba0855e6714286878936f"), looks := false }, kinds := [], alts := [], laidByText := true, laidKinds := [.data], laidTests := true, laidLooks := .later }
def BitsAllCardSaid : Prop := Claim7.holds Tryd.pinned (.plain (OpenSpec.ofChange bitsAllSpec)) bitsAllCard

/-- THE TIED CARD OF 'brushwoodlaw07.BitsNth'. -/
def bitsNthCard : Claim7 := { stood := { row := bitsNthRow, standIns := [], harness := (true, "a98a0e24e883ff9108d99664199797ec1c0ae0b6fc9ba0855e6714286878936f"), looks := false }, kinds := [], alts := [], laidByText := true, laidKinds := [.data], laidTests := true, laidLooks := .later }
def BitsNthCardSaid : Prop := Claim7.holds Tryd.pinned (.plain (OpenSpec.ofChange bitsNthSpec)) bitsNthCard

/-- THE SECOND FORM's CARD OF 'brushwoodlaw06.ChunkCommon'. -/
def chunkCommonUptoCard : Claim7 := { stood := { row := chunkCommonUptoRow, standIns := [], harness := (true, "a98a0e24e883ff9108d99664199797ec1c0ae0b6fc9ba0855e6714286878936f"), looks := false }, kinds := [], alts := [], laidByText := true, laidKinds := [.data], laidTests := true, laidLooks := .later }
def ChunkCommonUptoCardSaid : Prop := Claim7.holds Tryd.pinned (.plain (OpenSpec.upto chunkCommonSpec)) chunkCommonUptoCard

/-- THE SECOND FORM's CARD OF 'brushwoodlaw06.ChunkWays'. -/
def chunkWaysUptoCard : Claim7 := { stood := { row := chunkWaysUptoRow, standIns := [], harness := (true, "a98a0e24e883ff9108d99664199797ec1c0ae0b6fc9ba0855e6714286878936f"), looks := false }, kinds := [], alts := [], laidByText := true, laidKinds := [.data], laidTests := true, laidLooks := .later }
def ChunkWaysUptoCardSaid : Prop := Claim7.holds Tryd.pinned (.plain (OpenSpec.upto chunkWaysSpec)) chunkWaysUptoCard

/-- THE SECOND FORM's CARD OF 'brushwoodlaw06.ChunkFrom'. -/
def chunkFromUptoCard : Claim7 := { stood := { row := chunkFromUptoRow, standIns := [], harness := (true, "a98a0e24e883ff9108d99664199797ec1c0ae0b6fc9ba0855e6714286878936f"), looks := false }, kinds := [], alts := [], laidByText := true, laidKinds := [.data], laidTests := true, laidLooks := .later }
def ChunkFromUptoCardSaid : Prop := Claim7.holds Tryd.pinned (.plain (OpenSpec.upto chunkFromSpec)) chunkFromUptoCard

/-- THE SECOND FORM's CARD OF 'brushwoodlaw06.ChunkBack'. -/
def chunkBackUptoCard : Claim7 := { stood := { row := chunkBackUptoRow, standIns := [], harness := (true, "a98a0e24e883ff9108d99664199797ec1c0ae0b6fc9ba0855e6714286878936f"), looks := false }, kinds := [], alts := [], laidByText := true, laidKinds := [.data], laidTests := true, laidLooks := .later }
def ChunkBackUptoCardSaid : Prop := Claim7.holds Tryd.pinned (.plain (OpenSpec.upto chunkBackSpec)) chunkBackUptoCard

/-- THE SECOND FORM's CARD OF 'brushwoodlaw07.BitsAll'. -/
def bitsAllUptoCard : Claim7 := { stood := { row := bitsAllUptoRow, standIns := [], harness := (true, "a98a0e24e883ff9108d99664199797ec1c0ae0b6fc9ba0855e6714286878936f"), looks := false }, kinds := [], alts := [], laidByText := true, laidKinds := [.data], laidTests := true, laidLooks := .later }
def BitsAllUptoCardSaid : Prop := Claim7.holds Tryd.pinned (.plain (OpenSpec.upto bitsAllSpec)) bitsAllUptoCard

/-- THE SECOND FORM's CARD OF 'brushwoodlaw07.BitsNth'. -/
def bitsNthUptoCard : Claim7 := { stood := { row := bitsNthUptoRow, standIns := [], harness := (true, "a98a0e24e883ff9108d99664199797ec1c0ae0b6fc9ba0855e6714286878936f"), looks := false }, kinds := [], alts := [], laidByText := true, laidKinds := [.data], laidTests := true, laidLooks := .later }
def BitsNthUptoCardSaid : Prop := Claim7.holds Tryd.pinned (.plain (OpenSpec.upto bitsNthSpec)) bitsNthUptoCard
end Rows
end Go.Proofs.YtbmiaagkognlpaaDoor
