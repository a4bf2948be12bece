/-
  DERIVED. GIVEN WITH THE SEED: THE CARDS: each row of YtocideolihbnaaaDoorRows.lean that lists a variable, with what it lists TIED to the program's text (the seventh form; the later family's looks); each row that meets fmt, with fmt's text TOLD by the authors' own Lean function (tested against real Go, not proved from fmt's source: count such statements apart). THE CARD IS WHAT COUNTS. Prove the row's statement (the work); the ties are given (YtocideolihbnaaaDoorTie.lean); close each card by the builder's one call (the guide's Derived/Test/ToyasCard.lean, 'card_holds'). Laid BY PROGRAM, IN A SANDBOX (cutbox-door.mjs). By AI agents, Wed Nov 11 2026. No macro, syntax, notation, axiom, sorry.
-/
import Derived.Test.YtocideolihbnaaaDoorRows
import GoSem.ClaimSeven
namespace Go.Proofs.YtocideolihbnaaaDoor
namespace Rows

/-- THE TIED CARD OF 'brushwoodlaw05.SipHashes'. -/
def sipHashesCard : Claim7 := { stood := { row := sipHashesRow, standIns := [], harness := (true, "117d616d793757e0455e54b43a2e517e7ba4448f8c33d46ecf3be819beae75de"), looks := false }, kinds := [], alts := [], laidByText := true, laidKinds := [.data], laidTests := true, laidLooks := .later }
def SipHashesCardSaid : Prop := Claim7.holds Tryd.pinned (.plain (OpenSpec.ofChange sipHashesSpec)) sipHashesCard

/-- THE TIED CARD OF 'brushwoodlaw05.SipRounds'. -/
def sipRoundsCard : Claim7 := { stood := { row := sipRoundsRow, standIns := [], harness := (true, "117d616d793757e0455e54b43a2e517e7ba4448f8c33d46ecf3be819beae75de"), looks := false }, kinds := [], alts := [], laidByText := true, laidKinds := [.data], laidTests := true, laidLooks := .later }
def SipRoundsCardSaid : Prop := Claim7.holds Tryd.pinned (.plain (OpenSpec.ofChange sipRoundsSpec)) sipRoundsCard

/-- THE TIED CARD OF 'brushwoodlaw05.SipSteps'. -/
def sipStepsCard : Claim7 := { stood := { row := sipStepsRow, standIns := [], harness := (true, "117d616d793757e0455e54b43a2e517e7ba4448f8c33d46ecf3be819beae75de"), looks := false }, kinds := [], alts := [], laidByText := true, laidKinds := [.data], laidTests := true, laidLooks := .later }
def SipStepsCardSaid : Prop := Claim7.holds Tryd.pinned (.plain (OpenSpec.ofChange sipStepsSpec)) sipStepsCard

/-- THE TIED CARD OF 'brushwoodlaw05.SipGoes'. -/
def sipGoesCard : Claim7 := { stood := { row := sipGoesRow, standIns := [], harness := (true, "117d616d793757e0455e54b43a2e517e7ba4448f8c33d46ecf3be819beae75de"), looks := false }, kinds := [], alts := [], laidByText := true, laidKinds := [.data], laidTests := true, laidLooks := .later }
def SipGoesCardSaid : Prop := Claim7.holds Tryd.pinned (.plain (OpenSpec.ofChange sipGoesSpec)) sipGoesCard

/-- THE TIED CARD OF 'brushwoodlaw05.SipBack'. -/
def sipBackCard : Claim7 := { stood := { row := sipBackRow, standIns := [], harness := (true, "117d616d793757e0455e54b43a2e517e7ba4448f8c33d46ecf3be819beae75de"), looks := false }, kinds := [], alts := [], laidByText := true, laidKinds := [.data], laidTests := true, laidLooks := .later }
def SipBackCardSaid : Prop := Claim7.holds Tryd.pinned (.plain (OpenSpec.ofChange sipBackSpec)) sipBackCard

/-- THE SECOND FORM's CARD OF 'brushwoodlaw05.SipHashes'. -/
def sipHashesUptoCard : Claim7 := { stood := { row := sipHashesUptoRow, standIns := [], harness := (true, "117d616d793757e0455e54b43a2e517e7ba4448f8c33d46ecf3be819beae75de"), looks := false }, kinds := [], alts := [], laidByText := true, laidKinds := [.data], laidTests := true, laidLooks := .later }
def SipHashesUptoCardSaid : Prop := Claim7.holds Tryd.pinned (.plain (OpenSpec.upto sipHashesSpec)) sipHashesUptoCard

/-- THE SECOND FORM's CARD OF 'brushwoodlaw05.SipRounds'. -/
def sipRoundsUptoCard : Claim7 := { stood := { row := sipRoundsUptoRow, standIns := [], harness := (true, "117d616d793757e0455e54b43a2e517e7ba4448f8c33d46ecf3be819beae75de"), looks := false }, kinds := [], alts := [], laidByText := true, laidKinds := [.data], laidTests := true, laidLooks := .later }
def SipRoundsUptoCardSaid : Prop := Claim7.holds Tryd.pinned (.plain (OpenSpec.upto sipRoundsSpec)) sipRoundsUptoCard

/-- THE SECOND FORM's CARD OF 'brushwoodlaw05.SipSteps'. -/
def sipStepsUptoCard : Claim7 := { stood := { row := sipStepsUptoRow, standIns := [], harness := (true, "117d616d793757e0455e54b43a2e517e7ba4448f8c33d46ecf3be819beae75de"), looks := false }, kinds := [], alts := [], laidByText := true, laidKinds := [.data], laidTests := true, laidLooks := .later }
def SipStepsUptoCardSaid : Prop := Claim7.holds Tryd.pinned (.plain (OpenSpec.upto sipStepsSpec)) sipStepsUptoCard

/-- THE SECOND FORM's CARD OF 'brushwoodlaw05.SipGoes'. -/
def sipGoesUptoCard : Claim7 := { stood := { row := sipGoesUptoRow, standIns := [], harness := (true, "117d616d793757e0455e54b43a2e517e7ba4448f8c33d46ecf3be819beae75de"), looks := false }, kinds := [], alts := [], laidByText := true, laidKinds := [.data], laidTests := true, laidLooks := .later }
def SipGoesUptoCardSaid : Prop := Claim7.holds Tryd.pinned (.plain (OpenSpec.upto sipGoesSpec)) sipGoesUptoCard

/-- THE SECOND FORM's CARD OF 'brushwoodlaw05.SipBack'. -/
def sipBackUptoCard : Claim7 := { stood := { row := sipBackUptoRow, standIns := [], harness := (true, "117d616d793757e0455e54b43a2e517e7ba4448f8c33d46ecf3be819beae75de"), looks := false }, kinds := [], alts := [], laidByText := true, laidKinds := [.data], laidTests := true, laidLooks := .later }
def SipBackUptoCardSaid : Prop := Claim7.holds Tryd.pinned (.plain (OpenSpec.upto sipBackSpec)) sipBackUptoCard
end Rows
end Go.Proofs.YtocideolihbnaaaDoor
