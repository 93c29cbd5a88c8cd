/-
  DERIVED. GIVEN WITH THE SEED: THE CARDS: each row of YtdnincnfamcchaaDoorRows.lean that lists a variable, with what it lists TIED to the program's text (the seventh form; the later family's looks); each row that meets fmt, with fmt's text TOLD by the authors' own Lean function (tested against real Go, not proved from fmt's source: count such statements apart). THE CARD IS WHAT COUNTS. Prove the row's statement (the work); the ties are given (YtdnincnfamcchaaDoorTie.lean); close each card by the builder's one call (the guide's Derived/Test/ToyasCard.lean, 'card_holds'). Laid BY PROGRAM, IN A SANDBOX (cutbox-door.mjs). By AI agents, Wed Nov 11 2026. No macro, syntax, notation, axiom, sorry.
-/
import Derived.Test.YtdnincnfamcchaaDoorRows
import GoSem.ClaimSeven
namespace Go.Proofs.YtdnincnfamcchaaDoor
namespace Rows

/-- THE TIED CARD OF 'cellaragelaw09.SpaceTakes'. -/
def spaceTakesCard : Claim7 := { stood := { row := spaceTakesRow, standIns := [], harness := (true, "8729ef8ee8f3acf5383b33b7ae4ab2ed624fff977e4df8fa5104da95a00a15c4"), looks := false }, kinds := [], alts := [], laidByText := true, laidKinds := [.data], laidTests := true, laidLooks := .later }
def SpaceTakesCardSaid : Prop := Claim7.holds Tryd.pinned (.plain (OpenSpec.ofChange spaceTakesSpec)) spaceTakesCard

/-- THE TIED CARD OF 'cellaragelaw09.SpaceLoads'. -/
def spaceLoadsCard : Claim7 := { stood := { row := spaceLoadsRow, standIns := [], harness := (true, "8729ef8ee8f3acf5383b33b7ae4ab2ed624fff977e4df8fa5104da95a00a15c4"), looks := false }, kinds := [], alts := [], laidByText := true, laidKinds := [.data], laidTests := true, laidLooks := .later }
def SpaceLoadsCardSaid : Prop := Claim7.holds Tryd.pinned (.plain (OpenSpec.ofChange spaceLoadsSpec)) spaceLoadsCard

/-- THE TIED CARD OF 'cellaragelaw09.SpaceLeast'. -/
def spaceLeastCard : Claim7 := { stood := { row := spaceLeastRow, standIns := [], harness := (true, "8729ef8ee8f3acf5383b33b7ae4ab2ed624fff977e4df8fa5104da95a00a15c4"), looks := false }, kinds := [], alts := [], laidByText := true, laidKinds := [.data], laidTests := true, laidLooks := .later }
def SpaceLeastCardSaid : Prop := Claim7.holds Tryd.pinned (.plain (OpenSpec.ofChange spaceLeastSpec)) spaceLeastCard

/-- THE TIED CARD OF 'cellaragelaw09.SpacePlays'. -/
def spacePlaysCard : Claim7 := { stood := { row := spacePlaysRow, standIns := [], harness := (true, "8729ef8ee8f3acf5383b33b7ae4ab2ed624fff977e4df8fa5104da95a00a15c4"), looks := false }, kinds := [], alts := [], laidByText := true, laidKinds := [.data], laidTests := true, laidLooks := .later }
def SpacePlaysCardSaid : Prop := Claim7.holds Tryd.pinned (.plain (OpenSpec.ofChange spacePlaysSpec)) spacePlaysCard

/-- THE TIED CARD OF 'cellaragelaw09.SpaceBack'. -/
def spaceBackCard : Claim7 := { stood := { row := spaceBackRow, standIns := [], harness := (true, "8729ef8ee8f3acf5383b33b7ae4ab2ed624fff977e4df8fa5104da95a00a15c4"), looks := false }, kinds := [], alts := [], laidByText := true, laidKinds := [.data], laidTests := true, laidLooks := .later }
def SpaceBackCardSaid : Prop := Claim7.holds Tryd.pinned (.plain (OpenSpec.ofChange spaceBackSpec)) spaceBackCard

/-- THE TIED CARD OF 'cellaragelaw09.SpaceNil'. -/
def spaceNilCard : Claim7 := { stood := { row := spaceNilRow, standIns := [], harness := (true, "8729ef8ee8f3acf5383b33b7ae4ab2ed624fff977e4df8fa5104da95a00a15c4"), looks := false }, kinds := [], alts := [], laidByText := true, laidKinds := [.data], laidTests := true, laidLooks := .later }
def SpaceNilCardSaid : Prop := Claim7.holds Tryd.pinned (.plain (OpenSpec.ofChange spaceNilSpec)) spaceNilCard

/-- THE SECOND FORM's CARD OF 'cellaragelaw09.SpaceTakes'. -/
def spaceTakesUptoCard : Claim7 := { stood := { row := spaceTakesUptoRow, standIns := [], harness := (true, "8729ef8ee8f3acf5383b33b7ae4ab2ed624fff977e4df8fa5104da95a00a15c4"), looks := false }, kinds := [], alts := [], laidByText := true, laidKinds := [.data], laidTests := true, laidLooks := .later }
def SpaceTakesUptoCardSaid : Prop := Claim7.holds Tryd.pinned (.plain (OpenSpec.upto spaceTakesSpec)) spaceTakesUptoCard

/-- THE SECOND FORM's CARD OF 'cellaragelaw09.SpaceLoads'. -/
def spaceLoadsUptoCard : Claim7 := { stood := { row := spaceLoadsUptoRow, standIns := [], harness := (true, "8729ef8ee8f3acf5383b33b7ae4ab2ed624fff977e4df8fa5104da95a00a15c4"), looks := false }, kinds := [], alts := [], laidByText := true, laidKinds := [.data], laidTests := true, laidLooks := .later }
def SpaceLoadsUptoCardSaid : Prop := Claim7.holds Tryd.pinned (.plain (OpenSpec.upto spaceLoadsSpec)) spaceLoadsUptoCard

/-- THE SECOND FORM's CARD OF 'cellaragelaw09.SpaceLeast'. -/
def spaceLeastUptoCard : Claim7 := { stood := { row := spaceLeastUptoRow, standIns := [], harness := (true, "8729ef8ee8f3acf5383b33b7ae4ab2ed624fff977e4df8fa5104da95a00a15c4"), looks := false }, kinds := [], alts := [], laidByText := true, laidKinds := [.data], laidTests := true, laidLooks := .later }
def SpaceLeastUptoCardSaid : Prop := Claim7.holds Tryd.pinned (.plain (OpenSpec.upto spaceLeastSpec)) spaceLeastUptoCard

/-- THE SECOND FORM's CARD OF 'cellaragelaw09.SpacePlays'. -/
def spacePlaysUptoCard : Claim7 := { stood := { row := spacePlaysUptoRow, standIns := [], harness := (true, "8729ef8ee8f3acf5383b33b7ae4ab2ed624fff977e4df8fa5104da95a00a15c4"), looks := false }, kinds := [], alts := [], laidByText := true, laidKinds := [.data], laidTests := true, laidLooks := .later }
def SpacePlaysUptoCardSaid : Prop := Claim7.holds Tryd.pinned (.plain (OpenSpec.upto spacePlaysSpec)) spacePlaysUptoCard

/-- THE SECOND FORM's CARD OF 'cellaragelaw09.SpaceBack'. -/
def spaceBackUptoCard : Claim7 := { stood := { row := spaceBackUptoRow, standIns := [], harness := (true, "8729ef8ee8f3acf5383b33b7ae4ab2ed624fff977e4df8fa5104da95a00a15c4"), looks := false }, kinds := [], alts := [], laidByText := true, laidKinds := [.data], laidTests := true, laidLooks := .later }
def SpaceBackUptoCardSaid : Prop := Claim7.holds Tryd.pinned (.plain (OpenSpec.upto spaceBackSpec)) spaceBackUptoCard

/-- THE SECOND FORM's CARD OF 'cellaragelaw09.SpaceNil'. -/
def spaceNilUptoCard : Claim7 := { stood := { row := spaceNilUptoRow, standIns := [], harness := (true, "8729ef8ee8f3acf5383b33b7ae4ab2ed624fff977e4df8fa5104da95a00a15c4"), looks := false }, kinds := [], alts := [], laidByText := true, laidKinds := [.data], laidTests := true, laidLooks := .later }
def SpaceNilUptoCardSaid : Prop := Claim7.holds Tryd.pinned (.plain (OpenSpec.upto spaceNilSpec)) spaceNilUptoCard
end Rows
end Go.Proofs.YtdnincnfamcchaaDoor
