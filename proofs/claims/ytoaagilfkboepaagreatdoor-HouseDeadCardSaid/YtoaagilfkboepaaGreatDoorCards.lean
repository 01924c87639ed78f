/-
  DERIVED. GIVEN WITH THE SEED: THE CARDS: each row of YtoaagilfkboepaaGreatDoorRows.lean that lists a variable, with what it lists TIED to the program's text (the seventh form; the later family's looks); each row that meets fmt, with fmt's text TOLD by the authors' own Lean function (tested against real Go, not proved from fmt's source: count such statements apart). THE CARD IS WHAT COUNTS. Prove the row's statement (the work); the ties are given (YtoaagilfkboepaaGreatDoorTie.lean); close each card by the builder's one call (the guide's Derived/Test/ToyasCard.lean, 'card_holds'). Laid BY PROGRAM, IN A SANDBOX (cutbox-door.mjs). By AI agents, Wed Nov 11 2026. No macro, syntax, notation, axiom, sorry.
-/
import Derived.Test.YtoaagilfkboepaaGreatDoorRows
import GoSem.ClaimSeven
namespace Go.Proofs.YtoaagilfkboepaaGreatDoor
namespace Rows

/-- THE TIED CARD OF 'variorumlaw26.TrailConflict'. -/
def trailConflictCard : Claim7 := { stood := { row := trailConflictRow, standIns := [], harness := (true, "e3a97d22c2768d4ef9f3429d5c08a76ead0b6677593415d98cf2d3851de0fe10"), looks := true }, kinds := [], alts := [], laidByText := true, laidKinds := [.pinned, .data, .sentinel, .sentinel, .data, .data, .data], laidTests := true, laidLooks := .later }
def TrailConflictCardSaid : Prop := Claim7.holds Tryz.pinned (.plain (OpenSpec.ofChange trailConflictSpec)) trailConflictCard

/-- THE TIED CARD OF 'variorumlaw26.TrailView'. -/
def trailViewCard : Claim7 := { stood := { row := trailViewRow, standIns := [], harness := (true, "e3a97d22c2768d4ef9f3429d5c08a76ead0b6677593415d98cf2d3851de0fe10"), looks := true }, kinds := [], alts := [], laidByText := true, laidKinds := [.pinned, .data, .sentinel, .sentinel, .data, .data, .data], laidTests := true, laidLooks := .later }
def TrailViewCardSaid : Prop := Claim7.holds Tryz.pinned (.plain (OpenSpec.ofChange trailViewSpec)) trailViewCard

/-- THE TIED CARD OF 'variorumlaw27.HouseAdmin'. -/
def houseAdminCard : Claim7 := { stood := { row := houseAdminRow, standIns := [], harness := (true, "e3a97d22c2768d4ef9f3429d5c08a76ead0b6677593415d98cf2d3851de0fe10"), looks := true }, kinds := [], alts := [], laidByText := true, laidKinds := [.pinned, .data, .sentinel, .sentinel, .data, .data, .data], laidTests := true, laidLooks := .later }
def HouseAdminCardSaid : Prop := Claim7.holds Tryz.pinned (.plain (OpenSpec.ofChange houseAdminSpec)) houseAdminCard

/-- THE TIED CARD OF 'variorumlaw27.HouseDead'. -/
def houseDeadCard : Claim7 := { stood := { row := houseDeadRow, standIns := [], harness := (true, "e3a97d22c2768d4ef9f3429d5c08a76ead0b6677593415d98cf2d3851de0fe10"), looks := true }, kinds := [], alts := [], laidByText := true, laidKinds := [.pinned, .data, .sentinel, .sentinel, .data, .data, .data], laidTests := true, laidLooks := .later }
def HouseDeadCardSaid : Prop := Claim7.holds Tryz.pinned (.plain (OpenSpec.ofChange houseDeadSpec)) houseDeadCard

/-- THE TIED CARD OF 'variorumlaw28.PlaySigns'. -/
def playSignsCard : Claim7 := { stood := { row := playSignsRow, standIns := [], harness := (true, "e3a97d22c2768d4ef9f3429d5c08a76ead0b6677593415d98cf2d3851de0fe10"), looks := true }, kinds := [], alts := [], laidByText := true, laidKinds := [.pinned, .data, .sentinel, .sentinel, .data, .data, .data], laidTests := true, laidLooks := .later }
def PlaySignsCardSaid : Prop := Claim7.holds Tryz.pinned (.plain (OpenSpec.ofChange playSignsSpec)) playSignsCard

/-- THE TIED CARD OF 'variorumlaw28.PlaySmall'. -/
def playSmallCard : Claim7 := { stood := { row := playSmallRow, standIns := [], harness := (true, "e3a97d22c2768d4ef9f3429d5c08a76ead0b6677593415d98cf2d3851de0fe10"), looks := true }, kinds := [], alts := [], laidByText := true, laidKinds := [.pinned, .data, .sentinel, .sentinel, .data, .data, .data], laidTests := true, laidLooks := .later }
def PlaySmallCardSaid : Prop := Claim7.holds Tryz.pinned (.plain (OpenSpec.ofChange playSmallSpec)) playSmallCard

/-- THE SECOND FORM's CARD OF 'variorumlaw26.TrailConflict'. -/
def trailConflictUptoCard : Claim7 := { stood := { row := trailConflictUptoRow, standIns := [], harness := (true, "e3a97d22c2768d4ef9f3429d5c08a76ead0b6677593415d98cf2d3851de0fe10"), looks := true }, kinds := [], alts := [], laidByText := true, laidKinds := [.pinned, .data, .sentinel, .sentinel, .data, .data, .data], laidTests := true, laidLooks := .later }
def TrailConflictUptoCardSaid : Prop := Claim7.holds Tryz.pinned (.plain (OpenSpec.upto trailConflictSpec)) trailConflictUptoCard

/-- THE SECOND FORM's CARD OF 'variorumlaw26.TrailView'. -/
def trailViewUptoCard : Claim7 := { stood := { row := trailViewUptoRow, standIns := [], harness := (true, "e3a97d22c2768d4ef9f3429d5c08a76ead0b6677593415d98cf2d3851de0fe10"), looks := true }, kinds := [], alts := [], laidByText := true, laidKinds := [.pinned, .data, .sentinel, .sentinel, .data, .data, .data], laidTests := true, laidLooks := .later }
def TrailViewUptoCardSaid : Prop := Claim7.holds Tryz.pinned (.plain (OpenSpec.upto trailViewSpec)) trailViewUptoCard

/-- THE SECOND FORM's CARD OF 'variorumlaw27.HouseAdmin'. -/
def houseAdminUptoCard : Claim7 := { stood := { row := houseAdminUptoRow, standIns := [], harness := (true, "e3a97d22c2768d4ef9f3429d5c08a76ead0b6677593415d98cf2d3851de0fe10"), looks := true }, kinds := [], alts := [], laidByText := true, laidKinds := [.pinned, .data, .sentinel, .sentinel, .data, .data, .data], laidTests := true, laidLooks := .later }
def HouseAdminUptoCardSaid : Prop := Claim7.holds Tryz.pinned (.plain (OpenSpec.upto houseAdminSpec)) houseAdminUptoCard

/-- THE SECOND FORM's CARD OF 'variorumlaw27.HouseDead'. -/
def houseDeadUptoCard : Claim7 := { stood := { row := houseDeadUptoRow, standIns := [], harness := (true, "e3a97d22c2768d4ef9f3429d5c08a76ead0b6677593415d98cf2d3851de0fe10"), looks := true }, kinds := [], alts := [], laidByText := true, laidKinds := [.pinned, .data, .sentinel, .sentinel, .data, .data, .data], laidTests := true, laidLooks := .later }
def HouseDeadUptoCardSaid : Prop := Claim7.holds Tryz.pinned (.plain (OpenSpec.upto houseDeadSpec)) houseDeadUptoCard

/-- THE SECOND FORM's CARD OF 'variorumlaw28.PlaySigns'. -/
def playSignsUptoCard : Claim7 := { stood := { row := playSignsUptoRow, standIns := [], harness := (true, "e3a97d22c2768d4ef9f3429d5c08a76ead0b6677593415d98cf2d3851de0fe10"), looks := true }, kinds := [], alts := [], laidByText := true, laidKinds := [.pinned, .data, .sentinel, .sentinel, .data, .data, .data], laidTests := true, laidLooks := .later }
def PlaySignsUptoCardSaid : Prop := Claim7.holds Tryz.pinned (.plain (OpenSpec.upto playSignsSpec)) playSignsUptoCard

/-- THE SECOND FORM's CARD OF 'variorumlaw28.PlaySmall'. -/
def playSmallUptoCard : Claim7 := { stood := { row := playSmallUptoRow, standIns := [], harness := (true, "e3a97d22c2768d4ef9f3429d5c08a76ead0b6677593415d98cf2d3851de0fe10"), looks := true }, kinds := [], alts := [], laidByText := true, laidKinds := [.pinned, .data, .sentinel, .sentinel, .data, .data, .data], laidTests := true, laidLooks := .later }
def PlaySmallUptoCardSaid : Prop := Claim7.holds Tryz.pinned (.plain (OpenSpec.upto playSmallSpec)) playSmallUptoCard
end Rows
end Go.Proofs.YtoaagilfkboepaaGreatDoor
