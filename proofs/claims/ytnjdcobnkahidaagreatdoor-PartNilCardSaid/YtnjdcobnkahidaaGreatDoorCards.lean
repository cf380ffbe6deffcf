/-
  DERIVED. GIVEN WITH THE SEED: THE CARDS: each row of YtnjdcobnkahidaaGreatDoorRows.lean that lists a variable, with what it lists TIED to the program's text (the seventh form; the later family's looks); each row that meets fmt, with fmt's text TOLD by the authors' own Lean function (tested against real Go, not proved from fmt's source: count such statements apart). THE CARD IS WHAT COUNTS. Prove the row's statement (the work); the ties are given (YtnjdcobnkahidaaGreatDoorTie.lean); close each card by the builder's one call (the guide's Derived/Test/ToyasCard.lean, 'card_holds'). Laid BY PROGRAM, IN A SANDBOX (cutbox-door.mjs). By AI agents, Wed Nov 11 2026. No macro, syntax, notation, axiom, sorry.
-/
import Derived.Test.YtnjdcobnkahidaaGreatDoorRows
import GoSem.ClaimSeven
namespace Go.Proofs.YtnjdcobnkahidaaGreatDoor
namespace Rows

/-- THE TIED CARD OF 'dockmasterlaw18.CoordNil'. -/
def coordNilCard : Claim7 := { stood := { row := coordNilRow, standIns := [], harness := (true, "d5b656f41d3bb7c31583c3026ab55c05b24e3941bf7ddb2f06113ad6324d8e46"), looks := true }, kinds := [], alts := [], laidByText := true, laidKinds := [.data], laidTests := true, laidLooks := .later }
def CoordNilCardSaid : Prop := Claim7.holds Tryz.pinned (.plain (OpenSpec.ofChange coordNilSpec)) coordNilCard

/-- THE TIED CARD OF 'dockmasterlaw17.PartNil'. -/
def partNilCard : Claim7 := { stood := { row := partNilRow, standIns := [], harness := (true, "d5b656f41d3bb7c31583c3026ab55c05b24e3941bf7ddb2f06113ad6324d8e46"), looks := true }, kinds := [], alts := [], laidByText := true, laidKinds := [.data], laidTests := true, laidLooks := .later }
def PartNilCardSaid : Prop := Claim7.holds Tryz.pinned (.plain (OpenSpec.ofChange partNilSpec)) partNilCard

/-- THE SECOND FORM's CARD OF 'dockmasterlaw18.CoordNil'. -/
def coordNilUptoCard : Claim7 := { stood := { row := coordNilUptoRow, standIns := [], harness := (true, "d5b656f41d3bb7c31583c3026ab55c05b24e3941bf7ddb2f06113ad6324d8e46"), looks := true }, kinds := [], alts := [], laidByText := true, laidKinds := [.data], laidTests := true, laidLooks := .later }
def CoordNilUptoCardSaid : Prop := Claim7.holds Tryz.pinned (.plain (OpenSpec.upto coordNilSpec)) coordNilUptoCard

/-- THE SECOND FORM's CARD OF 'dockmasterlaw17.PartNil'. -/
def partNilUptoCard : Claim7 := { stood := { row := partNilUptoRow, standIns := [], harness := (true, "d5b656f41d3bb7c31583c3026ab55c05b24e3941bf7ddb2f06113ad6324d8e46"), looks := true }, kinds := [], alts := [], laidByText := true, laidKinds := [.data], laidTests := true, laidLooks := .later }
def PartNilUptoCardSaid : Prop := Claim7.holds Tryz.pinned (.plain (OpenSpec.upto partNilSpec)) partNilUptoCard
end Rows
end Go.Proofs.YtnjdcobnkahidaaGreatDoor
