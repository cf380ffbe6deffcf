/-
  DERIVED. GIVEN WITH THE SEED: THE CARDS: each row of YtckfbdnkgjpmlaaGreatDoorRows.lean that lists a variable, with what it lists TIED to the program's text (the seventh form; the later family's looks); each row that meets fmt, with fmt's text TOLD by the authors' own Lean function (tested against real Go, not proved from fmt's source: count such statements apart). THE CARD IS WHAT COUNTS. Prove the row's statement (the work); the ties are given (YtckfbdnkgjpmlaaGreatDoorTie.lean); close each card by the builder's one call (the guide's Derived/Test/ToyasCard.lean, 'card_holds'). Laid BY PROGRAM, IN A SANDBOX (cutbox-door.mjs). By AI agents, Wed Nov 11 2026. No macro, syntax, notation, axiom, sorry.
-/
import Derived.Test.YtckfbdnkgjpmlaaGreatDoorRows
import GoSem.ClaimSeven
namespace Go.Proofs.YtckfbdnkgjpmlaaGreatDoor
namespace Rows

/-- THE TIED CARD OF 'dockmasterlaw21.WorldNil'. -/
def worldNilCard : Claim7 := { stood := { row := worldNilRow, standIns := [], harness := (true, "08d4ba8597b9636e8bc9ef96610bf97b2725c11e68c7e432244e4dedebf65af4"), looks := true }, kinds := [], alts := [], laidByText := true, laidKinds := [.data], laidTests := true, laidLooks := .later }
def WorldNilCardSaid : Prop := Claim7.holds Tryz.pinned (.plain (OpenSpec.ofChange worldNilSpec)) worldNilCard

/-- THE SECOND FORM's CARD OF 'dockmasterlaw21.WorldNil'. -/
def worldNilUptoCard : Claim7 := { stood := { row := worldNilUptoRow, standIns := [], harness := (true, "08d4ba8597b9636e8bc9ef96610bf97b2725c11e68c7e432244e4dedebf65af4"), looks := true }, kinds := [], alts := [], laidByText := true, laidKinds := [.data], laidTests := true, laidLooks := .later }
def WorldNilUptoCardSaid : Prop := Claim7.holds Tryz.pinned (.plain (OpenSpec.upto worldNilSpec)) worldNilUptoCard
end Rows
end Go.Proofs.YtckfbdnkgjpmlaaGreatDoor
