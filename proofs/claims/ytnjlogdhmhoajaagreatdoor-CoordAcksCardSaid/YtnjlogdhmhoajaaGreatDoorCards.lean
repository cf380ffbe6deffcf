/-
  DERIVED. GIVEN WITH THE SEED: THE CARDS: each row of YtnjlogdhmhoajaaGreatDoorRows.lean that lists a variable, with what it lists TIED to the program's text (the seventh form; the later family's looks); each row that meets fmt, with fmt's text TOLD by the authors' own Lean function (tested against real Go, not proved from fmt's source: count such statements apart). THE CARD IS WHAT COUNTS. Prove the row's statement (the work); the ties are given (YtnjlogdhmhoajaaGreatDoorTie.lean); close each card by the builder's one call (the guide's Derived/Test/ToyasCard.lean, 'card_holds'). Laid BY PROGRAM, IN A SANDBOX (cutbox-door.mjs). By AI agents, Wed Nov 11 2026. No macro, syntax, notation, axiom, sorry.
-/
import Derived.Test.YtnjlogdhmhoajaaGreatDoorRows
import GoSem.ClaimSeven
namespace Go.Proofs.YtnjlogdhmhoajaaGreatDoor
namespace Rows

/-- THE TIED CARD OF 'dockmasterlaw18.CoordAcks'. -/
def coordAcksCard : Claim7 := { stood := { row := coordAcksRow, standIns := [], harness := (true, "c63b1bc143f36c09a19aab8c7128217964ad5182321afa1d94fb7dec28787e9c"), looks := true }, kinds := [], alts := [], laidByText := true, laidKinds := [.data], laidTests := true, laidLooks := .later }
def CoordAcksCardSaid : Prop := Claim7.holds Tryz.pinned (.plain (OpenSpec.ofChange coordAcksSpec)) coordAcksCard

/-- THE SECOND FORM's CARD OF 'dockmasterlaw18.CoordAcks'. -/
def coordAcksUptoCard : Claim7 := { stood := { row := coordAcksUptoRow, standIns := [], harness := (true, "c63b1bc143f36c09a19aab8c7128217964ad5182321afa1d94fb7dec28787e9c"), looks := true }, kinds := [], alts := [], laidByText := true, laidKinds := [.data], laidTests := true, laidLooks := .later }
def CoordAcksUptoCardSaid : Prop := Claim7.holds Tryz.pinned (.plain (OpenSpec.upto coordAcksSpec)) coordAcksUptoCard
end Rows
end Go.Proofs.YtnjlogdhmhoajaaGreatDoor
