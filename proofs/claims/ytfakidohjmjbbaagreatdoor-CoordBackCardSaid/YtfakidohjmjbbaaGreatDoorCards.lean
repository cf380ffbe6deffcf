/-
  DERIVED. GIVEN WITH THE SEED: THE CARDS: each row of YtfakidohjmjbbaaGreatDoorRows.lean that lists a variable, with what it lists TIED to the program's text (the seventh form; the later family's looks); each row that meets fmt, with fmt's text TOLD by the authors' own Lean function (tested against real Go, not proved from fmt's source: count such statements apart). THE CARD IS WHAT COUNTS. Prove the row's statement (the work); the ties are given (YtfakidohjmjbbaaGreatDoorTie.lean); close each card by the builder's one call (the guide's Derived/Test/ToyasCard.lean, 'card_holds'). Laid BY PROGRAM, IN A SANDBOX (cutbox-door.mjs). By AI agents, Wed Nov 11 2026. No macro, syntax, notation, axiom, sorry.
-/
import Derived.Test.YtfakidohjmjbbaaGreatDoorRows
import GoSem.ClaimSeven
namespace Go.Proofs.YtfakidohjmjbbaaGreatDoor
namespace Rows

/-- THE TIED CARD OF 'dockmasterlaw18.CoordBack'. -/
def coordBackCard : Claim7 := { stood := { row := coordBackRow, standIns := [], harness := (true, "686caa6bdecc1745a4d5b7222202bb26e003a4bf42ba395c2a30b0ff4aaffa55"), looks := true }, kinds := [], alts := [], laidByText := true, laidKinds := [.data], laidTests := true, laidLooks := .later }
def CoordBackCardSaid : Prop := Claim7.holds Tryz.pinned (.plain (OpenSpec.ofChange coordBackSpec)) coordBackCard

/-- THE SECOND FORM's CARD OF 'dockmasterlaw18.CoordBack'. -/
def coordBackUptoCard : Claim7 := { stood := { row := coordBackUptoRow, standIns := [], harness := (true, "686caa6bdecc1745a4d5b7222202bb26e003a4bf42ba395c2a30b0ff4aaffa55"), looks := true }, kinds := [], alts := [], laidByText := true, laidKinds := [.data], laidTests := true, laidLooks := .later }
def CoordBackUptoCardSaid : Prop := Claim7.holds Tryz.pinned (.plain (OpenSpec.upto coordBackSpec)) coordBackUptoCard
end Rows
end Go.Proofs.YtfakidohjmjbbaaGreatDoor
