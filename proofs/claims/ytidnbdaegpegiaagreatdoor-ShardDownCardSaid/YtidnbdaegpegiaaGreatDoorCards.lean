/-
  DERIVED. GIVEN WITH THE SEED: THE CARDS: each row of YtidnbdaegpegiaaGreatDoorRows.lean that lists a variable, with what it lists TIED to the program's text (the seventh form; the later family's looks); each row that meets fmt, with fmt's text TOLD by the authors' own Lean function (tested against real Go, not proved from fmt's source: count such statements apart). THE CARD IS WHAT COUNTS. Prove the row's statement (the work); the ties are given (YtidnbdaegpegiaaGreatDoorTie.lean); close each card by the builder's one call (the guide's Derived/Test/ToyasCard.lean, 'card_holds'). Laid BY PROGRAM, IN A SANDBOX (cutbox-door.mjs). By AI agents, Wed Nov 11 2026. No macro, syntax, notation, axiom, sorry.
-/
import Derived.Test.YtidnbdaegpegiaaGreatDoorRows
import GoSem.ClaimSeven
namespace Go.Proofs.YtidnbdaegpegiaaGreatDoor
namespace Rows

/-- THE TIED CARD OF 'dockmasterlaw20.ShardDown'. -/
def shardDownCard : Claim7 := { stood := { row := shardDownRow, standIns := [], harness := (true, "58686c88eae94af05633f904cc7014431bb1889567dc00746803020602b89fc4"), looks := true }, kinds := [], alts := [], laidByText := true, laidKinds := [.data], laidTests := true, laidLooks := .later }
def ShardDownCardSaid : Prop := Claim7.holds Tryz.pinned (.plain (OpenSpec.ofChange shardDownSpec)) shardDownCard

/-- THE SECOND FORM's CARD OF 'dockmasterlaw20.ShardDown'. -/
def shardDownUptoCard : Claim7 := { stood := { row := shardDownUptoRow, standIns := [], harness := (true, "58686c88eae94af05633f904cc7014431bb1889567dc00746803020602b89fc4"), looks := true }, kinds := [], alts := [], laidByText := true, laidKinds := [.data], laidTests := true, laidLooks := .later }
def ShardDownUptoCardSaid : Prop := Claim7.holds Tryz.pinned (.plain (OpenSpec.upto shardDownSpec)) shardDownUptoCard
end Rows
end Go.Proofs.YtidnbdaegpegiaaGreatDoor
