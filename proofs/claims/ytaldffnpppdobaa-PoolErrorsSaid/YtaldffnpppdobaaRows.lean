/-
  No cell of these rows narrows 'for every input' (looked for: loops, veiled, ifaces, maps, wideKeys, modest, calm, conditions, laid).
  DERIVED. THE GIVEN ROWS OF THIS SEAT. 10 by the template 'for every input the law returns true; each argument reads behind the call as it read before'; 0 by the template 'total and deterministic' (their statements: YtaldffnpppdobaaTotals.lean).
  GIVEN WITH THE SEED: the statements are not yours to turn. If you find one false, say at which input.
  Laid BY PROGRAM, IN A SANDBOX (cutbox-rows.mjs): the forced cells as the released guide's own fill.sh prints them over the translation 69ee41ba568335ea… (all of the seat's roots in one cut). By AI agents, Wed Nov 11 2026. No macro, syntax, notation, axiom, sorry.
-/
import Derived.Test.YtaldffnpppdobaaChecked
import GoSem.Claim
import GoSem.ClaimJoined
import GoSem.ClaimMapViews
import Derived.JoinedTies
import Derived.KernelRfl
namespace Go.Proofs.Ytaldffnpppdobaa
/- THE CELL 'sum', in the pinned program and in every row, IS THE sha256 OF THE DUMP (.gsa) THAT YtaldffnpppdobaaProg.lean LOADS. Nothing in Lean hashes anything: it is a label: what it is worth is what the hold of that sum in a sandbox is worth. -/
noncomputable def Try.pinned : Pinned := { name := "ytaldffnpppdobaa", sum := "69ee41ba568335eafc65944c3dbb75bcf8fabe9a73ddce986260e87bb9831e9c", checked := Try.checked }
namespace Rows
def none {H : Type} : Left H := { results := [], args := [] }

/-- 'dockmasterlaw08.PoolHolds': WHATEVER THE INPUT: true; the input reads as it did. -/
def poolHoldsSpec : ChangeSpec := { name := "poolHolds", fn := fun _ => fun
  | [d1, d2] => { results := [.lit (.bool true)], args := [d1, d2] }
  | _ => none }
def poolHoldsRow : OpenClaim := { program := "ytaldffnpppdobaa", sum := "69ee41ba568335eafc65944c3dbb75bcf8fabe9a73ddce986260e87bb9831e9c", func := "dockmaster/dockmasterlaw08.PoolHolds", spec := "poolHolds", unfollowed := true, recurses := true, apart := false }
def PoolHoldsSaid : Prop := poolHoldsRow.holds Try.pinned (OpenSpec.ofChange poolHoldsSpec)

/-- ITS FALSE NEIGHBOUR: 'it returns false'. Refute it at one input. -/
def poolHoldsWrong : ChangeSpec := { name := "poolHolds", fn := fun _ => fun
  | [d1, d2] => { results := [.lit (.bool false)], args := [d1, d2] }
  | _ => none }
def PoolHoldsWrongFalsely : Prop := poolHoldsRow.holds Try.pinned (OpenSpec.ofChange poolHoldsWrong)

/-- 'dockmasterlaw09.SpaceAll': WHATEVER THE INPUT: true; the input reads as it did. -/
def spaceAllSpec : ChangeSpec := { name := "spaceAll", fn := fun _ => fun
  | [d1, d2] => { results := [.lit (.bool true)], args := [d1, d2] }
  | _ => none }
def spaceAllRow : OpenClaim := { program := "ytaldffnpppdobaa", sum := "69ee41ba568335eafc65944c3dbb75bcf8fabe9a73ddce986260e87bb9831e9c", func := "dockmaster/dockmasterlaw09.SpaceAll", spec := "spaceAll", unfollowed := true, recurses := true, apart := false }
def SpaceAllSaid : Prop := spaceAllRow.holds Try.pinned (OpenSpec.ofChange spaceAllSpec)

/-- ITS FALSE NEIGHBOUR: 'it returns false'. Refute it at one input. -/
def spaceAllWrong : ChangeSpec := { name := "spaceAll", fn := fun _ => fun
  | [d1, d2] => { results := [.lit (.bool false)], args := [d1, d2] }
  | _ => none }
def SpaceAllWrongFalsely : Prop := spaceAllRow.holds Try.pinned (OpenSpec.ofChange spaceAllWrong)

/-- 'dockmasterlaw08.PoolErrors': WHATEVER THE INPUT: true; the input reads as it did. -/
def poolErrorsSpec : ChangeSpec := { name := "poolErrors", fn := fun _ => fun
  | [d1, d2, d3] => { results := [.lit (.bool true)], args := [d1, d2, d3] }
  | _ => none }
def poolErrorsRow : OpenClaim := { program := "ytaldffnpppdobaa", sum := "69ee41ba568335eafc65944c3dbb75bcf8fabe9a73ddce986260e87bb9831e9c", func := "dockmaster/dockmasterlaw08.PoolErrors", spec := "poolErrors", unfollowed := true, recurses := true, apart := false }
def PoolErrorsSaid : Prop := poolErrorsRow.holds Try.pinned (OpenSpec.ofChange poolErrorsSpec)

/-- ITS FALSE NEIGHBOUR: 'it returns false'. Refute it at one input. -/
def poolErrorsWrong : ChangeSpec := { name := "poolErrors", fn := fun _ => fun
  | [d1, d2, d3] => { results := [.lit (.bool false)], args := [d1, d2, d3] }
  | _ => none }
def PoolErrorsWrongFalsely : Prop := poolErrorsRow.holds Try.pinned (OpenSpec.ofChange poolErrorsWrong)

/-- 'dockmasterlaw08.PoolLast': WHATEVER THE INPUT: true; the input reads as it did. -/
def poolLastSpec : ChangeSpec := { name := "poolLast", fn := fun _ => fun
  | [d1, d2] => { results := [.lit (.bool true)], args := [d1, d2] }
  | _ => none }
def poolLastRow : OpenClaim := { program := "ytaldffnpppdobaa", sum := "69ee41ba568335eafc65944c3dbb75bcf8fabe9a73ddce986260e87bb9831e9c", func := "dockmaster/dockmasterlaw08.PoolLast", spec := "poolLast", unfollowed := true, recurses := true, apart := false }
def PoolLastSaid : Prop := poolLastRow.holds Try.pinned (OpenSpec.ofChange poolLastSpec)

/-- ITS FALSE NEIGHBOUR: 'it returns false'. Refute it at one input. -/
def poolLastWrong : ChangeSpec := { name := "poolLast", fn := fun _ => fun
  | [d1, d2] => { results := [.lit (.bool false)], args := [d1, d2] }
  | _ => none }
def PoolLastWrongFalsely : Prop := poolLastRow.holds Try.pinned (OpenSpec.ofChange poolLastWrong)

/-- 'dockmasterlaw08.PoolRuns': WHATEVER THE INPUT: true; the input reads as it did. -/
def poolRunsSpec : ChangeSpec := { name := "poolRuns", fn := fun _ => fun
  | [d1, d2, d3] => { results := [.lit (.bool true)], args := [d1, d2, d3] }
  | _ => none }
def poolRunsRow : OpenClaim := { program := "ytaldffnpppdobaa", sum := "69ee41ba568335eafc65944c3dbb75bcf8fabe9a73ddce986260e87bb9831e9c", func := "dockmaster/dockmasterlaw08.PoolRuns", spec := "poolRuns", unfollowed := true, recurses := true, apart := false }
def PoolRunsSaid : Prop := poolRunsRow.holds Try.pinned (OpenSpec.ofChange poolRunsSpec)

/-- ITS FALSE NEIGHBOUR: 'it returns false'. Refute it at one input. -/
def poolRunsWrong : ChangeSpec := { name := "poolRuns", fn := fun _ => fun
  | [d1, d2, d3] => { results := [.lit (.bool false)], args := [d1, d2, d3] }
  | _ => none }
def PoolRunsWrongFalsely : Prop := poolRunsRow.holds Try.pinned (OpenSpec.ofChange poolRunsWrong)

/-- 'dockmasterlaw09.SpaceRoot': WHATEVER THE INPUT: true; the input reads as it did. -/
def spaceRootSpec : ChangeSpec := { name := "spaceRoot", fn := fun _ => fun
  | [d] => { results := [.lit (.bool true)], args := [d] }
  | _ => none }
def spaceRootRow : OpenClaim := { program := "ytaldffnpppdobaa", sum := "69ee41ba568335eafc65944c3dbb75bcf8fabe9a73ddce986260e87bb9831e9c", func := "dockmaster/dockmasterlaw09.SpaceRoot", spec := "spaceRoot", unfollowed := true, recurses := true, apart := false }
def SpaceRootSaid : Prop := spaceRootRow.holds Try.pinned (OpenSpec.ofChange spaceRootSpec)

/-- ITS FALSE NEIGHBOUR: 'it returns false'. Refute it at one input. -/
def spaceRootWrong : ChangeSpec := { name := "spaceRoot", fn := fun _ => fun
  | [d] => { results := [.lit (.bool false)], args := [d] }
  | _ => none }
def SpaceRootWrongFalsely : Prop := spaceRootRow.holds Try.pinned (OpenSpec.ofChange spaceRootWrong)

/-- 'dockmasterlaw08.PoolSafe': WHATEVER THE INPUT: true; the input reads as it did. -/
def poolSafeSpec : ChangeSpec := { name := "poolSafe", fn := fun _ => fun
  | [d1, d2, d3] => { results := [.lit (.bool true)], args := [d1, d2, d3] }
  | _ => none }
def poolSafeRow : OpenClaim := { program := "ytaldffnpppdobaa", sum := "69ee41ba568335eafc65944c3dbb75bcf8fabe9a73ddce986260e87bb9831e9c", func := "dockmaster/dockmasterlaw08.PoolSafe", spec := "poolSafe", unfollowed := true, recurses := true, apart := false }
def PoolSafeSaid : Prop := poolSafeRow.holds Try.pinned (OpenSpec.ofChange poolSafeSpec)

/-- ITS FALSE NEIGHBOUR: 'it returns false'. Refute it at one input. -/
def poolSafeWrong : ChangeSpec := { name := "poolSafe", fn := fun _ => fun
  | [d1, d2, d3] => { results := [.lit (.bool false)], args := [d1, d2, d3] }
  | _ => none }
def PoolSafeWrongFalsely : Prop := poolSafeRow.holds Try.pinned (OpenSpec.ofChange poolSafeWrong)

/-- 'dockmasterlaw09.SpaceApart': WHATEVER THE INPUT: true; the input reads as it did. -/
def spaceApartSpec : ChangeSpec := { name := "spaceApart", fn := fun _ => fun
  | [d1, d2] => { results := [.lit (.bool true)], args := [d1, d2] }
  | _ => none }
def spaceApartRow : OpenClaim := { program := "ytaldffnpppdobaa", sum := "69ee41ba568335eafc65944c3dbb75bcf8fabe9a73ddce986260e87bb9831e9c", func := "dockmaster/dockmasterlaw09.SpaceApart", spec := "spaceApart", unfollowed := true, recurses := true, apart := false }
def SpaceApartSaid : Prop := spaceApartRow.holds Try.pinned (OpenSpec.ofChange spaceApartSpec)

/-- ITS FALSE NEIGHBOUR: 'it returns false'. Refute it at one input. -/
def spaceApartWrong : ChangeSpec := { name := "spaceApart", fn := fun _ => fun
  | [d1, d2] => { results := [.lit (.bool false)], args := [d1, d2] }
  | _ => none }
def SpaceApartWrongFalsely : Prop := spaceApartRow.holds Try.pinned (OpenSpec.ofChange spaceApartWrong)

/-- 'dockmasterlaw09.SpaceErrors': WHATEVER THE INPUT: true; the input reads as it did. -/
def spaceErrorsSpec : ChangeSpec := { name := "spaceErrors", fn := fun _ => fun
  | [d] => { results := [.lit (.bool true)], args := [d] }
  | _ => none }
def spaceErrorsRow : OpenClaim := { program := "ytaldffnpppdobaa", sum := "69ee41ba568335eafc65944c3dbb75bcf8fabe9a73ddce986260e87bb9831e9c", func := "dockmaster/dockmasterlaw09.SpaceErrors", spec := "spaceErrors", unfollowed := true, recurses := true, apart := false }
def SpaceErrorsSaid : Prop := spaceErrorsRow.holds Try.pinned (OpenSpec.ofChange spaceErrorsSpec)

/-- ITS FALSE NEIGHBOUR: 'it returns false'. Refute it at one input. -/
def spaceErrorsWrong : ChangeSpec := { name := "spaceErrors", fn := fun _ => fun
  | [d] => { results := [.lit (.bool false)], args := [d] }
  | _ => none }
def SpaceErrorsWrongFalsely : Prop := spaceErrorsRow.holds Try.pinned (OpenSpec.ofChange spaceErrorsWrong)

/-- 'dockmasterlaw09.SpaceRuns': WHATEVER THE INPUT: true; the input reads as it did. -/
def spaceRunsSpec : ChangeSpec := { name := "spaceRuns", fn := fun _ => fun
  | [d1, d2] => { results := [.lit (.bool true)], args := [d1, d2] }
  | _ => none }
def spaceRunsRow : OpenClaim := { program := "ytaldffnpppdobaa", sum := "69ee41ba568335eafc65944c3dbb75bcf8fabe9a73ddce986260e87bb9831e9c", func := "dockmaster/dockmasterlaw09.SpaceRuns", spec := "spaceRuns", unfollowed := true, recurses := true, apart := false }
def SpaceRunsSaid : Prop := spaceRunsRow.holds Try.pinned (OpenSpec.ofChange spaceRunsSpec)

/-- ITS FALSE NEIGHBOUR: 'it returns false'. Refute it at one input. -/
def spaceRunsWrong : ChangeSpec := { name := "spaceRuns", fn := fun _ => fun
  | [d1, d2] => { results := [.lit (.bool false)], args := [d1, d2] }
  | _ => none }
def SpaceRunsWrongFalsely : Prop := spaceRunsRow.holds Try.pinned (OpenSpec.ofChange spaceRunsWrong)

/- THE SECOND FORM. 'bulk': how many values and letters a reading holds, each counted each time it is reached (what is shared counts as often as it is met; a slice's spare places count too). A statement '..UptoSaid' is the law's where the arguments, and the package variables that the reading takes, are together of bulk at most 1048576: NARROWER than '..Said'. Prove '..Said' where nothing that the law and all that it calls make is longer than what came in: it says more and counts as full. Else prove '..UptoSaid'. A law counts once. -/
mutual
def uptoBulk {H : Type} : DataW H → Nat
  | .lit (.string bytes) => bytes.length + 1
  | .lit _ => 1
  | .nil => 1
  | .ptr d => uptoBulk d + 1
  | .slice elems spare => uptoBulkAll elems + uptoBulkAll spare + 1
  | .agg parts => uptoBulkAll parts + 1
  | .iface _ d => uptoBulk d + 1
  | .map entries => uptoBulkEntries entries + 1
  | .held _ => 1
def uptoBulkAll {H : Type} : List (DataW H) → Nat
  | [] => 0
  | d :: r => uptoBulk d + uptoBulkAll r
def uptoBulkEntries {H : Type} : List (Lit × DataW H) → Nat
  | [] => 0
  | x :: r => uptoBulkEntry x + uptoBulkEntries r
def uptoBulkEntry {H : Type} : Lit × DataW H → Nat
  | (.string bytes, d) => bytes.length + uptoBulk d + 1
  | (_, d) => uptoBulk d + 1
 end
def uptoSmall : (H : Type) → List (DataW H) → Bool := fun _ ds => decide (uptoBulkAll ds ≤ 1048576)
def OpenSpec.upto (s : _root_.Go.ChangeSpec) : _root_.Go.OpenSpec := { _root_.Go.OpenSpec.ofChange s with cond := some uptoSmall }

/-- 'dockmasterlaw08.PoolHolds', WHERE WHAT IT READS IS OF BULK AT MOST 1048576: true; the input reads as it did. -/
def poolHoldsUptoRow : OpenClaim := { program := "ytaldffnpppdobaa", sum := "69ee41ba568335eafc65944c3dbb75bcf8fabe9a73ddce986260e87bb9831e9c", func := "dockmaster/dockmasterlaw08.PoolHolds", spec := "poolHolds", unfollowed := true, recurses := true, apart := false, narrowed := true }
def PoolHoldsUptoSaid : Prop := poolHoldsUptoRow.holds Try.pinned (OpenSpec.upto poolHoldsSpec)

/-- 'dockmasterlaw09.SpaceAll', WHERE WHAT IT READS IS OF BULK AT MOST 1048576: true; the input reads as it did. -/
def spaceAllUptoRow : OpenClaim := { program := "ytaldffnpppdobaa", sum := "69ee41ba568335eafc65944c3dbb75bcf8fabe9a73ddce986260e87bb9831e9c", func := "dockmaster/dockmasterlaw09.SpaceAll", spec := "spaceAll", unfollowed := true, recurses := true, apart := false, narrowed := true }
def SpaceAllUptoSaid : Prop := spaceAllUptoRow.holds Try.pinned (OpenSpec.upto spaceAllSpec)

/-- 'dockmasterlaw08.PoolErrors', WHERE WHAT IT READS IS OF BULK AT MOST 1048576: true; the input reads as it did. -/
def poolErrorsUptoRow : OpenClaim := { program := "ytaldffnpppdobaa", sum := "69ee41ba568335eafc65944c3dbb75bcf8fabe9a73ddce986260e87bb9831e9c", func := "dockmaster/dockmasterlaw08.PoolErrors", spec := "poolErrors", unfollowed := true, recurses := true, apart := false, narrowed := true }
def PoolErrorsUptoSaid : Prop := poolErrorsUptoRow.holds Try.pinned (OpenSpec.upto poolErrorsSpec)

/-- 'dockmasterlaw08.PoolLast', WHERE WHAT IT READS IS OF BULK AT MOST 1048576: true; the input reads as it did. -/
def poolLastUptoRow : OpenClaim := { program := "ytaldffnpppdobaa", sum := "69ee41ba568335eafc65944c3dbb75bcf8fabe9a73ddce986260e87bb9831e9c", func := "dockmaster/dockmasterlaw08.PoolLast", spec := "poolLast", unfollowed := true, recurses := true, apart := false, narrowed := true }
def PoolLastUptoSaid : Prop := poolLastUptoRow.holds Try.pinned (OpenSpec.upto poolLastSpec)

/-- 'dockmasterlaw08.PoolRuns', WHERE WHAT IT READS IS OF BULK AT MOST 1048576: true; the input reads as it did. -/
def poolRunsUptoRow : OpenClaim := { program := "ytaldffnpppdobaa", sum := "69ee41ba568335eafc65944c3dbb75bcf8fabe9a73ddce986260e87bb9831e9c", func := "dockmaster/dockmasterlaw08.PoolRuns", spec := "poolRuns", unfollowed := true, recurses := true, apart := false, narrowed := true }
def PoolRunsUptoSaid : Prop := poolRunsUptoRow.holds Try.pinned (OpenSpec.upto poolRunsSpec)

/-- 'dockmasterlaw09.SpaceRoot', WHERE WHAT IT READS IS OF BULK AT MOST 1048576: true; the input reads as it did. -/
def spaceRootUptoRow : OpenClaim := { program := "ytaldffnpppdobaa", sum := "69ee41ba568335eafc65944c3dbb75bcf8fabe9a73ddce986260e87bb9831e9c", func := "dockmaster/dockmasterlaw09.SpaceRoot", spec := "spaceRoot", unfollowed := true, recurses := true, apart := false, narrowed := true }
def SpaceRootUptoSaid : Prop := spaceRootUptoRow.holds Try.pinned (OpenSpec.upto spaceRootSpec)

/-- 'dockmasterlaw08.PoolSafe', WHERE WHAT IT READS IS OF BULK AT MOST 1048576: true; the input reads as it did. -/
def poolSafeUptoRow : OpenClaim := { program := "ytaldffnpppdobaa", sum := "69ee41ba568335eafc65944c3dbb75bcf8fabe9a73ddce986260e87bb9831e9c", func := "dockmaster/dockmasterlaw08.PoolSafe", spec := "poolSafe", unfollowed := true, recurses := true, apart := false, narrowed := true }
def PoolSafeUptoSaid : Prop := poolSafeUptoRow.holds Try.pinned (OpenSpec.upto poolSafeSpec)

/-- 'dockmasterlaw09.SpaceApart', WHERE WHAT IT READS IS OF BULK AT MOST 1048576: true; the input reads as it did. -/
def spaceApartUptoRow : OpenClaim := { program := "ytaldffnpppdobaa", sum := "69ee41ba568335eafc65944c3dbb75bcf8fabe9a73ddce986260e87bb9831e9c", func := "dockmaster/dockmasterlaw09.SpaceApart", spec := "spaceApart", unfollowed := true, recurses := true, apart := false, narrowed := true }
def SpaceApartUptoSaid : Prop := spaceApartUptoRow.holds Try.pinned (OpenSpec.upto spaceApartSpec)

/-- 'dockmasterlaw09.SpaceErrors', WHERE WHAT IT READS IS OF BULK AT MOST 1048576: true; the input reads as it did. -/
def spaceErrorsUptoRow : OpenClaim := { program := "ytaldffnpppdobaa", sum := "69ee41ba568335eafc65944c3dbb75bcf8fabe9a73ddce986260e87bb9831e9c", func := "dockmaster/dockmasterlaw09.SpaceErrors", spec := "spaceErrors", unfollowed := true, recurses := true, apart := false, narrowed := true }
def SpaceErrorsUptoSaid : Prop := spaceErrorsUptoRow.holds Try.pinned (OpenSpec.upto spaceErrorsSpec)

/-- 'dockmasterlaw09.SpaceRuns', WHERE WHAT IT READS IS OF BULK AT MOST 1048576: true; the input reads as it did. -/
def spaceRunsUptoRow : OpenClaim := { program := "ytaldffnpppdobaa", sum := "69ee41ba568335eafc65944c3dbb75bcf8fabe9a73ddce986260e87bb9831e9c", func := "dockmaster/dockmasterlaw09.SpaceRuns", spec := "spaceRuns", unfollowed := true, recurses := true, apart := false, narrowed := true }
def SpaceRunsUptoSaid : Prop := spaceRunsUptoRow.holds Try.pinned (OpenSpec.upto spaceRunsSpec)

end Rows
end Go.Proofs.Ytaldffnpppdobaa
