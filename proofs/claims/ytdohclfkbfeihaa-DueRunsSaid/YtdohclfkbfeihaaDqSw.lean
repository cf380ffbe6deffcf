/- DueRuns: the switch's code, and what a case leaves. -/
import Derived.Test.YtdohclfkbfeihaaDqRunE
import Derived.Deep.CutRange
import Derived.Deep.CutBlock
namespace Go.Proofs.Ytdohclfkbfeihaa
open Go.RowKit Go.Maps
def findBlock (n : Nat) : Code → Option Code
  | .block i c => if i = n then some (.block i c) else findBlock n c
  | .seq a b => match findBlock n a with
    | some c => some c
    | none => findBlock n b
  | .loop c => findBlock n c
  | .scope c => findBlock n c
  | .cond _ a b => match findBlock n a with
    | some c => some c
    | none => findBlock n b
  | _ => none
noncomputable def sw : Code := (Try.f5.body.bind (findBlock 4)).getD .skip
/-- What a case leaves. -/
def SwEnd (W : World) (q l m k : Nat) (x4 : Value) (wx : World) : Prop := ∃ (v' : Value) (es' own' : List Ent), RunAt wx W.heap.size q l m v' x4 es' own' ∧ es'.Perm own' ∧ own'.length ≤ k + 1 ∧ Below W.heap.size W wx
end Go.Proofs.Ytdohclfkbfeihaa
