/- A queue's memory: entries in a row, and where each stands. -/
import Derived.Test.YtdohclfkbfeihaaProg
import Derived.WalkKit
import Derived.ProofKit
import Derived.Handy
import Derived.Maps.OwnSet
import Derived.DeepKeys4
import Derived.BigRegion
import Derived.BigQuiet
import Derived.OwnWalk
import Derived.LoopTactic
import Derived.Deep.Cut
namespace Go.Proofs.Ytdohclfkbfeihaa
open Go.RowKit Go.Maps
/-- An entry: when, kind, number, node. -/
structure Ent where
  t : Int
  k : Int
  n : Int
  o : Int
  deriving DecidableEq
def Ent.wf (e : Ent) : Prop := (Lit.int .i64 e.t).wf = true ∧ (Lit.int .i64 e.k).wf = true ∧ (Lit.int .u64 e.n).wf = true ∧ (Lit.int .i64 e.o).wf = true
def Ent.cells (e : Ent) : Array Value := #[.int .i64 e.t, .int .i64 e.k, .int .u64 e.n, .int .i64 e.o]
def Ent.key (e : Ent) : Value := .agg #[.int .i64 e.k, .int .u64 e.n, .int .i64 e.o]
def Ent.nm (e : Ent) : Int × Int × Int := (e.k, e.n, e.o)
def lt (a b : Ent) : Bool := if a.t ≠ b.t then decide (a.t < b.t) else if a.k ≠ b.k then decide (a.k < b.k) else if a.n < b.n then true else decide (a.n = b.n) && decide (a.o < b.o)
/-- What a name reads as. -/
def nl (k n o : Int) : Lit := .string (keyBytes [.int .i64 k, .int .u64 n, .int .i64 o])
def Ent.nl (e : Ent) : Lit := Ytdohclfkbfeihaa.nl e.k e.n e.o
def zi (i : Nat) : DataW Unit := .lit (.int .i64 (i : Int))
theorem Try.laidOut : laidOutB Try.prog = true := by kernel_rfl
theorem Try.row56 : (56 : TypeId) < Try.prog.types.size := of_decide_eq_true (by kernel_rfl)
theorem Try.law56 : WideMaps.KeyLaw Try.prog 56 := deep_law_laid Try.laidOut (m := 4) (by omega) Try.row56 (by kernel_rfl) (by rw [Try.underlying56])
theorem Try.keyed56 : Keyed Try.prog 56 := Keyed.of_law Try.law56
theorem Try.keyType56 : Try.prog.keyType 56 = true := by kernel_rfl
theorem Try.cells56 : Try.prog.cellsOf 56 = 3 := by kernel_rfl
theorem Try.cells30 : Try.prog.cellsOf 30 = 2 := by kernel_rfl
theorem Try.cells27 : Try.prog.cellsOf 27 = 1 := by kernel_rfl
theorem Try.cells28 : Try.prog.cellsOf 28 = 1 := by kernel_rfl
theorem Try.cells3 : Try.prog.cellsOf 3 = 1 := by kernel_rfl
theorem Try.info32 : (Try.prog.info? 32).map (fun i => (i.zero, i.size, i.bytes)) = some (some (.agg #[.int .i64 0, .int .i64 0, .int .u64 0, .int .i64 0]), 4, 32) := by kernel_rfl
theorem Try.zero3 (w : World) : (zeroValue 3).run Try.prog w = .ok (.int .i64 0) w := by kernel_rfl
theorem keyOf_nm {k n o : Int} (hk : (Lit.int .i64 k).wf = true) (hn : (Lit.int .u64 n).wf = true) (ho : (Lit.int .i64 o).wf = true) : keyOf Try.prog 56 (.agg #[.int .i64 k, .int .u64 n, .int .i64 o]) = some (nl k n o) := by
  unfold keyOf
  rw [Try.underlying56]
  have hf : (Value.agg #[.int .i64 k, .int .u64 n, .int .i64 o]).formed Try.prog 56 = true := by simp [Value.formed, Try.underlying56, Try.cells56]
  simp only [Try.keyType56, hf, Bool.and_self, if_true]
  obtain ⟨d, hd⟩ : ∃ d, Try.prog.types.size + 1 = d + 3 := ⟨Try.prog.types.size - 2, by have h : (56 : Nat) < Try.prog.types.size := Try.row56; omega⟩
  rw [hd]
  simp [Program.keyLits, Try.underlying56, Try.underlying27, Try.underlying30, Try.underlying28, Try.underlying3, Try.cells56, Try.cells30, Value.cells, hk, hn, ho, Try.cells27, Try.cells28, Try.cells3, nl, List.mapM_cons]
  rw [if_pos (by decide)]
  simp
end Go.Proofs.Ytdohclfkbfeihaa
