/- strings.Split at one byte; the words of a line. -/
import Derived.Test.YtcdpepaffpboeaaDoorScCall
import Derived.Shelf.Strings.Split
namespace Go.Proofs.YtcdpepaffpboeaaDoor
open Go.RowKit Go.Shelf
/-- What script reads of package variables, and the number that Go's search of texts asks. -/
structure SV (w : World) : Prop extends SVars w where
  ml : ∃ m, w.cell? ⟨2, 0, none⟩ = some (.int .i64 m)
theorem SV.below {w w' : World} (h : SV w) (hb : Below w.heap.size w w') : SV w' := by
  obtain ⟨hs, m, hm⟩ := h
  exact ⟨hs.below hb, m, by rw [hb.cell (p := ⟨2, 0, none⟩) (lt_of_cell hm)]; exact hm⟩
/-- A fact that the walk's simp does not see. -/
structure Keep (p : Prop) : Prop where
  out : p
/-- The pieces of a text between the bytes c. -/
def spl (c : UInt8) (s : ByteArray) : List ByteArray := Lib.splitB ⟨#[c]⟩ 0 (Lib.countB s ⟨#[c]⟩) s
theorem spl_length (c : UInt8) (s : ByteArray) : (spl c s).length = Lib.countB s ⟨#[c]⟩ + 1 := Lib.splitB_all ⟨#[c]⟩ (Nat.le_refl 1) 0 _ s rfl
theorem Tryd.infoStr : (Tryd.prog.info? 9).map (fun i => (i.zero, i.size, i.bytes)) = some (some (.string ByteArray.empty), 1, 16) := by kernel_rfl
theorem Tryd.Split (c : UInt8) (s : ByteArray) (w : World) (hs : s.size < 4294967281) (hm : ∃ m, w.cell? ⟨2, 0, none⟩ = some (.int .i64 m)) :
    Calls Tryd.prog 20 #[.string s, .string ⟨#[c]⟩] w fun e w' =>
      e = .returned (.slice (some ⟨w.heap.size, 0, none⟩) (spl c s).length (spl c s).length) ∧ w' = w.alloc (.cells ((spl c s).map Value.string).toArray 9) := by
  obtain ⟨m, hm⟩ := hm
  rw [spl_length]
  exact Any.strings_Split Tryd.laysSplit Tryd.infoStr s ⟨#[c]⟩ m w hs hm (Nat.le_refl 1)
theorem Tryd.Split_at (c : UInt8) (s : ByteArray) (w : World) (hs : s.size < 4294967281) (hm : ∃ m, w.cell? ⟨2, 0, none⟩ = some (.int .i64 m)) :
    Calls Tryd.prog 20 #[.string s, .string ⟨#[c]⟩] w fun e w' => ∃ g,
      e = .returned (.slice (some ⟨g, 0, none⟩) (spl c s).length (spl c s).length) ∧ w.heap.size ≤ g ∧ w'.heap[g]? = some (.cells ((spl c s).map Value.string).toArray 9 (0, 0)) ∧ Below w.heap.size w w' := by
  refine (Tryd.Split c s w hs hm).mono ?_
  rintro e w' ⟨rfl, rfl⟩
  refine ⟨w.heap.size, rfl, Nat.le_refl _, ?_, (Below.refl _ w).alloc (Nat.le_refl _) _⟩
  show (w.heap.push _)[w.heap.size]? = _
  rw [Array.getElem?_push, if_pos rfl]
/-- What a step says. -/
structure StepR where
  kind : Int
  node : Int := 0
  sess : Int := 0
  req : Int := 0
  ckind : Int := 0
  key : ByteArray := ⟨#[]⟩
  val : ByteArray := ⟨#[]⟩
  dest : Int := 0
  n : Int := 0
  keep : List Bool := []
  tear : Int := 0
def StepR.cells (r : StepR) (kv : Value) : Array Value :=
  #[.int .i64 r.kind, .int .i64 r.node, .int .i64 r.sess, .int .i64 r.req, .int .i64 r.ckind, .string r.key, .string r.val, .int .i64 r.dest, .int .i64 r.n, kv, .int .i64 r.tear]
/-- A step's value, its list of truths lying behind 'base'. -/
def StepAt (w : World) (base : Nat) (r : StepR) (v : Value) : Prop := ∃ kv, v = .agg (r.cells kv) ∧ w.ownsRow base 4 1 kv r.keep.length (r.keep.map boolV)
def StepR.zero : StepR := { kind := 0 }
def wordCount (k : Nat) : Nat := if k = 1 then 7 else if k = 7 then 3 else if k = 9 then 5 else 2
/-- The step of some words. -/
def stepW0 (ws : List ByteArray) : Option StepR :=
  let k := kindS stepW (ws.getD 0 ⟨#[]⟩).data.toList
  if k = 0 ∨ ws.length ≠ wordCount k then none else
  match numsF ((ws.drop 1).take (min (wordCount k) 4 - 1)) with
  | none => none
  | some ns =>
    if k = 1 then
      (unhexS (ws.getD 5 ⟨#[]⟩)).bind fun key => (unhexS (ws.getD 6 ⟨#[]⟩)).bind fun val =>
        if 0 < kindS callW (ws.getD 4 ⟨#[]⟩).data.toList then some { kind := 1, node := ns.getD 0 0, sess := ns.getD 1 0, req := ns.getD 2 0, ckind := kindS callW (ws.getD 4 ⟨#[]⟩).data.toList, key := ⟨key.toArray⟩, val := ⟨val.toArray⟩ } else none
    else if k = 9 then (unbitsS (ws.getD 4 ⟨#[]⟩).data.toList).map fun keep => { kind := 9, node := ns.getD 0 0, n := ns.getD 1 0, tear := ns.getD 2 0, keep := keep }
    else if k = 7 then some { kind := 7, node := ns.getD 0 0, n := ns.getD 1 0 }
    else if k = 6 ∨ k = 8 then some { kind := k, node := ns.getD 0 0 }
    else some { kind := k, dest := ns.getD 0 0 }
def stepS (line : ByteArray) : Option StepR := stepW0 (spl 32 line)
end Go.Proofs.YtcdpepaffpboeaaDoor
