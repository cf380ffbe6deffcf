/- A list's memory, as one word. -/
import Derived.Test.YtdohclfkbfeihaaDqLess
import Derived.Deep.RegionHeld3
import Derived.Lib.Builder
namespace Go.Proofs.Ytdohclfkbfeihaa
open Go.RowKit Go.Maps
/-- A fact kept from the walk. -/
structure Keep (p : Prop) : Prop where
  out : p
theorem lt_of_block {w : World} {k : Nat} {o : Obj} (h : w.heap[k]? = some o) : k < w.heap.size := (Array.getElem?_eq_some_iff.1 h).1
def flat (es : List Ent) : List Value := es.flatMap fun e => e.cells.toList
theorem flat_cons (e : Ent) (es : List Ent) : flat (e :: es) = e.cells.toList ++ flat es := rfl
theorem flat_app (a b : List Ent) : flat (a ++ b) = flat a ++ flat b := by simp [flat]
theorem flat_length (es : List Ent) : (flat es).length = es.length * 4 := by
  induction es with
  | nil => rfl
  | cons e r ih => rw [flat_cons, List.length_append, ih, List.length_cons, Nat.succ_mul]; simp [Ent.cells]; omega
theorem flat_get : ∀ (es : List Ent) (i : Nat) (e : Ent), es[i]? = some e → ∀ j, j < 4 → (flat es)[i * 4 + j]? = e.cells[j]?
  | [], i, e, h, _, _ => by cases h
  | e0 :: r, 0, e, h, j, hj => by
    simp only [List.getElem?_cons_zero, Option.some.injEq] at h
    subst h
    rw [flat_cons, Nat.zero_mul, Nat.zero_add, List.getElem?_append_left (by simpa [Ent.cells] using hj), Array.getElem?_toList]
  | e0 :: r, i + 1, e, h, j, hj => by
    simp only [List.getElem?_cons_succ] at h
    have hl : e0.cells.toList.length = 4 := rfl
    rw [flat_cons, List.getElem?_append_right (by omega), hl, show (i + 1) * 4 + j - 4 = i * 4 + j by omega]
    exact flat_get r i e h j hj
/-- Where the entries stand: the map as read. -/
structure Idx (es : List Ent) (D : DataW Unit) : Prop where
  size : Maps.size D = es.length
  at_ : ∀ (i : Nat) e, es[i]? = some e → Maps.has D e.nl = true ∧ D.atKey e.nl (zi 0) = zi i
  only : ∀ x : Ent, x.wf → Maps.has D x.nl = true → ∃ e ∈ es, e.nm = x.nm
/-- A list in memory: its own cells in block l, its entries in v's row, its map in block m. -/
structure LAt (w : World) (base l m : Nat) (v : Value) (es : List Ent) : Prop where
  cell : w.heap[l]? = some (.cells #[v, .map (some m)] 52 (0, 0))
  row : w.ownsRow base 32 4 v es.length (flat es)
  map : ∃ D, w.ownsMap Try.prog 56 (plainElem Try.prog 3) m es.length D ∧ Idx es D
  wf : ∀ e ∈ es, e.wf
  nd : es.Pairwise fun a b => a.nm ≠ b.nm
/-- What may turn: the list's cells, its map, its row; the new row is the old one or new. -/
structure Turn (l m : Nat) (v v' : Value) (w w' : World) : Prop where
  os : w'.os = w.os
  tape : w'.tape = w.tape
  output : w'.output = w.output
  size : w.heap.size ≤ w'.heap.size
  block : ∀ k, k < w.heap.size → k ≠ l → k ≠ m → v.ownBlock ≠ some k → w'.heap[k]? = w.heap[k]?
  own : ∀ k, v'.ownBlock = some k → v.ownBlock = some k ∨ w.heap.size ≤ k
theorem Turn.refl (l m : Nat) (v : Value) (w : World) : Turn l m v v w w := ⟨rfl, rfl, rfl, Nat.le_refl _, fun _ _ _ _ _ => rfl, fun _ h => .inl h⟩
theorem Turn.trans {l m : Nat} {v v' v'' : Value} {a b c : World} (h : Turn l m v v' a b) (k : Turn l m v' v'' b c) : Turn l m v v'' a c :=
  ⟨k.os.trans h.os, k.tape.trans h.tape, k.output.trans h.output, Nat.le_trans h.size k.size, fun i hi h1 h2 h3 => (k.block i (Nat.lt_of_lt_of_le hi h.size) h1 h2 (fun e => by
    rcases h.own i e with q | q
    · exact h3 q
    · omega)).trans (h.block i hi h1 h2 h3), fun i hi => by
    rcases k.own i hi with q | q
    · exact h.own i q
    · exact .inr (Nat.le_trans h.size q)⟩
theorem Turn.of_below {l m : Nat} {v : Value} {w w' : World} (h : Below w.heap.size w w') : Turn l m v v w w' := ⟨h.os, h.tape, h.output, h.size, fun k hk _ _ _ => h.block k hk, fun _ h => .inl h⟩
theorem Turn.below {l m : Nat} {v v' : Value} {w w' : World} {B : Nat} (h : Turn l m v v' w w') (hB : B ≤ w.heap.size) (hl : B ≤ l) (hm : B ≤ m) (hv : ∀ k, v.ownBlock = some k → B ≤ k) : Below B w w' :=
  ⟨h.os, h.tape, h.output, h.size, fun k hk => h.block k (by omega) (by omega) (by omega) (fun e => by have := hv k e; omega)⟩
theorem LAt.below {w w' : World} {base l m : Nat} {v : Value} {es : List Ent} (h : LAt w base l m v es) (hb : Below w.heap.size w w') : LAt w' base l m v es := by
  have hg : w.grownBy w' none := ⟨hb.os, hb.tape, hb.output, hb.size, fun k hk _ => hb.block k hk⟩
  obtain ⟨D, hD, hI⟩ := h.map
  exact ⟨by rw [hb.block l (lt_of_block h.cell)]; exact h.cell, h.row.kept hg (by cases v.ownBlock <;> simp), ⟨D, hD.kept hg (by simp), hI⟩, h.wf, h.nd⟩
/-- The row of a list that is not empty. -/
theorem LAt.slice {w : World} {base l m : Nat} {v : Value} {es : List Ent} (h : LAt w base l m v es) (hn : 0 < es.length) : ∃ g cap cur, v = .slice (some ⟨g, 0, none⟩) es.length cap ∧ base ≤ g ∧ w.heap[g]? = some (.cells cur 32 (0, 0)) ∧ es.length ≤ cap ∧ cap ≤ maxLen ∧ cur.size = cap * 4 ∧ cur.toList.take (es.length * 4) = flat es := by
  obtain ⟨_, ⟨_, h0⟩ | h1⟩ := h.row
  · omega
  · exact h1
theorem row_cell {w : World} {g : Nat} {cur : Array Value} {es : List Ent} (hh : w.heap[g]? = some (.cells cur 32 (0, 0))) (hx : cur.toList.take (es.length * 4) = flat es) {i : Nat} {e : Ent} (he : es[i]? = some e) :
    w.cell? ⟨g, i * 4, none⟩ = some (.int .i64 e.t) ∧ w.cell? ⟨g, i * 4 + 1, none⟩ = some (.int .i64 e.k) ∧ w.cell? ⟨g, i * 4 + 2, none⟩ = some (.int .u64 e.n) ∧ w.cell? ⟨g, i * 4 + 3, none⟩ = some (.int .i64 e.o) := by
  have hi : i < es.length := (List.getElem?_eq_some_iff.1 he).1
  have key : ∀ j, j < 4 → w.cell? ⟨g, i * 4 + j, none⟩ = e.cells[j]? := fun j hj => by
    rw [Lib.cell_of_heap hh, ← Array.getElem?_toList, ← flat_get es i e he j hj, ← hx, List.getElem?_take, if_pos (by omega)]
  exact ⟨key 0 (by omega), key 1 (by omega), key 2 (by omega), key 3 (by omega)⟩
end Go.Proofs.Ytdohclfkbfeihaa
