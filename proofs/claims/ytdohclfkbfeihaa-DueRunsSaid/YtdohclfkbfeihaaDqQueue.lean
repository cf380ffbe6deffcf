/- A queue's memory; New, Len and When, walked. -/
import Derived.Test.YtdohclfkbfeihaaDqRemove
namespace Go.Proofs.Ytdohclfkbfeihaa
open Go.RowKit Go.Maps
/-- A queue in memory. -/
structure QAt (w : World) (base q l m : Nat) (v : Value) (es : List Ent) : Prop where
  heap : HAt w base l m v es
  cell : w.heap[q]? = some (.cells #[.pointer (some ⟨l, 0, none⟩)] 54 (0, 0))
  bq : base ≤ q
  bl : base ≤ l
  bm : base ≤ m
theorem LAt.apart {w : World} {base l m q : Nat} {v : Value} {es : List Ent} {c : Array Value} (h : LAt w base l m v es) (hq : w.heap[q]? = some (.cells c 54 (0, 0))) : q ≠ l ∧ q ≠ m ∧ v.ownBlock ≠ some q := by
  refine ⟨fun e => ?_, fun e => ?_, fun e => ?_⟩
  · have := h.cell
    rw [← e, hq] at this
    cases this
  · obtain ⟨D, ⟨es', ck, hb', _⟩, _⟩ := h.map
    rw [← e, hq] at hb'
    cases hb'
  · rcases h.row.2 with ⟨r, _⟩ | ⟨g, c, cur, r, _, hg, _⟩
    · rw [r] at e; cases e
    · rw [r] at e; cases e; rw [hq] at hg; cases hg
theorem QAt.turn {w w' : World} {base q l m : Nat} {v v' : Value} {es es' : List Ent} (h : QAt w base q l m v es) (hT : Turn l m v v' w w') (hH : HAt w' base l m v' es') : QAt w' base q l m v' es' := by
  obtain ⟨h1, h2, h3⟩ := h.heap.at_.apart h.cell
  exact ⟨hH, by rw [hT.block q (lt_of_block h.cell) h1 h2 h3]; exact h.cell, h.bq, h.bl, h.bm⟩
theorem QAt.below {w w' : World} {base q l m : Nat} {v : Value} {es : List Ent} (h : QAt w base q l m v es) (hb : Below w.heap.size w w') : QAt w' base q l m v es := h.turn (Turn.of_below hb) (h.heap.below hb)
theorem QAt.vown {w : World} {base q l m : Nat} {v : Value} {es : List Ent} (h : QAt w base q l m v es) : ∀ k, v.ownBlock = some k → base ≤ k := fun k hk => by
  rcases h.heap.at_.row.2 with ⟨r, _⟩ | ⟨g, c, cur, r, hb, _⟩
  · rw [r] at hk; cases hk
  · rw [r] at hk; cases hk; exact hb
/-- What lies below the base is as it was. -/
theorem QAt.keeps {w w' : World} {base q l m B : Nat} {v v' : Value} {es : List Ent} (h : QAt w base q l m v es) (hT : Turn l m v v' w w') (hB : B ≤ base) (hw : B ≤ w.heap.size) : Below B w w' :=
  hT.below hw (Nat.le_trans hB h.bl) (Nat.le_trans hB h.bm) (fun k hk => Nat.le_trans hB (h.vown k hk))
/-- A new queue. -/
structure Made (base : Nat) (w : World) (x : Ending) (w' : World) : Prop where
  out : ∃ q l m v, x = .returned (.pointer (some ⟨q, 0, none⟩)) ∧ QAt w' base q l m v [] ∧ Below w.heap.size w w'
set_option maxHeartbeats 1000000 in
set_option maxRecDepth 1000000 in
theorem Try.New_walk (w : World) (base : Nat) (hb : base ≤ w.heap.size) : Calls Try.prog 9 #[] w fun x w' => Made base w x w' := by
  have hm := World.ownsMap_made (H := Unit) w Try.prog 56 (plainElem Try.prog 3)
  have hmm := @run_makeMap Try.prog
  go_enter Try.func9, Try.ntmps9
  go_wp2
  have I0 : Idx [] (DataW.map []) := ⟨rfl, fun i e h => by (cases h), fun x _ h => by (cases h)⟩
  obtain ⟨A, hA⟩ : ∃ A, A = w.alloc (Obj.map #[] 0) := ⟨_, rfl⟩
  have hAz : A.heap.size = w.heap.size + 1 := by rw [hA]; simp
  obtain ⟨B, hB⟩ : ∃ B, B = A.alloc (Obj.cells #[Value.slice none 0 0, Value.map (some w.heap.size)] 52) := ⟨_, rfl⟩
  have hBz : B.heap.size = w.heap.size + 1 + 1 := by rw [hB]; simp [hAz]
  have hBl : B.heap[w.heap.size + 1]? = some (.cells #[.slice none 0 0, .map (some w.heap.size)] 52 (0, 0)) := by rw [hB, ← hAz]; exact (MapKept.heap_alloc A _).1
  obtain ⟨C, hC⟩ : ∃ C, C = B.alloc (Obj.cells #[Value.pointer (some ⟨w.heap.size + 1, 0, none⟩)] 54) := ⟨_, rfl⟩
  have hCq : C.heap[w.heap.size + 1 + 1]? = some (.cells #[.pointer (some ⟨w.heap.size + 1, 0, none⟩)] 54 (0, 0)) := by rw [hC, ← hBz]; exact (MapKept.heap_alloc B _).1
  have hCl : C.heap[w.heap.size + 1]? = some (.cells #[.slice none 0 0, .map (some w.heap.size)] 52 (0, 0)) := by rw [hC, Below.heap_alloc _ _ _ (by omega)]; exact hBl
  have hm2 : C.ownsMap Try.prog 56 (plainElem Try.prog 3) w.heap.size 0 (DataW.map [] : DataW Unit) := by rw [hC, hB, hA]; exact (hm.alloc _).alloc _
  have hbel : Below w.heap.size w C := by rw [hC, hB, hA]; go_grown
  have hfin : Made base w (.returned (.pointer (some ⟨w.heap.size + 1 + 1, 0, none⟩))) C :=
    ⟨_, w.heap.size + 1, w.heap.size, .slice none 0 0, rfl, ⟨⟨⟨hCl, World.ownsRow_nil _ _ _ _, ⟨_, hm2, I0⟩, fun e he => by (cases he), .nil⟩, fun k h1 h2 => absurd h2 (Nat.not_lt_zero _)⟩, hCq, by omega, by omega, hb⟩, hbel⟩
  rw [hC, hB, hA] at hfin
  go_ret
  exact hfin
set_option maxHeartbeats 1000000 in
set_option maxRecDepth 1000000 in
theorem Try.QLen_walk {w : World} {base q l m : Nat} {v : Value} {es : List Ent} (h : QAt w base q l m v es) : Calls Try.prog 13 #[.pointer (some ⟨q, 0, none⟩)] w fun x w' => x = .returned (.int .i64 es.length) ∧ w' = w := by
  obtain ⟨o, cap, rfl⟩ := h.heap.at_.lenV
  have c0 : w.cell? ⟨l, 0, none⟩ = some (.slice o es.length cap) := by rw [Lib.cell_of_heap h.heap.at_.cell]; rfl
  have c1 : w.cell? ⟨q, 0, none⟩ = some (.pointer (some ⟨l, 0, none⟩)) := by rw [Lib.cell_of_heap h.cell]; rfl
  clear h
  go_enter Try.func13, Try.ntmps13
  go_wp2
  go_ret
  exact ⟨rfl, rfl⟩
end Go.Proofs.Ytdohclfkbfeihaa
