/- script.call, walked: what a line says of a call. -/
import Derived.Test.YtcdpepaffpboeaaDoorScBits
import Derived.Deep.RegionWith
namespace Go.Proofs.YtcdpepaffpboeaaDoor
open Go.RowKit Go.Shelf
/-- The text that Unhex hands back. -/
def unhexT (s : ByteArray) : ByteArray := match unhexS s with | some l => ⟨l.toArray⟩ | none => ⟨#[]⟩
theorem unhexV_eq (s : ByteArray) : unhexV s = .tuple #[.string (unhexT s), .bool (unhexS s).isSome] := by
  unfold unhexV unhexT
  cases unhexS s <;> rfl
theorem calls_cell {w : World} (h : SVars w) (i : Nat) (hi : i < callW.length) : w.cell? ⟨1, i, none⟩ = some (strV callW[i]) := by
  obtain ⟨q, hq⟩ := h.calls
  rw [Lib.cell_of_heap hq]
  simp [List.getElem?_eq_getElem hi]
theorem steps_cell {w : World} (h : SVars w) (i : Nat) (hi : i < stepW.length) : w.cell? ⟨0, i, none⟩ = some (strV stepW[i]) := by
  obtain ⟨q, hq⟩ := h.steps
  rw [Lib.cell_of_heap hq]
  simp [List.getElem?_eq_getElem hi]
/-- One block is put anew; all others are as they were. -/
structure Put1 (w w' : World) (p : Nat) (o : Obj) : Prop where
  os : w'.os = w.os
  tape : w'.tape = w.tape
  output : w'.output = w.output
  size : w.heap.size ≤ w'.heap.size
  at_ : w'.heap[p]? = some o
  other : ∀ k, k < w.heap.size → k ≠ p → w'.heap[k]? = w.heap[k]?
theorem calls_at {w w' : World} (h : SVars w) (hh : w'.heap[1]? = w.heap[1]?) (i : Nat) (hi : i < callW.length) : w'.cell? ⟨1, i, none⟩ = some (strV callW[i]) := by
  rw [World.cell?_of_block (w := w) hh]
  exact calls_cell h i hi
theorem Put1.refl {w : World} {p : Nat} {o : Obj} (h : w.heap[p]? = some o) : Put1 w w p o := ⟨rfl, rfl, rfl, Nat.le_refl _, h, fun _ _ _ => rfl⟩
theorem Put1.setCell {w w' : World} {p j : Nat} {cs : Array Value} {t : TypeId} (h : Put1 w w' p (.cells cs t (0, 0))) (v : Value) : Put1 w (w'.setCell ⟨p, j, none⟩ v) p (.cells (cs.setIfInBounds j v) t (0, 0)) :=
  ⟨h.os, h.tape, h.output, by have := h.size; simp [World.setCell]; omega, heap_setCell_same w' p j cs t v h.at_, fun k hk hn => by rw [heap_setCell_other w' ⟨p, j, none⟩ k v hn]; exact h.other k hk hn⟩
theorem Put1.drew {w w' : World} {p : Nat} {o : Obj} (h : Put1 w w' p o) : Put1 w w'.drew p o := ⟨h.os, h.tape, h.output, h.size, h.at_, h.other⟩
theorem Put1.behind {w w1 w' : World} {p : Nat} {o : Obj} (hb : Below w.heap.size w w1) (h : Put1 w1 w' p o) : Put1 w w' p o :=
  ⟨h.os.trans hb.os, h.tape.trans hb.tape, h.output.trans hb.output, Nat.le_trans hb.size h.size, h.at_, fun k hk hn => by rw [h.other k (Nat.lt_of_lt_of_le hk hb.size) hn]; exact hb.block k hk⟩
set_option maxHeartbeats 4000000 in
set_option maxRecDepth 1000000 in
theorem Tryd.call_walk (p g cap : Nat) (c0 c1 c2 c3 c4 c5 c6 c7 c8 c9 c10 : Value) (s4 s5 s6 : ByteArray) (w : World) (hS : SVars w) (hp : w.heap[p]? = some (.cells #[c0, c1, c2, c3, c4, c5, c6, c7, c8, c9, c10] 27 (0, 0)))
    (hpb : 8 ≤ p) (hpg : p ≠ g) (h4 : w.cell? ⟨g, 4, none⟩ = some (.string s4)) (h5 : w.cell? ⟨g, 5, none⟩ = some (.string s5)) (h6 : w.cell? ⟨g, 6, none⟩ = some (.string s6))
    (z5 : s5.size ≤ 1000000) (z6 : s6.size ≤ 1000000) :
    Calls Tryd.prog 23 #[.pointer (some ⟨p, 0, none⟩), .slice (some ⟨g, 0, none⟩) 7 cap] w fun e w' =>
      e = .returned (.bool ((unhexS s5).isSome && (unhexS s6).isSome && decide (0 < kindS callW s4.data.toList))) ∧
        Put1 w w' p (.cells #[c0, c1, c2, c3, .int .i64 (kindS callW s4.data.toList), .string (unhexT s5), .string (unhexT s6), c7, c8, c9, c10] 27 (0, 0)) := by
  have hU5 := fun w => Tryd.Unhex_walk s5 w (by omega)
  have hU6 := fun w => Tryd.Unhex_walk s6 w (by omega)
  rw [unhexV_eq] at hU5 hU6
  go_enter Tryd.func23, Tryd.ntmps23
  go_wp2_with (go_at_call 13; refine (hU5 w).mono ?_)
  rintro e w1 ⟨rfl, b1⟩
  have h6' : w1.cell? ⟨g, 6, none⟩ = some (.string s6) := by rw [b1.cell (p := ⟨g, 6, none⟩) (lt_of_cell h6)]; exact h6
  go_wp2_with (go_at_call 13; refine (hU6 w1).mono ?_)
  rintro e w2 ⟨rfl, b2'⟩
  have b2 := below_next b1 b2'
  have k4 : w2.cell? ⟨g, 4, none⟩ = some (.string s4) := by rw [b2.cell (p := ⟨g, 4, none⟩) (lt_of_cell h4)]; exact h4
  have hp2 : w2.heap[p]? = some (.cells #[c0, c1, c2, c3, c4, c5, c6, c7, c8, c9, c10] 27 (0, 0)) := by rw [b2.block p (lt_of_block hp)]; exact hp
  have p4 : w2.cell? ⟨p, 4, none⟩ = some c4 := by rw [Lib.cell_of_heap hp2]; rfl
  have p5 : w2.cell? ⟨p, 5, none⟩ = some c5 := by rw [Lib.cell_of_heap hp2]; rfl
  have p6 : w2.cell? ⟨p, 6, none⟩ = some c6 := by rw [Lib.cell_of_heap hp2]; rfl
  have f4 : w2.frozen? ⟨p, 4, none⟩ = false := Lib.frozen_of_heap hp2 4
  have f5 : w2.frozen? ⟨p, 5, none⟩ = false := Lib.frozen_of_heap hp2 5
  have f6 : w2.frozen? ⟨p, 6, none⟩ = false := Lib.frozen_of_heap hp2 6
  have S2 := hS.below b2
  clear h4 h5 h6 h6' hU5 hU6
  go_wp2
  go_region_with (go_at_call 21; refine (Tryd.kind_walk 1 callW 7 s4 _ (by decide) (fun i hi => calls_at S2 ?_ i hi)).mono ?_; (first | rfl | (repeat (first | rfl | rw [Below.heap_setCell _ _ _ _ (show 1 ≠ p by omega)]))); rintro e w' ⟨rfl, rfl⟩)
  have hP : Put1 w ((((w2.setCell ⟨p, 4, none⟩ (.int .i64 (kindS callW s4.data.toList))).setCell ⟨p, 5, none⟩ (.string (unhexT s5))).setCell ⟨p, 6, none⟩ (.string (unhexT s6))).drew) p (.cells #[c0, c1, c2, c3, .int .i64 (kindS callW s4.data.toList), .string (unhexT s5), .string (unhexT s6), c7, c8, c9, c10] 27 (0, 0)) :=
    Put1.behind b2 (((((Put1.refl hp2).setCell (j := 4) _).setCell (j := 5) _).setCell (j := 6) _).drew)
  generalize (((w2.setCell ⟨p, 4, none⟩ (.int .i64 (kindS callW s4.data.toList))).setCell ⟨p, 5, none⟩ (.string (unhexT s5))).setCell ⟨p, 6, none⟩ (.string (unhexT s6))).drew = w3 at *
  have q4 : w3.cell? ⟨p, 4, none⟩ = some (.int .i64 (kindS callW s4.data.toList)) := by rw [Lib.cell_of_heap hP.at_]; rfl
  clear p4 p5 p6 f4 f5 f6 k4 S2 b1 b2 b2' hp2 hp hS
  cases e5 : (unhexS s5).isSome <;> cases e6 : (unhexS s6).isSome
  all_goals
    go_wp2
    go_ret
    rw [e5, e6]
    exact ⟨by first | rfl | simp, hP⟩
end Go.Proofs.YtcdpepaffpboeaaDoor
