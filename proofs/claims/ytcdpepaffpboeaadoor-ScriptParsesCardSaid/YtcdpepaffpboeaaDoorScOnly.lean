/- the law's Only, walked. -/
import Derived.Test.YtcdpepaffpboeaaDoorScIn
namespace Go.Proofs.YtcdpepaffpboeaaDoor
open Go.RowKit Go.Shelf
/-- A step with what its kind has alone. -/
def onlyS (r : StepR) : StepR :=
  if r.kind = 1 then { kind := r.kind, node := r.node, sess := r.sess, req := r.req, ckind := r.ckind, key := r.key, val := r.val }
  else if r.kind = 2 ∨ r.kind = 3 ∨ r.kind = 4 ∨ r.kind = 5 then { kind := r.kind, dest := r.dest }
  else if r.kind = 7 then { kind := r.kind, node := r.node, n := r.n }
  else if r.kind = 9 then { kind := r.kind, node := r.node, n := r.n, tear := r.tear, keep := r.keep }
  else { kind := r.kind, node := r.node }
theorem Tryd.results_only {tmps : Array Value} {w : World} {r : Nat} {cs : Array Value} (hp : tmps.getD 2 undef = .pointer (some ⟨r, 0, none⟩)) (hh : w.heap[r]? = some (.cells cs 27 (0, 0))) (hc : cs.size = 11) :
    (results Tryd.f12 tmps).run Tryd.prog w = .ok (.agg cs) w :=
  results_cell_row (p := 2) (ty := 27) rfl tmps w r 27 cs (0, 0) _ hp hh Tryd.underlying27 rfl (by rw [Tryd.sizeStep, hc])
theorem alloc3_mid (w : World) (A B C : Obj) : (((w.alloc A).alloc B).alloc C).heap[w.heap.size + 1]? = some B := by
  rw [Below.heap_alloc _ _ _ (by simp)]
  exact heap_alloc2_new w A B
set_option maxHeartbeats 8000000 in
set_option maxRecDepth 1000000 in
theorem Tryd.Only_walk2 (r : StepR) (v : Value) (w : World) (h : StepIn w r v) :
    Calls Tryd.prog 12 #[v] w fun e w' => ∃ v', e = .returned v' ∧ (∀ W0, StepIn W0 r v → StepIn W0 (onlyS r) v') ∧ Below w.heap.size w w' := by
  obtain ⟨a, c, rfl, own⟩ := h
  clear own
  simp only [StepR.cells]
  rcases (by omega : r.kind = 1 ∨ r.kind = 2 ∨ r.kind = 3 ∨ r.kind = 4 ∨ r.kind = 5 ∨ r.kind = 7 ∨ r.kind = 9 ∨ (r.kind ≠ 1 ∧ r.kind ≠ 2 ∧ r.kind ≠ 3 ∧ r.kind ≠ 4 ∧ r.kind ≠ 5 ∧ r.kind ≠ 7 ∧ r.kind ≠ 9)) with h | h | h | h | h | h | h | h
  · have ho : onlyS r = { kind := 1, node := r.node, sess := r.sess, req := r.req, ckind := r.ckind, key := r.key, val := r.val } := by
      unfold onlyS
      rw [if_pos h, h]
    replace ho := Keep.mk ho
    go_enter Tryd.func12, Tryd.ntmps12
    go_wp2
    refine bodyPost_ret (Tryd.results_only (r := w.heap.size + 1) rfl (alloc3_mid w _ _ _) rfl) rfl ?_
    refine ⟨_, rfl, ?_, by go_grown⟩
    rw [ho.out]
    exact fun W0 _ => ⟨none, 0, rfl, BoolsIn.nil _ _⟩
  · have ho : onlyS r = { kind := 2, dest := r.dest } := by
      unfold onlyS
      rw [if_neg (by omega), if_pos (by omega), h]
    replace ho := Keep.mk ho
    go_enter Tryd.func12, Tryd.ntmps12
    go_wp2
    refine bodyPost_ret (Tryd.results_only (r := w.heap.size + 1) rfl (alloc3_mid w _ _ _) rfl) rfl ?_
    refine ⟨_, rfl, ?_, by go_grown⟩
    rw [ho.out]
    exact fun W0 _ => ⟨none, 0, rfl, BoolsIn.nil _ _⟩
  · have ho : onlyS r = { kind := 3, dest := r.dest } := by
      unfold onlyS
      rw [if_neg (by omega), if_pos (by omega), h]
    replace ho := Keep.mk ho
    go_enter Tryd.func12, Tryd.ntmps12
    go_wp2
    refine bodyPost_ret (Tryd.results_only (r := w.heap.size + 1) rfl (alloc3_mid w _ _ _) rfl) rfl ?_
    refine ⟨_, rfl, ?_, by go_grown⟩
    rw [ho.out]
    exact fun W0 _ => ⟨none, 0, rfl, BoolsIn.nil _ _⟩
  · have ho : onlyS r = { kind := 4, dest := r.dest } := by
      unfold onlyS
      rw [if_neg (by omega), if_pos (by omega), h]
    replace ho := Keep.mk ho
    go_enter Tryd.func12, Tryd.ntmps12
    go_wp2
    refine bodyPost_ret (Tryd.results_only (r := w.heap.size + 1) rfl (alloc3_mid w _ _ _) rfl) rfl ?_
    refine ⟨_, rfl, ?_, by go_grown⟩
    rw [ho.out]
    exact fun W0 _ => ⟨none, 0, rfl, BoolsIn.nil _ _⟩
  · have ho : onlyS r = { kind := 5, dest := r.dest } := by
      unfold onlyS
      rw [if_neg (by omega), if_pos (by omega), h]
    replace ho := Keep.mk ho
    go_enter Tryd.func12, Tryd.ntmps12
    go_wp2
    refine bodyPost_ret (Tryd.results_only (r := w.heap.size + 1) rfl (alloc3_mid w _ _ _) rfl) rfl ?_
    refine ⟨_, rfl, ?_, by go_grown⟩
    rw [ho.out]
    exact fun W0 _ => ⟨none, 0, rfl, BoolsIn.nil _ _⟩
  · have ho : onlyS r = { kind := 7, node := r.node, n := r.n } := by
      unfold onlyS
      rw [if_neg (by omega), if_neg (by omega), if_pos h, h]
    replace ho := Keep.mk ho
    go_enter Tryd.func12, Tryd.ntmps12
    go_wp2
    refine bodyPost_ret (Tryd.results_only (r := w.heap.size + 1) rfl (alloc3_mid w _ _ _) rfl) rfl ?_
    refine ⟨_, rfl, ?_, by go_grown⟩
    rw [ho.out]
    exact fun W0 _ => ⟨none, 0, rfl, BoolsIn.nil _ _⟩
  · have ho : onlyS r = { kind := 9, node := r.node, n := r.n, tear := r.tear, keep := r.keep } := by
      unfold onlyS
      rw [if_neg (by omega), if_neg (by omega), if_neg (by omega), if_pos h, h]
    replace ho := Keep.mk ho
    go_enter Tryd.func12, Tryd.ntmps12
    go_wp2
    refine bodyPost_ret (Tryd.results_only (r := w.heap.size + 1) rfl (alloc3_mid w _ _ _) rfl) rfl ?_
    refine ⟨_, rfl, ?_, by go_grown⟩
    rw [ho.out]
    rintro W0 ⟨a', c', he, hb⟩
    have he : a' = a := by
      simp only [StepR.cells, Value.agg.injEq, Array.mk.injEq, List.cons.injEq, Value.slice.injEq, true_and, and_true] at he
      exact he.1.symm
    subst he
    exact ⟨a', c, rfl, hb⟩
  · have ho : onlyS r = { kind := r.kind, node := r.node } := by
      unfold onlyS
      rw [if_neg (by omega), if_neg (by omega), if_neg (by omega), if_neg (by omega)]
    replace ho := Keep.mk ho
    obtain ⟨g1, g2, g3, g4, g5, g7, g9⟩ := h
    go_enter Tryd.func12, Tryd.ntmps12
    go_wp2
    refine bodyPost_ret (Tryd.results_only (r := w.heap.size + 1) rfl (alloc3_mid w _ _ _) rfl) rfl ?_
    refine ⟨_, rfl, ?_, by go_grown⟩
    rw [ho.out]
    exact fun W0 _ => ⟨none, 0, rfl, BoolsIn.nil _ _⟩
theorem Tryd.Only_walk (r : StepR) (v : Value) (w : World) (h : StepIn w r v) :
    Calls Tryd.prog 12 #[v] w fun e w' => ∃ v', e = .returned v' ∧ StepIn w' (onlyS r) v' ∧ Below w.heap.size w w' :=
  (Tryd.Only_walk2 r v w h).mono fun _ _ ⟨v', he, hv, hb⟩ => ⟨v', he, hv _ (h.below hb), hb⟩
end Go.Proofs.YtcdpepaffpboeaaDoor
