/- script.Line, whole. -/
import Derived.Test.YtcdpepaffpboeaaDoorScSLine
import Derived.Test.YtcdpepaffpboeaaDoorScSLine1
import Derived.Test.YtcdpepaffpboeaaDoorScSLine9
namespace Go.Proofs.YtcdpepaffpboeaaDoor
open Go.RowKit Go.Shelf
set_option maxHeartbeats 8000000 in
set_option maxRecDepth 1000000 in
theorem Tryd.sline_none (r : StepR) (v : Value) (w : World) (h : StepIn w r v) (hk : ∀ k : Nat, 1 ≤ k → k ≤ 9 → r.kind ≠ (k : Int)) :
    Calls Tryd.prog 19 #[v] w fun e w' => e = .returned (.tuple #[.string (mkB ((lineS r).getD [])), .bool (lineS r).isSome]) ∧ Below w.heap.size w w' := by
  rw [lineS_none hk]
  have g1 := hk 1 (by decide) (by decide)
  have g2 := hk 2 (by decide) (by decide)
  have g3 := hk 3 (by decide) (by decide)
  have g4 := hk 4 (by decide) (by decide)
  have g5 := hk 5 (by decide) (by decide)
  have g6 := hk 6 (by decide) (by decide)
  have g7 := hk 7 (by decide) (by decide)
  have g8 := hk 8 (by decide) (by decide)
  have g9 := hk 9 (by decide) (by decide)
  clear hk
  obtain ⟨a, c, rfl, own⟩ := h
  clear own
  simp only [StepR.cells]
  go_enter Tryd.func19, Tryd.ntmps19
  go_wp2
  all_goals (go_ret2; exact ⟨rfl, by go_grown⟩)
set_option maxHeartbeats 8000000 in
set_option maxRecDepth 1000000 in
theorem Tryd.sline_nocall (r : StepR) (v : Value) (w : World) (h : StepIn w r v) (hk : r.kind = 1) (hc : ¬(1 ≤ r.ckind ∧ r.ckind ≤ 6)) :
    Calls Tryd.prog 19 #[v] w fun e w' => e = .returned (.tuple #[.string (mkB ((lineS r).getD [])), .bool (lineS r).isSome]) ∧ Below w.heap.size w w' := by
  rw [lineS_nocall hk hc]
  obtain ⟨a, c, rfl, own⟩ := h
  clear own
  simp only [StepR.cells]
  rcases (by omega : r.ckind < 1 ∨ (¬ r.ckind < 1 ∧ 6 < r.ckind)) with h1 | ⟨h0, h1⟩
  · clear hc
    go_enter Tryd.func19, Tryd.ntmps19
    go_wp2
    all_goals (go_ret2; exact ⟨rfl, by go_grown⟩)
  · clear hc
    go_enter Tryd.func19, Tryd.ntmps19
    go_wp2
    all_goals (go_ret2; exact ⟨rfl, by go_grown⟩)
theorem Tryd.sline_walk (r : StepR) (v : Value) (w : World) (hS : SVars w) (h : StepIn w r v) (hf : Lim r) :
    Calls Tryd.prog 19 #[v] w fun e w' => e = .returned (.tuple #[.string (mkB ((lineS r).getD [])), .bool (lineS r).isSome]) ∧ Below w.heap.size w w' := by
  rcases (by omega : r.kind = 1 ∨ r.kind = 2 ∨ r.kind = 3 ∨ r.kind = 4 ∨ r.kind = 5 ∨ r.kind = 6 ∨ r.kind = 7 ∨ r.kind = 8 ∨ r.kind = 9 ∨ (r.kind < 1 ∨ 9 < r.kind)) with hk | hk | hk | hk | hk | hk | hk | hk | hk | hk
  · rcases (by omega : (1 ≤ r.ckind ∧ r.ckind ≤ 6) ∨ ¬(1 ≤ r.ckind ∧ r.ckind ≤ 6)) with hc | hc
    · exact Tryd.sline_1 r v w hS h hf.toFits64 hk r.ckind.toNat (by omega) (by omega) (by omega) hf.key hf.val
    · exact Tryd.sline_nocall r v w h hk hc
  · exact Tryd.sline_2 r v w hS h hf.toFits64 hk
  · exact Tryd.sline_3 r v w hS h hf.toFits64 hk
  · exact Tryd.sline_4 r v w hS h hf.toFits64 hk
  · exact Tryd.sline_5 r v w hS h hf.toFits64 hk
  · exact Tryd.sline_6 r v w hS h hf.toFits64 hk
  · exact Tryd.sline_7 r v w hS h hf.toFits64 hk
  · exact Tryd.sline_8 r v w hS h hf.toFits64 hk
  · exact Tryd.sline_9 r v w hS h hf.toFits64 hk hf.keep
  · exact Tryd.sline_none r v w h (fun k h1 h9 e => by omega)
end Go.Proofs.YtcdpepaffpboeaaDoor
