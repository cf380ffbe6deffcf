/- the law's line, whole. -/
import Derived.Test.YtcdpepaffpboeaaDoorScLine9
namespace Go.Proofs.YtcdpepaffpboeaaDoor
open Go.RowKit Go.Shelf
theorem lineS_none {r : StepR} (h : ∀ k : Nat, 1 ≤ k → k ≤ 9 → r.kind ≠ (k : Int)) : lineS r = none := by
  unfold lineS
  split
  · exact absurd (by assumption) (h 1 (by decide) (by decide))
  · exact absurd (by assumption) (h 2 (by decide) (by decide))
  · exact absurd (by assumption) (h 3 (by decide) (by decide))
  · exact absurd (by assumption) (h 4 (by decide) (by decide))
  · exact absurd (by assumption) (h 5 (by decide) (by decide))
  · exact absurd (by assumption) (h 6 (by decide) (by decide))
  · exact absurd (by assumption) (h 7 (by decide) (by decide))
  · exact absurd (by assumption) (h 8 (by decide) (by decide))
  · exact absurd (by assumption) (h 9 (by decide) (by decide))
  · rfl
theorem lineS_nocall {r : StepR} (hk : r.kind = 1) (h : ¬(1 ≤ r.ckind ∧ r.ckind ≤ 6)) : lineS r = none := by
  unfold lineS
  rw [hk]
  show (if _ then _ else _) = _
  rw [if_neg h]
set_option maxHeartbeats 8000000 in
set_option maxRecDepth 1000000 in
theorem Tryd.line_none (r : StepR) (v : Value) (w : World) (h : StepIn w r v) (hk : ∀ k : Nat, 1 ≤ k → k ≤ 9 → r.kind ≠ (k : Int)) :
    Calls Tryd.prog 11 #[v] w fun e w' => e = .returned (.tuple #[.string (mkB ((lineS r).getD [])), .bool (lineS r).isSome]) ∧ Below w.heap.size w w' := by
  rw [lineS_none hk]
  have g1 := hk 1 (by decide) (by decide)
  have g2 := hk 2 (by decide) (by decide)
  have g3 := hk 3 (by decide) (by decide)
  have g4 := hk 4 (by decide) (by decide)
  have g5 := hk 5 (by decide) (by decide)
  have g6 := hk 6 (by decide) (by decide)
  have g7 := hk 7 (by decide) (by decide)
  have g8 := hk 8 (by decide) (by decide)
  have g9 := hk 9 (by decide) (by decide)
  clear hk
  obtain ⟨a, c, rfl, own⟩ := h
  clear own
  simp only [StepR.cells]
  go_enter Tryd.func11, Tryd.ntmps11
  go_wp2
  all_goals (go_ret2; exact ⟨rfl, by go_grown⟩)
set_option maxHeartbeats 8000000 in
set_option maxRecDepth 1000000 in
theorem Tryd.line_nocall (r : StepR) (v : Value) (w : World) (h : StepIn w r v) (hk : r.kind = 1) (hc : ¬(1 ≤ r.ckind ∧ r.ckind ≤ 6)) :
    Calls Tryd.prog 11 #[v] w fun e w' => e = .returned (.tuple #[.string (mkB ((lineS r).getD [])), .bool (lineS r).isSome]) ∧ Below w.heap.size w w' := by
  rw [lineS_nocall hk hc]
  obtain ⟨a, c, rfl, own⟩ := h
  clear own
  simp only [StepR.cells]
  rcases (by omega : r.ckind < 1 ∨ (¬ r.ckind < 1 ∧ 6 < r.ckind)) with h1 | ⟨h0, h1⟩
  · clear hc
    go_enter Tryd.func11, Tryd.ntmps11
    go_wp2
    all_goals (go_ret2; exact ⟨rfl, by go_grown⟩)
  · clear hc
    go_enter Tryd.func11, Tryd.ntmps11
    go_wp2
    all_goals (go_ret2; exact ⟨rfl, by go_grown⟩)
/-- A step that is not too long. -/
structure Lim (r : StepR) : Prop extends Fits64 r where
  key : r.key.size ≤ 2000
  val : r.val.size ≤ 2000
  keep : r.keep.length ≤ 2000
/-- A step that is not longer than memory. -/
structure Big (r : StepR) : Prop extends Fits64 r where
  key : r.key.size ≤ 140737488355328
  val : r.val.size ≤ 140737488355328
  keep : r.keep.length ≤ 140737488355328
theorem Lim.big {r : StepR} (h : Lim r) : Big r := ⟨h.toFits64, Nat.le_trans h.key (by decide), Nat.le_trans h.val (by decide), Nat.le_trans h.keep (by decide)⟩
theorem Tryd.line_walk (r : StepR) (v : Value) (w : World) (hS : SVars w) (h : StepIn w r v) (hf : Big r) :
    Calls Tryd.prog 11 #[v] w fun e w' => e = .returned (.tuple #[.string (mkB ((lineS r).getD [])), .bool (lineS r).isSome]) ∧ Below w.heap.size w w' := by
  rcases (by omega : r.kind = 1 ∨ r.kind = 2 ∨ r.kind = 3 ∨ r.kind = 4 ∨ r.kind = 5 ∨ r.kind = 6 ∨ r.kind = 7 ∨ r.kind = 8 ∨ r.kind = 9 ∨ (r.kind < 1 ∨ 9 < r.kind)) with hk | hk | hk | hk | hk | hk | hk | hk | hk | hk
  · rcases (by omega : (1 ≤ r.ckind ∧ r.ckind ≤ 6) ∨ ¬(1 ≤ r.ckind ∧ r.ckind ≤ 6)) with hc | hc
    · exact Tryd.line_1 r v w hS h hf.toFits64 hk r.ckind.toNat (by omega) (by omega) (by omega) hf.key hf.val
    · exact Tryd.line_nocall r v w h hk hc
  · exact Tryd.line_2 r v w hS h hf.toFits64 hk
  · exact Tryd.line_3 r v w hS h hf.toFits64 hk
  · exact Tryd.line_4 r v w hS h hf.toFits64 hk
  · exact Tryd.line_5 r v w hS h hf.toFits64 hk
  · exact Tryd.line_6 r v w hS h hf.toFits64 hk
  · exact Tryd.line_7 r v w hS h hf.toFits64 hk
  · exact Tryd.line_8 r v w hS h hf.toFits64 hk
  · exact Tryd.line_9 r v w hS h hf.toFits64 hk hf.keep
  · exact Tryd.line_none r v w h (fun k h1 h9 e => by omega)
end Go.Proofs.YtcdpepaffpboeaaDoor
