/- script.Line, walked: all but calls and on: printed by gen_sline.py. -/
import Derived.Test.YtcdpepaffpboeaaDoorScBitsL
namespace Go.Proofs.YtcdpepaffpboeaaDoor
open Go.RowKit Go.Shelf
set_option maxHeartbeats 8000000 in
set_option maxRecDepth 1000000 in
theorem Tryd.sline_2 (r : StepR) (v : Value) (w : World) (hS : SVars w) (h : StepIn w r v) (hf : Fits64 r) (hk : r.kind = 2) :
    Calls Tryd.prog 19 #[v] w fun e w' => e = .returned (.tuple #[.string (mkB ((lineS r).getD [])), .bool (lineS r).isSome]) ∧ Below w.heap.size w w' := by
  have hspec : lineS r = some ([100, 101, 108, 105, 118, 101, 114] ++ spN r.dest) := by
    unfold lineS
    rw [hk]
    rfl
  replace hspec := Keep.mk hspec
  obtain ⟨a, c, rfl, own⟩ := h
  clear own
  simp only [StepR.cells]
  go_enter Tryd.func19, Tryd.ntmps19
  go_upto_region 12 with fail
  have hB0 : Below w.heap.size w (w.alloc (.cells #[.int .i64 2, .int .i64 r.node, .int .i64 r.sess, .int .i64 r.req, .int .i64 r.ckind, .string r.key, .string r.val, .int .i64 r.dest, .int .i64 r.n, .slice a r.keep.length c, .int .i64 r.tear] 27 (0, 0))) := by go_grown
  have hA : (w.alloc (.cells #[.int .i64 2, .int .i64 r.node, .int .i64 r.sess, .int .i64 r.req, .int .i64 r.ckind, .string r.key, .string r.val, .int .i64 r.dest, .int .i64 r.n, .slice a r.keep.length c, .int .i64 r.tear] 27 (0, 0))).heap[w.heap.size]? = some (.cells #[.int .i64 2, .int .i64 r.node, .int .i64 r.sess, .int .i64 r.req, .int .i64 r.ckind, .string r.key, .string r.val, .int .i64 r.dest, .int .i64 r.n, .slice a r.keep.length c, .int .i64 r.tear] 27 (0, 0)) := heap_alloc_new w _
  generalize (w.alloc (.cells #[.int .i64 2, .int .i64 r.node, .int .i64 r.sess, .int .i64 r.req, .int .i64 r.ckind, .string r.key, .string r.val, .int .i64 r.dest, .int .i64 r.n, .slice a r.keep.length c, .int .i64 r.tear] 27 (0, 0))) = W0 at *
  have S0 := hS.below hB0
  have hpow : ∀ w', Below W0.heap.size W0 w' → Lib.TabIs Tryd.prog w' "internal/strconv.uint64pow10" .u64 Lib.pow10Tab := fun w' hb => (S0.below hb).pow
  have c0 : W0.cell? ⟨w.heap.size, 0, none⟩ = some (.int .i64 2) := by rw [Lib.cell_of_heap hA]; rfl
  have c7 : W0.cell? ⟨w.heap.size, 7, none⟩ = some (.int .i64 r.dest) := by rw [Lib.cell_of_heap hA]; rfl
  have d1 : W0.cell? ⟨0, 2, none⟩ = some (.string ⟨#[100, 101, 108, 105, 118, 101, 114]⟩) := steps_cell S0 2 (by decide)
  have hlt := lt_of_cell c0
  have hlt2 := lt_of_cell d1
  have hb00 : Below W0.heap.size W0 W0.drew := (Below.refl _ _).drew
  clear hA hS S0
  have l7 := itoa_length r.dest hf.dest.1 hf.dest.2
  have hnext : ∀ w' w'', Below W0.heap.size W0 w' → Below w'.heap.size w' w'' → (Below W0.heap.size W0 w'' ∧ w''.cell? ⟨w.heap.size, 0, none⟩ = some (.int .i64 2) ∧ w''.cell? ⟨w.heap.size, 7, none⟩ = some (.int .i64 r.dest) ∧ w''.cell? ⟨0, 2, none⟩ = some (.string ⟨#[100, 101, 108, 105, 118, 101, 114]⟩)) := fun w' w'' h1 h2 => by
    have hb := below_next h1 h2
    exact ⟨hb, by rw [hb.cell (p := ⟨w.heap.size, 0, none⟩) hlt]; exact c0, by rw [hb.cell (p := ⟨w.heap.size, 7, none⟩) hlt]; exact c7, by rw [hb.cell (p := ⟨0, 2, none⟩) hlt2]; exact d1⟩
  have q1 : ¬9223372036854775807 < 8 + (Lib.itoa r.dest).length := by omega
  have q2 : ¬9223372036854775807 < 7 + 1 + (Lib.itoa r.dest).length := by omega
  clear l7
  go_region_held3 (fun w' => Below W0.heap.size W0 w' ∧ w'.cell? ⟨w.heap.size, 0, none⟩ = some (.int .i64 2) ∧ w'.cell? ⟨w.heap.size, 7, none⟩ = some (.int .i64 r.dest) ∧ w'.cell? ⟨0, 2, none⟩ = some (.string ⟨#[100, 101, 108, 105, 118, 101, 114]⟩)) (first | exact ⟨hb00, c0, c7, d1⟩ | assumption | go_keep)
    (first | (go_at_call 18; refine (Tryd.Itoa _ ?_ ?_ _ ?_).mono ?_; (first | exact hf.dest.1); (first | exact hf.dest.2); (exact hpow _ (by first | exact Below.refl _ _ | assumption | exact hb00 | exact And.left (by assumption))); rintro e w'' ⟨rfl, hb⟩; have q := hnext _ _ (by first | exact Below.refl _ _ | assumption | exact hb00 | exact And.left (by assumption)) hb))
  all_goals
    rename_i hb q hheld
    have hfin := hheld.1
    clear hheld q hb
    go_wp2
    go_ret2
    refine ⟨?_, below_next hB0 hfin⟩
    rw [hspec.out]
    simp [mkB, ByteArray.mk_append_mk, spN]
set_option maxHeartbeats 8000000 in
set_option maxRecDepth 1000000 in
theorem Tryd.sline_3 (r : StepR) (v : Value) (w : World) (hS : SVars w) (h : StepIn w r v) (hf : Fits64 r) (hk : r.kind = 3) :
    Calls Tryd.prog 19 #[v] w fun e w' => e = .returned (.tuple #[.string (mkB ((lineS r).getD [])), .bool (lineS r).isSome]) ∧ Below w.heap.size w w' := by
  have hspec : lineS r = some ([108, 111, 115, 101] ++ spN r.dest) := by
    unfold lineS
    rw [hk]
    rfl
  replace hspec := Keep.mk hspec
  obtain ⟨a, c, rfl, own⟩ := h
  clear own
  simp only [StepR.cells]
  go_enter Tryd.func19, Tryd.ntmps19
  go_upto_region 12 with fail
  have hB0 : Below w.heap.size w (w.alloc (.cells #[.int .i64 3, .int .i64 r.node, .int .i64 r.sess, .int .i64 r.req, .int .i64 r.ckind, .string r.key, .string r.val, .int .i64 r.dest, .int .i64 r.n, .slice a r.keep.length c, .int .i64 r.tear] 27 (0, 0))) := by go_grown
  have hA : (w.alloc (.cells #[.int .i64 3, .int .i64 r.node, .int .i64 r.sess, .int .i64 r.req, .int .i64 r.ckind, .string r.key, .string r.val, .int .i64 r.dest, .int .i64 r.n, .slice a r.keep.length c, .int .i64 r.tear] 27 (0, 0))).heap[w.heap.size]? = some (.cells #[.int .i64 3, .int .i64 r.node, .int .i64 r.sess, .int .i64 r.req, .int .i64 r.ckind, .string r.key, .string r.val, .int .i64 r.dest, .int .i64 r.n, .slice a r.keep.length c, .int .i64 r.tear] 27 (0, 0)) := heap_alloc_new w _
  generalize (w.alloc (.cells #[.int .i64 3, .int .i64 r.node, .int .i64 r.sess, .int .i64 r.req, .int .i64 r.ckind, .string r.key, .string r.val, .int .i64 r.dest, .int .i64 r.n, .slice a r.keep.length c, .int .i64 r.tear] 27 (0, 0))) = W0 at *
  have S0 := hS.below hB0
  have hpow : ∀ w', Below W0.heap.size W0 w' → Lib.TabIs Tryd.prog w' "internal/strconv.uint64pow10" .u64 Lib.pow10Tab := fun w' hb => (S0.below hb).pow
  have c0 : W0.cell? ⟨w.heap.size, 0, none⟩ = some (.int .i64 3) := by rw [Lib.cell_of_heap hA]; rfl
  have c7 : W0.cell? ⟨w.heap.size, 7, none⟩ = some (.int .i64 r.dest) := by rw [Lib.cell_of_heap hA]; rfl
  have d1 : W0.cell? ⟨0, 3, none⟩ = some (.string ⟨#[108, 111, 115, 101]⟩) := steps_cell S0 3 (by decide)
  have hlt := lt_of_cell c0
  have hlt2 := lt_of_cell d1
  have hb00 : Below W0.heap.size W0 W0.drew := (Below.refl _ _).drew
  clear hA hS S0
  have l7 := itoa_length r.dest hf.dest.1 hf.dest.2
  have hnext : ∀ w' w'', Below W0.heap.size W0 w' → Below w'.heap.size w' w'' → (Below W0.heap.size W0 w'' ∧ w''.cell? ⟨w.heap.size, 0, none⟩ = some (.int .i64 3) ∧ w''.cell? ⟨w.heap.size, 7, none⟩ = some (.int .i64 r.dest) ∧ w''.cell? ⟨0, 3, none⟩ = some (.string ⟨#[108, 111, 115, 101]⟩)) := fun w' w'' h1 h2 => by
    have hb := below_next h1 h2
    exact ⟨hb, by rw [hb.cell (p := ⟨w.heap.size, 0, none⟩) hlt]; exact c0, by rw [hb.cell (p := ⟨w.heap.size, 7, none⟩) hlt]; exact c7, by rw [hb.cell (p := ⟨0, 3, none⟩) hlt2]; exact d1⟩
  have q1 : ¬9223372036854775807 < 5 + (Lib.itoa r.dest).length := by omega
  have q2 : ¬9223372036854775807 < 4 + 1 + (Lib.itoa r.dest).length := by omega
  clear l7
  go_region_held3 (fun w' => Below W0.heap.size W0 w' ∧ w'.cell? ⟨w.heap.size, 0, none⟩ = some (.int .i64 3) ∧ w'.cell? ⟨w.heap.size, 7, none⟩ = some (.int .i64 r.dest) ∧ w'.cell? ⟨0, 3, none⟩ = some (.string ⟨#[108, 111, 115, 101]⟩)) (first | exact ⟨hb00, c0, c7, d1⟩ | assumption | go_keep)
    (first | (go_at_call 18; refine (Tryd.Itoa _ ?_ ?_ _ ?_).mono ?_; (first | exact hf.dest.1); (first | exact hf.dest.2); (exact hpow _ (by first | exact Below.refl _ _ | assumption | exact hb00 | exact And.left (by assumption))); rintro e w'' ⟨rfl, hb⟩; have q := hnext _ _ (by first | exact Below.refl _ _ | assumption | exact hb00 | exact And.left (by assumption)) hb))
  all_goals
    rename_i hb q hheld
    have hfin := hheld.1
    clear hheld q hb
    go_wp2
    go_ret2
    refine ⟨?_, below_next hB0 hfin⟩
    rw [hspec.out]
    simp [mkB, ByteArray.mk_append_mk, spN]
set_option maxHeartbeats 8000000 in
set_option maxRecDepth 1000000 in
theorem Tryd.sline_4 (r : StepR) (v : Value) (w : World) (hS : SVars w) (h : StepIn w r v) (hf : Fits64 r) (hk : r.kind = 4) :
    Calls Tryd.prog 19 #[v] w fun e w' => e = .returned (.tuple #[.string (mkB ((lineS r).getD [])), .bool (lineS r).isSome]) ∧ Below w.heap.size w w' := by
  have hspec : lineS r = some ([116, 119, 105, 99, 101] ++ spN r.dest) := by
    unfold lineS
    rw [hk]
    rfl
  replace hspec := Keep.mk hspec
  obtain ⟨a, c, rfl, own⟩ := h
  clear own
  simp only [StepR.cells]
  go_enter Tryd.func19, Tryd.ntmps19
  go_upto_region 12 with fail
  have hB0 : Below w.heap.size w (w.alloc (.cells #[.int .i64 4, .int .i64 r.node, .int .i64 r.sess, .int .i64 r.req, .int .i64 r.ckind, .string r.key, .string r.val, .int .i64 r.dest, .int .i64 r.n, .slice a r.keep.length c, .int .i64 r.tear] 27 (0, 0))) := by go_grown
  have hA : (w.alloc (.cells #[.int .i64 4, .int .i64 r.node, .int .i64 r.sess, .int .i64 r.req, .int .i64 r.ckind, .string r.key, .string r.val, .int .i64 r.dest, .int .i64 r.n, .slice a r.keep.length c, .int .i64 r.tear] 27 (0, 0))).heap[w.heap.size]? = some (.cells #[.int .i64 4, .int .i64 r.node, .int .i64 r.sess, .int .i64 r.req, .int .i64 r.ckind, .string r.key, .string r.val, .int .i64 r.dest, .int .i64 r.n, .slice a r.keep.length c, .int .i64 r.tear] 27 (0, 0)) := heap_alloc_new w _
  generalize (w.alloc (.cells #[.int .i64 4, .int .i64 r.node, .int .i64 r.sess, .int .i64 r.req, .int .i64 r.ckind, .string r.key, .string r.val, .int .i64 r.dest, .int .i64 r.n, .slice a r.keep.length c, .int .i64 r.tear] 27 (0, 0))) = W0 at *
  have S0 := hS.below hB0
  have hpow : ∀ w', Below W0.heap.size W0 w' → Lib.TabIs Tryd.prog w' "internal/strconv.uint64pow10" .u64 Lib.pow10Tab := fun w' hb => (S0.below hb).pow
  have c0 : W0.cell? ⟨w.heap.size, 0, none⟩ = some (.int .i64 4) := by rw [Lib.cell_of_heap hA]; rfl
  have c7 : W0.cell? ⟨w.heap.size, 7, none⟩ = some (.int .i64 r.dest) := by rw [Lib.cell_of_heap hA]; rfl
  have d1 : W0.cell? ⟨0, 4, none⟩ = some (.string ⟨#[116, 119, 105, 99, 101]⟩) := steps_cell S0 4 (by decide)
  have hlt := lt_of_cell c0
  have hlt2 := lt_of_cell d1
  have hb00 : Below W0.heap.size W0 W0.drew := (Below.refl _ _).drew
  clear hA hS S0
  have l7 := itoa_length r.dest hf.dest.1 hf.dest.2
  have hnext : ∀ w' w'', Below W0.heap.size W0 w' → Below w'.heap.size w' w'' → (Below W0.heap.size W0 w'' ∧ w''.cell? ⟨w.heap.size, 0, none⟩ = some (.int .i64 4) ∧ w''.cell? ⟨w.heap.size, 7, none⟩ = some (.int .i64 r.dest) ∧ w''.cell? ⟨0, 4, none⟩ = some (.string ⟨#[116, 119, 105, 99, 101]⟩)) := fun w' w'' h1 h2 => by
    have hb := below_next h1 h2
    exact ⟨hb, by rw [hb.cell (p := ⟨w.heap.size, 0, none⟩) hlt]; exact c0, by rw [hb.cell (p := ⟨w.heap.size, 7, none⟩) hlt]; exact c7, by rw [hb.cell (p := ⟨0, 4, none⟩) hlt2]; exact d1⟩
  have q1 : ¬9223372036854775807 < 6 + (Lib.itoa r.dest).length := by omega
  have q2 : ¬9223372036854775807 < 5 + 1 + (Lib.itoa r.dest).length := by omega
  clear l7
  go_region_held3 (fun w' => Below W0.heap.size W0 w' ∧ w'.cell? ⟨w.heap.size, 0, none⟩ = some (.int .i64 4) ∧ w'.cell? ⟨w.heap.size, 7, none⟩ = some (.int .i64 r.dest) ∧ w'.cell? ⟨0, 4, none⟩ = some (.string ⟨#[116, 119, 105, 99, 101]⟩)) (first | exact ⟨hb00, c0, c7, d1⟩ | assumption | go_keep)
    (first | (go_at_call 18; refine (Tryd.Itoa _ ?_ ?_ _ ?_).mono ?_; (first | exact hf.dest.1); (first | exact hf.dest.2); (exact hpow _ (by first | exact Below.refl _ _ | assumption | exact hb00 | exact And.left (by assumption))); rintro e w'' ⟨rfl, hb⟩; have q := hnext _ _ (by first | exact Below.refl _ _ | assumption | exact hb00 | exact And.left (by assumption)) hb))
  all_goals
    rename_i hb q hheld
    have hfin := hheld.1
    clear hheld q hb
    go_wp2
    go_ret2
    refine ⟨?_, below_next hB0 hfin⟩
    rw [hspec.out]
    simp [mkB, ByteArray.mk_append_mk, spN]
set_option maxHeartbeats 8000000 in
set_option maxRecDepth 1000000 in
theorem Tryd.sline_5 (r : StepR) (v : Value) (w : World) (hS : SVars w) (h : StepIn w r v) (hf : Fits64 r) (hk : r.kind = 5) :
    Calls Tryd.prog 19 #[v] w fun e w' => e = .returned (.tuple #[.string (mkB ((lineS r).getD [])), .bool (lineS r).isSome]) ∧ Below w.heap.size w w' := by
  have hspec : lineS r = some ([115, 112, 111, 105, 108] ++ spN r.dest) := by
    unfold lineS
    rw [hk]
    rfl
  replace hspec := Keep.mk hspec
  obtain ⟨a, c, rfl, own⟩ := h
  clear own
  simp only [StepR.cells]
  go_enter Tryd.func19, Tryd.ntmps19
  go_upto_region 12 with fail
  have hB0 : Below w.heap.size w (w.alloc (.cells #[.int .i64 5, .int .i64 r.node, .int .i64 r.sess, .int .i64 r.req, .int .i64 r.ckind, .string r.key, .string r.val, .int .i64 r.dest, .int .i64 r.n, .slice a r.keep.length c, .int .i64 r.tear] 27 (0, 0))) := by go_grown
  have hA : (w.alloc (.cells #[.int .i64 5, .int .i64 r.node, .int .i64 r.sess, .int .i64 r.req, .int .i64 r.ckind, .string r.key, .string r.val, .int .i64 r.dest, .int .i64 r.n, .slice a r.keep.length c, .int .i64 r.tear] 27 (0, 0))).heap[w.heap.size]? = some (.cells #[.int .i64 5, .int .i64 r.node, .int .i64 r.sess, .int .i64 r.req, .int .i64 r.ckind, .string r.key, .string r.val, .int .i64 r.dest, .int .i64 r.n, .slice a r.keep.length c, .int .i64 r.tear] 27 (0, 0)) := heap_alloc_new w _
  generalize (w.alloc (.cells #[.int .i64 5, .int .i64 r.node, .int .i64 r.sess, .int .i64 r.req, .int .i64 r.ckind, .string r.key, .string r.val, .int .i64 r.dest, .int .i64 r.n, .slice a r.keep.length c, .int .i64 r.tear] 27 (0, 0))) = W0 at *
  have S0 := hS.below hB0
  have hpow : ∀ w', Below W0.heap.size W0 w' → Lib.TabIs Tryd.prog w' "internal/strconv.uint64pow10" .u64 Lib.pow10Tab := fun w' hb => (S0.below hb).pow
  have c0 : W0.cell? ⟨w.heap.size, 0, none⟩ = some (.int .i64 5) := by rw [Lib.cell_of_heap hA]; rfl
  have c7 : W0.cell? ⟨w.heap.size, 7, none⟩ = some (.int .i64 r.dest) := by rw [Lib.cell_of_heap hA]; rfl
  have d1 : W0.cell? ⟨0, 5, none⟩ = some (.string ⟨#[115, 112, 111, 105, 108]⟩) := steps_cell S0 5 (by decide)
  have hlt := lt_of_cell c0
  have hlt2 := lt_of_cell d1
  have hb00 : Below W0.heap.size W0 W0.drew := (Below.refl _ _).drew
  clear hA hS S0
  have l7 := itoa_length r.dest hf.dest.1 hf.dest.2
  have hnext : ∀ w' w'', Below W0.heap.size W0 w' → Below w'.heap.size w' w'' → (Below W0.heap.size W0 w'' ∧ w''.cell? ⟨w.heap.size, 0, none⟩ = some (.int .i64 5) ∧ w''.cell? ⟨w.heap.size, 7, none⟩ = some (.int .i64 r.dest) ∧ w''.cell? ⟨0, 5, none⟩ = some (.string ⟨#[115, 112, 111, 105, 108]⟩)) := fun w' w'' h1 h2 => by
    have hb := below_next h1 h2
    exact ⟨hb, by rw [hb.cell (p := ⟨w.heap.size, 0, none⟩) hlt]; exact c0, by rw [hb.cell (p := ⟨w.heap.size, 7, none⟩) hlt]; exact c7, by rw [hb.cell (p := ⟨0, 5, none⟩) hlt2]; exact d1⟩
  have q1 : ¬9223372036854775807 < 6 + (Lib.itoa r.dest).length := by omega
  have q2 : ¬9223372036854775807 < 5 + 1 + (Lib.itoa r.dest).length := by omega
  clear l7
  go_region_held3 (fun w' => Below W0.heap.size W0 w' ∧ w'.cell? ⟨w.heap.size, 0, none⟩ = some (.int .i64 5) ∧ w'.cell? ⟨w.heap.size, 7, none⟩ = some (.int .i64 r.dest) ∧ w'.cell? ⟨0, 5, none⟩ = some (.string ⟨#[115, 112, 111, 105, 108]⟩)) (first | exact ⟨hb00, c0, c7, d1⟩ | assumption | go_keep)
    (first | (go_at_call 18; refine (Tryd.Itoa _ ?_ ?_ _ ?_).mono ?_; (first | exact hf.dest.1); (first | exact hf.dest.2); (exact hpow _ (by first | exact Below.refl _ _ | assumption | exact hb00 | exact And.left (by assumption))); rintro e w'' ⟨rfl, hb⟩; have q := hnext _ _ (by first | exact Below.refl _ _ | assumption | exact hb00 | exact And.left (by assumption)) hb))
  all_goals
    rename_i hb q hheld
    have hfin := hheld.1
    clear hheld q hb
    go_wp2
    go_ret2
    refine ⟨?_, below_next hB0 hfin⟩
    rw [hspec.out]
    simp [mkB, ByteArray.mk_append_mk, spN]
set_option maxHeartbeats 8000000 in
set_option maxRecDepth 1000000 in
theorem Tryd.sline_6 (r : StepR) (v : Value) (w : World) (hS : SVars w) (h : StepIn w r v) (hf : Fits64 r) (hk : r.kind = 6) :
    Calls Tryd.prog 19 #[v] w fun e w' => e = .returned (.tuple #[.string (mkB ((lineS r).getD [])), .bool (lineS r).isSome]) ∧ Below w.heap.size w w' := by
  have hspec : lineS r = some ([116, 105, 99, 107] ++ spN r.node) := by
    unfold lineS
    rw [hk]
    rfl
  replace hspec := Keep.mk hspec
  obtain ⟨a, c, rfl, own⟩ := h
  clear own
  simp only [StepR.cells]
  go_enter Tryd.func19, Tryd.ntmps19
  go_upto_region 15 with fail
  have hB0 : Below w.heap.size w (w.alloc (.cells #[.int .i64 6, .int .i64 r.node, .int .i64 r.sess, .int .i64 r.req, .int .i64 r.ckind, .string r.key, .string r.val, .int .i64 r.dest, .int .i64 r.n, .slice a r.keep.length c, .int .i64 r.tear] 27 (0, 0))) := by go_grown
  have hA : (w.alloc (.cells #[.int .i64 6, .int .i64 r.node, .int .i64 r.sess, .int .i64 r.req, .int .i64 r.ckind, .string r.key, .string r.val, .int .i64 r.dest, .int .i64 r.n, .slice a r.keep.length c, .int .i64 r.tear] 27 (0, 0))).heap[w.heap.size]? = some (.cells #[.int .i64 6, .int .i64 r.node, .int .i64 r.sess, .int .i64 r.req, .int .i64 r.ckind, .string r.key, .string r.val, .int .i64 r.dest, .int .i64 r.n, .slice a r.keep.length c, .int .i64 r.tear] 27 (0, 0)) := heap_alloc_new w _
  generalize (w.alloc (.cells #[.int .i64 6, .int .i64 r.node, .int .i64 r.sess, .int .i64 r.req, .int .i64 r.ckind, .string r.key, .string r.val, .int .i64 r.dest, .int .i64 r.n, .slice a r.keep.length c, .int .i64 r.tear] 27 (0, 0))) = W0 at *
  have S0 := hS.below hB0
  have hpow : ∀ w', Below W0.heap.size W0 w' → Lib.TabIs Tryd.prog w' "internal/strconv.uint64pow10" .u64 Lib.pow10Tab := fun w' hb => (S0.below hb).pow
  have c0 : W0.cell? ⟨w.heap.size, 0, none⟩ = some (.int .i64 6) := by rw [Lib.cell_of_heap hA]; rfl
  have c1 : W0.cell? ⟨w.heap.size, 1, none⟩ = some (.int .i64 r.node) := by rw [Lib.cell_of_heap hA]; rfl
  have d1 : W0.cell? ⟨0, 6, none⟩ = some (.string ⟨#[116, 105, 99, 107]⟩) := steps_cell S0 6 (by decide)
  have hlt := lt_of_cell c0
  have hlt2 := lt_of_cell d1
  have hb00 : Below W0.heap.size W0 W0.drew := (Below.refl _ _).drew
  clear hA hS S0
  have l1 := itoa_length r.node hf.node.1 hf.node.2
  have hnext : ∀ w' w'', Below W0.heap.size W0 w' → Below w'.heap.size w' w'' → (Below W0.heap.size W0 w'' ∧ w''.cell? ⟨w.heap.size, 0, none⟩ = some (.int .i64 6) ∧ w''.cell? ⟨w.heap.size, 1, none⟩ = some (.int .i64 r.node) ∧ w''.cell? ⟨0, 6, none⟩ = some (.string ⟨#[116, 105, 99, 107]⟩)) := fun w' w'' h1 h2 => by
    have hb := below_next h1 h2
    exact ⟨hb, by rw [hb.cell (p := ⟨w.heap.size, 0, none⟩) hlt]; exact c0, by rw [hb.cell (p := ⟨w.heap.size, 1, none⟩) hlt]; exact c1, by rw [hb.cell (p := ⟨0, 6, none⟩) hlt2]; exact d1⟩
  have q1 : ¬9223372036854775807 < 5 + (Lib.itoa r.node).length := by omega
  have q2 : ¬9223372036854775807 < 4 + 1 + (Lib.itoa r.node).length := by omega
  clear l1
  go_region_held3 (fun w' => Below W0.heap.size W0 w' ∧ w'.cell? ⟨w.heap.size, 0, none⟩ = some (.int .i64 6) ∧ w'.cell? ⟨w.heap.size, 1, none⟩ = some (.int .i64 r.node) ∧ w'.cell? ⟨0, 6, none⟩ = some (.string ⟨#[116, 105, 99, 107]⟩)) (first | exact ⟨hb00, c0, c1, d1⟩ | assumption | go_keep)
    (first | (go_at_call 18; refine (Tryd.Itoa _ ?_ ?_ _ ?_).mono ?_; (first | exact hf.node.1); (first | exact hf.node.2); (exact hpow _ (by first | exact Below.refl _ _ | assumption | exact hb00 | exact And.left (by assumption))); rintro e w'' ⟨rfl, hb⟩; have q := hnext _ _ (by first | exact Below.refl _ _ | assumption | exact hb00 | exact And.left (by assumption)) hb))
  all_goals
    rename_i hb q hheld
    have hfin := hheld.1
    clear hheld q hb
    go_wp2
    go_ret2
    refine ⟨?_, below_next hB0 hfin⟩
    rw [hspec.out]
    simp [mkB, ByteArray.mk_append_mk, spN]
set_option maxHeartbeats 8000000 in
set_option maxRecDepth 1000000 in
theorem Tryd.sline_7 (r : StepR) (v : Value) (w : World) (hS : SVars w) (h : StepIn w r v) (hf : Fits64 r) (hk : r.kind = 7) :
    Calls Tryd.prog 19 #[v] w fun e w' => e = .returned (.tuple #[.string (mkB ((lineS r).getD [])), .bool (lineS r).isSome]) ∧ Below w.heap.size w w' := by
  have hspec : lineS r = some ([102, 117, 115, 101] ++ spN r.node ++ spN r.n) := by
    unfold lineS
    rw [hk]
    rfl
  replace hspec := Keep.mk hspec
  obtain ⟨a, c, rfl, own⟩ := h
  clear own
  simp only [StepR.cells]
  go_enter Tryd.func19, Tryd.ntmps19
  go_upto_region 17 with fail
  have hB0 : Below w.heap.size w (w.alloc (.cells #[.int .i64 7, .int .i64 r.node, .int .i64 r.sess, .int .i64 r.req, .int .i64 r.ckind, .string r.key, .string r.val, .int .i64 r.dest, .int .i64 r.n, .slice a r.keep.length c, .int .i64 r.tear] 27 (0, 0))) := by go_grown
  have hA : (w.alloc (.cells #[.int .i64 7, .int .i64 r.node, .int .i64 r.sess, .int .i64 r.req, .int .i64 r.ckind, .string r.key, .string r.val, .int .i64 r.dest, .int .i64 r.n, .slice a r.keep.length c, .int .i64 r.tear] 27 (0, 0))).heap[w.heap.size]? = some (.cells #[.int .i64 7, .int .i64 r.node, .int .i64 r.sess, .int .i64 r.req, .int .i64 r.ckind, .string r.key, .string r.val, .int .i64 r.dest, .int .i64 r.n, .slice a r.keep.length c, .int .i64 r.tear] 27 (0, 0)) := heap_alloc_new w _
  generalize (w.alloc (.cells #[.int .i64 7, .int .i64 r.node, .int .i64 r.sess, .int .i64 r.req, .int .i64 r.ckind, .string r.key, .string r.val, .int .i64 r.dest, .int .i64 r.n, .slice a r.keep.length c, .int .i64 r.tear] 27 (0, 0))) = W0 at *
  have S0 := hS.below hB0
  have hpow : ∀ w', Below W0.heap.size W0 w' → Lib.TabIs Tryd.prog w' "internal/strconv.uint64pow10" .u64 Lib.pow10Tab := fun w' hb => (S0.below hb).pow
  have c0 : W0.cell? ⟨w.heap.size, 0, none⟩ = some (.int .i64 7) := by rw [Lib.cell_of_heap hA]; rfl
  have c1 : W0.cell? ⟨w.heap.size, 1, none⟩ = some (.int .i64 r.node) := by rw [Lib.cell_of_heap hA]; rfl
  have c8 : W0.cell? ⟨w.heap.size, 8, none⟩ = some (.int .i64 r.n) := by rw [Lib.cell_of_heap hA]; rfl
  have d1 : W0.cell? ⟨0, 7, none⟩ = some (.string ⟨#[102, 117, 115, 101]⟩) := steps_cell S0 7 (by decide)
  have hlt := lt_of_cell c0
  have hlt2 := lt_of_cell d1
  have hb00 : Below W0.heap.size W0 W0.drew := (Below.refl _ _).drew
  clear hA hS S0
  have l1 := itoa_length r.node hf.node.1 hf.node.2
  have l8 := itoa_length r.n hf.n.1 hf.n.2
  have hnext : ∀ w' w'', Below W0.heap.size W0 w' → Below w'.heap.size w' w'' → (Below W0.heap.size W0 w'' ∧ w''.cell? ⟨w.heap.size, 0, none⟩ = some (.int .i64 7) ∧ w''.cell? ⟨w.heap.size, 1, none⟩ = some (.int .i64 r.node) ∧ w''.cell? ⟨w.heap.size, 8, none⟩ = some (.int .i64 r.n) ∧ w''.cell? ⟨0, 7, none⟩ = some (.string ⟨#[102, 117, 115, 101]⟩)) := fun w' w'' h1 h2 => by
    have hb := below_next h1 h2
    exact ⟨hb, by rw [hb.cell (p := ⟨w.heap.size, 0, none⟩) hlt]; exact c0, by rw [hb.cell (p := ⟨w.heap.size, 1, none⟩) hlt]; exact c1, by rw [hb.cell (p := ⟨w.heap.size, 8, none⟩) hlt]; exact c8, by rw [hb.cell (p := ⟨0, 7, none⟩) hlt2]; exact d1⟩
  have q1 : ¬9223372036854775807 < 5 + (Lib.itoa r.node).length := by omega
  have q2 : ¬9223372036854775807 < 5 + (Lib.itoa r.node).length + 1 := by omega
  have q3 : ¬9223372036854775807 < 5 + (Lib.itoa r.node).length + 1 + (Lib.itoa r.n).length := by omega
  clear l1 l8
  go_region_held3 (fun w' => Below W0.heap.size W0 w' ∧ w'.cell? ⟨w.heap.size, 0, none⟩ = some (.int .i64 7) ∧ w'.cell? ⟨w.heap.size, 1, none⟩ = some (.int .i64 r.node) ∧ w'.cell? ⟨w.heap.size, 8, none⟩ = some (.int .i64 r.n) ∧ w'.cell? ⟨0, 7, none⟩ = some (.string ⟨#[102, 117, 115, 101]⟩)) (first | exact ⟨hb00, c0, c1, c8, d1⟩ | assumption | go_keep)
    (first | (go_at_call 18; refine (Tryd.Itoa _ ?_ ?_ _ ?_).mono ?_; (first | exact hf.node.1 | exact hf.n.1); (first | exact hf.node.2 | exact hf.n.2); (exact hpow _ (by first | exact Below.refl _ _ | assumption | exact hb00 | exact And.left (by assumption))); rintro e w'' ⟨rfl, hb⟩; have q := hnext _ _ (by first | exact Below.refl _ _ | assumption | exact hb00 | exact And.left (by assumption)) hb))
  all_goals
    rename_i hb q hheld
    have hfin := hheld.1
    clear hheld q hb
    go_wp2
    go_ret2
    refine ⟨?_, below_next hB0 hfin⟩
    rw [hspec.out]
    simp [mkB, ByteArray.mk_append_mk, spN]
set_option maxHeartbeats 8000000 in
set_option maxRecDepth 1000000 in
theorem Tryd.sline_8 (r : StepR) (v : Value) (w : World) (hS : SVars w) (h : StepIn w r v) (hf : Fits64 r) (hk : r.kind = 8) :
    Calls Tryd.prog 19 #[v] w fun e w' => e = .returned (.tuple #[.string (mkB ((lineS r).getD [])), .bool (lineS r).isSome]) ∧ Below w.heap.size w w' := by
  have hspec : lineS r = some ([111, 102, 102] ++ spN r.node) := by
    unfold lineS
    rw [hk]
    rfl
  replace hspec := Keep.mk hspec
  obtain ⟨a, c, rfl, own⟩ := h
  clear own
  simp only [StepR.cells]
  go_enter Tryd.func19, Tryd.ntmps19
  go_upto_region 15 with fail
  have hB0 : Below w.heap.size w (w.alloc (.cells #[.int .i64 8, .int .i64 r.node, .int .i64 r.sess, .int .i64 r.req, .int .i64 r.ckind, .string r.key, .string r.val, .int .i64 r.dest, .int .i64 r.n, .slice a r.keep.length c, .int .i64 r.tear] 27 (0, 0))) := by go_grown
  have hA : (w.alloc (.cells #[.int .i64 8, .int .i64 r.node, .int .i64 r.sess, .int .i64 r.req, .int .i64 r.ckind, .string r.key, .string r.val, .int .i64 r.dest, .int .i64 r.n, .slice a r.keep.length c, .int .i64 r.tear] 27 (0, 0))).heap[w.heap.size]? = some (.cells #[.int .i64 8, .int .i64 r.node, .int .i64 r.sess, .int .i64 r.req, .int .i64 r.ckind, .string r.key, .string r.val, .int .i64 r.dest, .int .i64 r.n, .slice a r.keep.length c, .int .i64 r.tear] 27 (0, 0)) := heap_alloc_new w _
  generalize (w.alloc (.cells #[.int .i64 8, .int .i64 r.node, .int .i64 r.sess, .int .i64 r.req, .int .i64 r.ckind, .string r.key, .string r.val, .int .i64 r.dest, .int .i64 r.n, .slice a r.keep.length c, .int .i64 r.tear] 27 (0, 0))) = W0 at *
  have S0 := hS.below hB0
  have hpow : ∀ w', Below W0.heap.size W0 w' → Lib.TabIs Tryd.prog w' "internal/strconv.uint64pow10" .u64 Lib.pow10Tab := fun w' hb => (S0.below hb).pow
  have c0 : W0.cell? ⟨w.heap.size, 0, none⟩ = some (.int .i64 8) := by rw [Lib.cell_of_heap hA]; rfl
  have c1 : W0.cell? ⟨w.heap.size, 1, none⟩ = some (.int .i64 r.node) := by rw [Lib.cell_of_heap hA]; rfl
  have d1 : W0.cell? ⟨0, 8, none⟩ = some (.string ⟨#[111, 102, 102]⟩) := steps_cell S0 8 (by decide)
  have hlt := lt_of_cell c0
  have hlt2 := lt_of_cell d1
  have hb00 : Below W0.heap.size W0 W0.drew := (Below.refl _ _).drew
  clear hA hS S0
  have l1 := itoa_length r.node hf.node.1 hf.node.2
  have hnext : ∀ w' w'', Below W0.heap.size W0 w' → Below w'.heap.size w' w'' → (Below W0.heap.size W0 w'' ∧ w''.cell? ⟨w.heap.size, 0, none⟩ = some (.int .i64 8) ∧ w''.cell? ⟨w.heap.size, 1, none⟩ = some (.int .i64 r.node) ∧ w''.cell? ⟨0, 8, none⟩ = some (.string ⟨#[111, 102, 102]⟩)) := fun w' w'' h1 h2 => by
    have hb := below_next h1 h2
    exact ⟨hb, by rw [hb.cell (p := ⟨w.heap.size, 0, none⟩) hlt]; exact c0, by rw [hb.cell (p := ⟨w.heap.size, 1, none⟩) hlt]; exact c1, by rw [hb.cell (p := ⟨0, 8, none⟩) hlt2]; exact d1⟩
  have q1 : ¬9223372036854775807 < 4 + (Lib.itoa r.node).length := by omega
  have q2 : ¬9223372036854775807 < 3 + 1 + (Lib.itoa r.node).length := by omega
  clear l1
  go_region_held3 (fun w' => Below W0.heap.size W0 w' ∧ w'.cell? ⟨w.heap.size, 0, none⟩ = some (.int .i64 8) ∧ w'.cell? ⟨w.heap.size, 1, none⟩ = some (.int .i64 r.node) ∧ w'.cell? ⟨0, 8, none⟩ = some (.string ⟨#[111, 102, 102]⟩)) (first | exact ⟨hb00, c0, c1, d1⟩ | assumption | go_keep)
    (first | (go_at_call 18; refine (Tryd.Itoa _ ?_ ?_ _ ?_).mono ?_; (first | exact hf.node.1); (first | exact hf.node.2); (exact hpow _ (by first | exact Below.refl _ _ | assumption | exact hb00 | exact And.left (by assumption))); rintro e w'' ⟨rfl, hb⟩; have q := hnext _ _ (by first | exact Below.refl _ _ | assumption | exact hb00 | exact And.left (by assumption)) hb))
  all_goals
    rename_i hb q hheld
    have hfin := hheld.1
    clear hheld q hb
    go_wp2
    go_ret2
    refine ⟨?_, below_next hB0 hfin⟩
    rw [hspec.out]
    simp [mkB, ByteArray.mk_append_mk, spN]
end Go.Proofs.YtcdpepaffpboeaaDoor
