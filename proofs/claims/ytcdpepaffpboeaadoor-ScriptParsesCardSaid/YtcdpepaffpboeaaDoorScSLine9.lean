/- script.Line, walked: on: printed by gen_sline.py. -/
import Derived.Test.YtcdpepaffpboeaaDoorScJoin
namespace Go.Proofs.YtcdpepaffpboeaaDoor
open Go.RowKit Go.Shelf
open Go.Proofs
set_option maxHeartbeats 16000000 in
set_option maxRecDepth 1000000 in
theorem Tryd.sline_9 (r : StepR) (v : Value) (w : World) (hS : SVars w) (h : StepIn w r v) (hf : Fits64 r) (hk : r.kind = 9) (hs : r.keep.length ≤ 2000) :
    Calls Tryd.prog 19 #[v] w fun e w' => e = .returned (.tuple #[.string (mkB ((lineS r).getD [])), .bool (lineS r).isSome]) ∧ Below w.heap.size w w' := by
  have hspec : lineS r = some (joinL 32 [[111, 110], Lib.itoa r.node, Lib.itoa r.n, Lib.itoa r.tear, bitD r.keep]) := by
    unfold lineS
    rw [hk]
    simp [joinL, spN]
  replace hspec := Keep.mk hspec
  obtain ⟨a, c, rfl, own⟩ := h
  simp only [StepR.cells]
  replace own := Keep.mk own
  go_enter Tryd.func19, Tryd.ntmps19
  go_upto_region 19 with fail
  have hB0 : Below w.heap.size w (w.alloc (.cells #[.int .i64 9, .int .i64 r.node, .int .i64 r.sess, .int .i64 r.req, .int .i64 r.ckind, .string r.key, .string r.val, .int .i64 r.dest, .int .i64 r.n, .slice a r.keep.length c, .int .i64 r.tear] 27 (0, 0))) := by go_grown
  have hA : (w.alloc (.cells #[.int .i64 9, .int .i64 r.node, .int .i64 r.sess, .int .i64 r.req, .int .i64 r.ckind, .string r.key, .string r.val, .int .i64 r.dest, .int .i64 r.n, .slice a r.keep.length c, .int .i64 r.tear] 27 (0, 0))).heap[w.heap.size]? = some (.cells #[.int .i64 9, .int .i64 r.node, .int .i64 r.sess, .int .i64 r.req, .int .i64 r.ckind, .string r.key, .string r.val, .int .i64 r.dest, .int .i64 r.n, .slice a r.keep.length c, .int .i64 r.tear] 27 (0, 0)) := heap_alloc_new w _
  generalize (w.alloc (.cells #[.int .i64 9, .int .i64 r.node, .int .i64 r.sess, .int .i64 r.req, .int .i64 r.ckind, .string r.key, .string r.val, .int .i64 r.dest, .int .i64 r.n, .slice a r.keep.length c, .int .i64 r.tear] 27 (0, 0))) = W0 at *
  have S0 := hS.below hB0
  have hpow : ∀ w', Below W0.heap.size W0 w' → Lib.TabIs Tryd.prog w' "internal/strconv.uint64pow10" .u64 Lib.pow10Tab := fun w' hb => (S0.below hb).pow
  have hown : ∀ w', Below W0.heap.size W0 w' → BoolsIn w' a r.keep := fun w' hb => (own.out.below hB0).below hb
  have c0 : W0.cell? ⟨w.heap.size, 0, none⟩ = some (.int .i64 9) := by rw [Lib.cell_of_heap hA]; rfl
  have c1 : W0.cell? ⟨w.heap.size, 1, none⟩ = some (.int .i64 r.node) := by rw [Lib.cell_of_heap hA]; rfl
  have c8 : W0.cell? ⟨w.heap.size, 8, none⟩ = some (.int .i64 r.n) := by rw [Lib.cell_of_heap hA]; rfl
  have c10 : W0.cell? ⟨w.heap.size, 10, none⟩ = some (.int .i64 r.tear) := by rw [Lib.cell_of_heap hA]; rfl
  have c9 : W0.cell? ⟨w.heap.size, 9, none⟩ = some (.slice a r.keep.length c) := by rw [Lib.cell_of_heap hA]; rfl
  have hlt := lt_of_cell c0
  have hb00 : Below W0.heap.size W0 W0.drew := (Below.refl _ _).drew
  clear hA hS S0
  have l1 := itoa_length r.node hf.node.1 hf.node.2
  have l8 := itoa_length r.n hf.n.1 hf.n.2
  have l10 := itoa_length r.tear hf.tear.1 hf.tear.2
  have hnext : ∀ w' w'', Below W0.heap.size W0 w' → Below w'.heap.size w' w'' → (Below W0.heap.size W0 w'' ∧ w''.cell? ⟨w.heap.size, 0, none⟩ = some (.int .i64 9) ∧ w''.cell? ⟨w.heap.size, 1, none⟩ = some (.int .i64 r.node) ∧ w''.cell? ⟨w.heap.size, 8, none⟩ = some (.int .i64 r.n) ∧ w''.cell? ⟨w.heap.size, 10, none⟩ = some (.int .i64 r.tear) ∧ w''.cell? ⟨w.heap.size, 9, none⟩ = some (.slice a r.keep.length c)) := fun w' w'' h1 h2 => by
    have hb := below_next h1 h2
    exact ⟨hb, by rw [hb.cell (p := ⟨w.heap.size, 0, none⟩) hlt]; exact c0, by rw [hb.cell (p := ⟨w.heap.size, 1, none⟩) hlt]; exact c1, by rw [hb.cell (p := ⟨w.heap.size, 8, none⟩) hlt]; exact c8, by rw [hb.cell (p := ⟨w.heap.size, 10, none⟩) hlt]; exact c10, by rw [hb.cell (p := ⟨w.heap.size, 9, none⟩) hlt]; exact c9⟩
  have halloc : ∀ w' o, (Below W0.heap.size W0 w' ∧ w'.cell? ⟨w.heap.size, 0, none⟩ = some (.int .i64 9) ∧ w'.cell? ⟨w.heap.size, 1, none⟩ = some (.int .i64 r.node) ∧ w'.cell? ⟨w.heap.size, 8, none⟩ = some (.int .i64 r.n) ∧ w'.cell? ⟨w.heap.size, 10, none⟩ = some (.int .i64 r.tear) ∧ w'.cell? ⟨w.heap.size, 9, none⟩ = some (.slice a r.keep.length c)) → (Below W0.heap.size W0 (w'.alloc o) ∧ (w'.alloc o).cell? ⟨w.heap.size, 0, none⟩ = some (.int .i64 9) ∧ (w'.alloc o).cell? ⟨w.heap.size, 1, none⟩ = some (.int .i64 r.node) ∧ (w'.alloc o).cell? ⟨w.heap.size, 8, none⟩ = some (.int .i64 r.n) ∧ (w'.alloc o).cell? ⟨w.heap.size, 10, none⟩ = some (.int .i64 r.tear) ∧ (w'.alloc o).cell? ⟨w.heap.size, 9, none⟩ = some (.slice a r.keep.length c)) := fun w' o h => hnext w' _ h.1 ((Below.refl _ w').alloc (Nat.le_refl _) _)
  have hbd : (bitD r.keep).length ≤ 2000 := by
    unfold bitD
    split
    · decide
    · rw [bitL, List.length_map]; exact hs
  have hjl : (joinL 32 [[111, 110], Lib.itoa r.node, Lib.itoa r.n, Lib.itoa r.tear, bitD r.keep]).length ≤ 100000 := by
    simp [joinL]
    omega
  replace hjl := Keep.mk hjl
  clear l1 l8 l10 hbd
  go_region_held3 (fun w' => Below W0.heap.size W0 w' ∧ w'.cell? ⟨w.heap.size, 0, none⟩ = some (.int .i64 9) ∧ w'.cell? ⟨w.heap.size, 1, none⟩ = some (.int .i64 r.node) ∧ w'.cell? ⟨w.heap.size, 8, none⟩ = some (.int .i64 r.n) ∧ w'.cell? ⟨w.heap.size, 10, none⟩ = some (.int .i64 r.tear) ∧ w'.cell? ⟨w.heap.size, 9, none⟩ = some (.slice a r.keep.length c)) (first | exact ⟨hb00, c0, c1, c8, c10, c9⟩ | assumption | exact halloc _ _ (by assumption) | go_keep)
    (first | (go_at_call 18; refine (Tryd.Itoa _ ?_ ?_ _ ?_).mono ?_; (first | exact hf.node.1 | exact hf.n.1 | exact hf.tear.1); (first | exact hf.node.2 | exact hf.n.2 | exact hf.tear.2); (exact hpow _ (by first | exact Below.refl _ _ | assumption | exact hb00 | exact And.left (by assumption))); rintro e w'' ⟨rfl, hb⟩; have q := hnext _ _ (by first | exact Below.refl _ _ | assumption | exact hb00 | exact And.left (by assumption)) hb)
           | (go_at_call 31; refine (Tryd.bits_walk _ _ _ _ hs (hown _ (by first | exact Below.refl _ _ | assumption | exact hb00 | exact And.left (by assumption)))).mono ?_; rintro e w'' ⟨rfl, hb⟩; have q := hnext _ _ (by first | exact Below.refl _ _ | assumption | exact hb00 | exact And.left (by assumption)) hb)
           | (go_at_call 30; refine (Tryd.Join5 [111, 110] _ _ _ _ _ _ _ ?_ ?_ hjl.out).mono ?_; (exact heap_alloc_new _ _); (exact Nat.le_refl _); rintro e w'' ⟨rfl, hb⟩; have q := hnext _ _ (by first | exact Below.refl _ _ | assumption | exact hb00 | exact And.left (by assumption)) hb))
  all_goals
    rename_i hb q hheld
    have hfin := hheld.1
    clear hheld q hb
    go_wp2
    go_ret2
    refine ⟨?_, below_next hB0 hfin⟩
    rw [hspec.out]
    rfl
end Go.Proofs.YtcdpepaffpboeaaDoor
