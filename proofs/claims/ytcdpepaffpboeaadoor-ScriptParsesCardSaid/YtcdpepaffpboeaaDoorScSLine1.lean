/- script.Line, walked: calls: printed by gen_sline.py. -/
import Derived.Test.YtcdpepaffpboeaaDoorScJoin
namespace Go.Proofs.YtcdpepaffpboeaaDoor
open Go.RowKit Go.Shelf
open Go.Proofs
theorem Tryd.HexT_walk (s : ByteArray) (w : World) (hs : s.size ≤ 2000) :
    Calls Tryd.prog 14 #[.string s] w fun e w' => e = .returned (.string ⟨(hexT s).toArray⟩) ∧ Below w.heap.size w w' :=
  Tryd.Hex_walk s w (by omega)
set_option maxHeartbeats 16000000 in
set_option maxRecDepth 1000000 in
theorem Tryd.sline_1 (r : StepR) (v : Value) (w : World) (hS : SVars w) (h : StepIn w r v) (hf : Fits64 r) (hk : r.kind = 1) (ck : Nat) (hck : r.ckind = (ck : Int)) (hc1 : 1 ≤ ck) (hc6 : ck ≤ 6) (hs1 : r.key.size ≤ 2000) (hs2 : r.val.size ≤ 2000) :
    Calls Tryd.prog 19 #[v] w fun e w' => e = .returned (.tuple #[.string (mkB ((lineS r).getD [])), .bool (lineS r).isSome]) ∧ Below w.heap.size w w' := by
  have hspec : lineS r = some (joinL 32 [[99, 97, 108, 108], Lib.itoa r.node, Lib.itoa r.sess, Lib.itoa r.req, callW.getD ck [], hexT r.key, hexT r.val]) := by
    unfold lineS
    rw [hk, hck]
    show (if _ then _ else _) = _
    rw [if_pos (by omega)]
    simp [joinL, spN]
  have hcl : (callW.getD ck []).length ≤ 6 := by
    rcases (by omega : ck = 1 ∨ ck = 2 ∨ ck = 3 ∨ ck = 4 ∨ ck = 5 ∨ ck = 6) with rfl | rfl | rfl | rfl | rfl | rfl <;> decide
  have hcell : ∀ w', SVars w' → w'.cell? ⟨1, ck, none⟩ = some (.string ⟨(callW.getD ck []).toArray⟩) := fun w' hS' => by
    have := calls_cell hS' ck (by show ck < 7; omega)
    rw [this]
    rcases (by omega : ck = 1 ∨ ck = 2 ∨ ck = 3 ∨ ck = 4 ∨ ck = 5 ∨ ck = 6) with rfl | rfl | rfl | rfl | rfl | rfl <;> rfl
  generalize callW.getD ck [] = CWD at hspec hcl hcell
  have e1 : ¬((ck : Int) < 1) := by omega
  have e6 : ¬((6 : Int) < (ck : Int)) := by omega
  have e7 : (ck : Int) < 7 := by omega
  have e8 : ck < 7 := by omega
  replace hspec := Keep.mk hspec
  obtain ⟨a, c, rfl, own⟩ := h
  clear own
  simp only [StepR.cells, hck]
  go_enter Tryd.func19, Tryd.ntmps19
  go_upto_region 7 with fail
  have hB0 : Below w.heap.size w ((w.alloc (.cells #[.int .i64 1, .int .i64 r.node, .int .i64 r.sess, .int .i64 r.req, .int .i64 (ck : Int), .string r.key, .string r.val, .int .i64 r.dest, .int .i64 r.n, .slice a r.keep.length c, .int .i64 r.tear] 27 (0, 0))).alloc (.cells #[.int .i64 r.sess, .int .i64 r.req, .int .i64 (ck : Int), .string r.key, .string r.val] 24 (0, 0))) := by go_grown
  have hA : ((w.alloc (.cells #[.int .i64 1, .int .i64 r.node, .int .i64 r.sess, .int .i64 r.req, .int .i64 (ck : Int), .string r.key, .string r.val, .int .i64 r.dest, .int .i64 r.n, .slice a r.keep.length c, .int .i64 r.tear] 27 (0, 0))).alloc (.cells #[.int .i64 r.sess, .int .i64 r.req, .int .i64 (ck : Int), .string r.key, .string r.val] 24 (0, 0))).heap[w.heap.size]? = some (.cells #[.int .i64 1, .int .i64 r.node, .int .i64 r.sess, .int .i64 r.req, .int .i64 (ck : Int), .string r.key, .string r.val, .int .i64 r.dest, .int .i64 r.n, .slice a r.keep.length c, .int .i64 r.tear] 27 (0, 0)) := by
    rw [Below.heap_alloc _ _ _ (by simp)]
    exact heap_alloc_new w _
  have hD : ((w.alloc (.cells #[.int .i64 1, .int .i64 r.node, .int .i64 r.sess, .int .i64 r.req, .int .i64 (ck : Int), .string r.key, .string r.val, .int .i64 r.dest, .int .i64 r.n, .slice a r.keep.length c, .int .i64 r.tear] 27 (0, 0))).alloc (.cells #[.int .i64 r.sess, .int .i64 r.req, .int .i64 (ck : Int), .string r.key, .string r.val] 24 (0, 0))).heap[w.heap.size + 1]? = some (.cells #[.int .i64 r.sess, .int .i64 r.req, .int .i64 (ck : Int), .string r.key, .string r.val] 24 (0, 0)) := heap_alloc2_new w _ _
  generalize ((w.alloc (.cells #[.int .i64 1, .int .i64 r.node, .int .i64 r.sess, .int .i64 r.req, .int .i64 (ck : Int), .string r.key, .string r.val, .int .i64 r.dest, .int .i64 r.n, .slice a r.keep.length c, .int .i64 r.tear] 27 (0, 0))).alloc (.cells #[.int .i64 r.sess, .int .i64 r.req, .int .i64 (ck : Int), .string r.key, .string r.val] 24 (0, 0))) = W0 at *
  have S0 := hS.below hB0
  have hpow : ∀ w', Below W0.heap.size W0 w' → Lib.TabIs Tryd.prog w' "internal/strconv.uint64pow10" .u64 Lib.pow10Tab := fun w' hb => (S0.below hb).pow
  have c1 : W0.cell? ⟨w.heap.size, 1, none⟩ = some (.int .i64 r.node) := by rw [Lib.cell_of_heap hA]; rfl
  have d0 : W0.cell? ⟨w.heap.size + 1, 0, none⟩ = some (.int .i64 r.sess) := by rw [Lib.cell_of_heap hD]; rfl
  have d1 : W0.cell? ⟨w.heap.size + 1, 1, none⟩ = some (.int .i64 r.req) := by rw [Lib.cell_of_heap hD]; rfl
  have d2 : W0.cell? ⟨w.heap.size + 1, 2, none⟩ = some (.int .i64 (ck : Int)) := by rw [Lib.cell_of_heap hD]; rfl
  have d3 : W0.cell? ⟨w.heap.size + 1, 3, none⟩ = some (.string r.key) := by rw [Lib.cell_of_heap hD]; rfl
  have d4 : W0.cell? ⟨w.heap.size + 1, 4, none⟩ = some (.string r.val) := by rw [Lib.cell_of_heap hD]; rfl
  have g1 := hcell W0 S0
  have hlt := lt_of_cell c1
  have hlt2 := lt_of_cell d0
  have hlt3 := lt_of_cell g1
  have hb00 : Below W0.heap.size W0 W0.drew := (Below.refl _ _).drew
  clear hA hD hS S0 hcell
  have l1 := itoa_length r.node hf.node.1 hf.node.2
  have l2 := itoa_length r.sess hf.sess.1 hf.sess.2
  have l3 := itoa_length r.req hf.req.1 hf.req.2
  have l5 := hexT_length r.key
  have l6 := hexT_length r.val
  have hnext : ∀ w' w'', Below W0.heap.size W0 w' → Below w'.heap.size w' w'' → (Below W0.heap.size W0 w'' ∧ w''.cell? ⟨w.heap.size, 1, none⟩ = some (.int .i64 r.node) ∧ w''.cell? ⟨w.heap.size + 1, 0, none⟩ = some (.int .i64 r.sess) ∧ w''.cell? ⟨w.heap.size + 1, 1, none⟩ = some (.int .i64 r.req) ∧ w''.cell? ⟨w.heap.size + 1, 2, none⟩ = some (.int .i64 (ck : Int)) ∧ w''.cell? ⟨w.heap.size + 1, 3, none⟩ = some (.string r.key) ∧ w''.cell? ⟨w.heap.size + 1, 4, none⟩ = some (.string r.val) ∧ w''.cell? ⟨1, ck, none⟩ = some (.string ⟨CWD.toArray⟩)) := fun w' w'' h1 h2 => by
    have hb := below_next h1 h2
    exact ⟨hb, by rw [hb.cell (p := ⟨w.heap.size, 1, none⟩) hlt]; exact c1, by rw [hb.cell (p := ⟨w.heap.size + 1, 0, none⟩) hlt2]; exact d0, by rw [hb.cell (p := ⟨w.heap.size + 1, 1, none⟩) hlt2]; exact d1, by rw [hb.cell (p := ⟨w.heap.size + 1, 2, none⟩) hlt2]; exact d2, by rw [hb.cell (p := ⟨w.heap.size + 1, 3, none⟩) hlt2]; exact d3, by rw [hb.cell (p := ⟨w.heap.size + 1, 4, none⟩) hlt2]; exact d4, by rw [hb.cell (p := ⟨1, ck, none⟩) hlt3]; exact g1⟩
  have halloc : ∀ w' o, (Below W0.heap.size W0 w' ∧ w'.cell? ⟨w.heap.size, 1, none⟩ = some (.int .i64 r.node) ∧ w'.cell? ⟨w.heap.size + 1, 0, none⟩ = some (.int .i64 r.sess) ∧ w'.cell? ⟨w.heap.size + 1, 1, none⟩ = some (.int .i64 r.req) ∧ w'.cell? ⟨w.heap.size + 1, 2, none⟩ = some (.int .i64 (ck : Int)) ∧ w'.cell? ⟨w.heap.size + 1, 3, none⟩ = some (.string r.key) ∧ w'.cell? ⟨w.heap.size + 1, 4, none⟩ = some (.string r.val) ∧ w'.cell? ⟨1, ck, none⟩ = some (.string ⟨CWD.toArray⟩)) → (Below W0.heap.size W0 (w'.alloc o) ∧ (w'.alloc o).cell? ⟨w.heap.size, 1, none⟩ = some (.int .i64 r.node) ∧ (w'.alloc o).cell? ⟨w.heap.size + 1, 0, none⟩ = some (.int .i64 r.sess) ∧ (w'.alloc o).cell? ⟨w.heap.size + 1, 1, none⟩ = some (.int .i64 r.req) ∧ (w'.alloc o).cell? ⟨w.heap.size + 1, 2, none⟩ = some (.int .i64 (ck : Int)) ∧ (w'.alloc o).cell? ⟨w.heap.size + 1, 3, none⟩ = some (.string r.key) ∧ (w'.alloc o).cell? ⟨w.heap.size + 1, 4, none⟩ = some (.string r.val) ∧ (w'.alloc o).cell? ⟨1, ck, none⟩ = some (.string ⟨CWD.toArray⟩)) := fun w' o h => hnext w' _ h.1 ((Below.refl _ w').alloc (Nat.le_refl _) _)
  have hjl : (joinL 32 [[99, 97, 108, 108], Lib.itoa r.node, Lib.itoa r.sess, Lib.itoa r.req, CWD, hexT r.key, hexT r.val]).length ≤ 100000 := by
    simp [joinL]
    omega
  replace hjl := Keep.mk hjl
  clear l1 l2 l3 l5 l6
  go_region_held3 (fun w' => Below W0.heap.size W0 w' ∧ w'.cell? ⟨w.heap.size, 1, none⟩ = some (.int .i64 r.node) ∧ w'.cell? ⟨w.heap.size + 1, 0, none⟩ = some (.int .i64 r.sess) ∧ w'.cell? ⟨w.heap.size + 1, 1, none⟩ = some (.int .i64 r.req) ∧ w'.cell? ⟨w.heap.size + 1, 2, none⟩ = some (.int .i64 (ck : Int)) ∧ w'.cell? ⟨w.heap.size + 1, 3, none⟩ = some (.string r.key) ∧ w'.cell? ⟨w.heap.size + 1, 4, none⟩ = some (.string r.val) ∧ w'.cell? ⟨1, ck, none⟩ = some (.string ⟨CWD.toArray⟩)) (first | exact ⟨hb00, c1, d0, d1, d2, d3, d4, g1⟩ | assumption | exact halloc _ _ (by assumption) | go_keep)
    (first | (go_at_call 18; refine (Tryd.Itoa _ ?_ ?_ _ ?_).mono ?_; (first | exact hf.node.1 | exact hf.sess.1 | exact hf.req.1); (first | exact hf.node.2 | exact hf.sess.2 | exact hf.req.2); (exact hpow _ (by first | exact Below.refl _ _ | assumption | exact hb00 | exact And.left (by assumption))); rintro e w'' ⟨rfl, hb⟩; have q := hnext _ _ (by first | exact Below.refl _ _ | assumption | exact hb00 | exact And.left (by assumption)) hb)
           | (go_at_call 14; refine (Tryd.HexT_walk _ _ ?_).mono ?_; (first | exact hs1 | exact hs2); rintro e w'' ⟨rfl, hb⟩; have q := hnext _ _ (by first | exact Below.refl _ _ | assumption | exact hb00 | exact And.left (by assumption)) hb)
           | (go_at_call 30; refine (Tryd.Join7 [99, 97, 108, 108] _ _ _ _ _ _ _ _ _ ?_ ?_ hjl.out).mono ?_; (exact heap_alloc_new _ _); (exact Nat.le_refl _); rintro e w'' ⟨rfl, hb⟩; have q := hnext _ _ (by first | exact Below.refl _ _ | assumption | exact hb00 | exact And.left (by assumption)) hb))
  all_goals
    rename_i hb q hheld
    have hfin := hheld.1
    clear hheld q hb
    go_wp2
    go_ret2
    refine ⟨?_, below_next hB0 hfin⟩
    rw [hspec.out]
    rfl
end Go.Proofs.YtcdpepaffpboeaaDoor
