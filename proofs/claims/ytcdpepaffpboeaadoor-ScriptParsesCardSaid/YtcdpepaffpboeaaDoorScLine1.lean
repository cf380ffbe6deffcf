/- the law's line, calls: printed by gen_line.py. -/
import Derived.Test.YtcdpepaffpboeaaDoorScLine
namespace Go.Proofs.YtcdpepaffpboeaaDoor
open Go.RowKit Go.Shelf
theorem hexT_length (s : ByteArray) : (hexT s).length ≤ 2 * s.size + 1 := by
  unfold hexT hexS
  split
  · exact Nat.le_add_left 1 _
  · show (hexL s.data.toList).length ≤ _
    rw [hexL_length, size_list]
    omega
theorem Tryd.hexT_walk (s : ByteArray) (w : World) (hs : s.size ≤ 140737488355328) :
    Calls Tryd.prog 15 #[.string s] w fun e w' => e = .returned (.string ⟨(hexT s).toArray⟩) ∧ Below w.heap.size w w' :=
  Tryd.hex_walk s w (by omega)
set_option maxHeartbeats 16000000 in
set_option maxRecDepth 1000000 in
theorem Tryd.line_1 (r : StepR) (v : Value) (w : World) (hS : SVars w) (h : StepIn w r v) (hf : Fits64 r) (hk : r.kind = 1) (ck : Nat) (hck : r.ckind = (ck : Int)) (hc1 : 1 ≤ ck) (hc6 : ck ≤ 6) (hs1 : r.key.size ≤ 140737488355328) (hs2 : r.val.size ≤ 140737488355328) :
    Calls Tryd.prog 11 #[v] w fun e w' => e = .returned (.tuple #[.string (mkB ((lineS r).getD [])), .bool (lineS r).isSome]) ∧ Below w.heap.size w w' := by
  have hspec : lineS r = some ([99, 97, 108, 108] ++ spN r.node ++ spN r.sess ++ spN r.req ++ [32] ++ callW.getD ck [] ++ [32] ++ hexT r.key ++ [32] ++ hexT r.val) := by
    unfold lineS
    rw [hk, hck]
    show (if _ then _ else _) = _
    rw [if_pos (by omega)]
    rfl
  have hcl : (callW.getD ck []).length ≤ 6 := by
    rcases (by omega : ck = 1 ∨ ck = 2 ∨ ck = 3 ∨ ck = 4 ∨ ck = 5 ∨ ck = 6) with rfl | rfl | rfl | rfl | rfl | rfl <;> decide
  generalize hcwd : callW.getD ck [] = CWD at hspec hcl
  replace hcwd := Keep.mk hcwd
  have e1 : ¬((ck : Int) < 1) := by omega
  have e6 : ¬((6 : Int) < (ck : Int)) := by omega
  have e7 : (ck : Int) < 7 := by omega
  have e8 : ck < 7 := by omega
  replace hspec := Keep.mk hspec
  obtain ⟨a, c, rfl, own⟩ := h
  clear own
  simp only [StepR.cells, hck]
  go_enter Tryd.func11, Tryd.ntmps11
  go_upto_region 7 with fail
  have hB0 : Below w.heap.size w ((w.alloc (.cells #[.int .i64 1, .int .i64 r.node, .int .i64 r.sess, .int .i64 r.req, .int .i64 (ck : Int), .string r.key, .string r.val, .int .i64 r.dest, .int .i64 r.n, .slice a r.keep.length c, .int .i64 r.tear] 27 (0, 0))).alloc (.cells #[.string ⟨#[]⟩, .string ⟨#[98, 101, 103, 105, 110]⟩, .string ⟨#[103, 101, 116]⟩, .string ⟨#[112, 117, 116]⟩, .string ⟨#[100, 114, 111, 112]⟩, .string ⟨#[99, 111, 109, 109, 105, 116]⟩, .string ⟨#[97, 98, 111, 114, 116]⟩] 9 (0, 0))) := by go_grown
  have hA : ((w.alloc (.cells #[.int .i64 1, .int .i64 r.node, .int .i64 r.sess, .int .i64 r.req, .int .i64 (ck : Int), .string r.key, .string r.val, .int .i64 r.dest, .int .i64 r.n, .slice a r.keep.length c, .int .i64 r.tear] 27 (0, 0))).alloc (.cells #[.string ⟨#[]⟩, .string ⟨#[98, 101, 103, 105, 110]⟩, .string ⟨#[103, 101, 116]⟩, .string ⟨#[112, 117, 116]⟩, .string ⟨#[100, 114, 111, 112]⟩, .string ⟨#[99, 111, 109, 109, 105, 116]⟩, .string ⟨#[97, 98, 111, 114, 116]⟩] 9 (0, 0))).heap[w.heap.size]? = some (.cells #[.int .i64 1, .int .i64 r.node, .int .i64 r.sess, .int .i64 r.req, .int .i64 (ck : Int), .string r.key, .string r.val, .int .i64 r.dest, .int .i64 r.n, .slice a r.keep.length c, .int .i64 r.tear] 27 (0, 0)) := by
    rw [Below.heap_alloc _ _ _ (by simp)]
    exact heap_alloc_new w _
  have hD : ((w.alloc (.cells #[.int .i64 1, .int .i64 r.node, .int .i64 r.sess, .int .i64 r.req, .int .i64 (ck : Int), .string r.key, .string r.val, .int .i64 r.dest, .int .i64 r.n, .slice a r.keep.length c, .int .i64 r.tear] 27 (0, 0))).alloc (.cells #[.string ⟨#[]⟩, .string ⟨#[98, 101, 103, 105, 110]⟩, .string ⟨#[103, 101, 116]⟩, .string ⟨#[112, 117, 116]⟩, .string ⟨#[100, 114, 111, 112]⟩, .string ⟨#[99, 111, 109, 109, 105, 116]⟩, .string ⟨#[97, 98, 111, 114, 116]⟩] 9 (0, 0))).heap[w.heap.size + 1]? = some (.cells #[.string ⟨#[]⟩, .string ⟨#[98, 101, 103, 105, 110]⟩, .string ⟨#[103, 101, 116]⟩, .string ⟨#[112, 117, 116]⟩, .string ⟨#[100, 114, 111, 112]⟩, .string ⟨#[99, 111, 109, 109, 105, 116]⟩, .string ⟨#[97, 98, 111, 114, 116]⟩] 9 (0, 0)) := heap_alloc2_new w _ _
  generalize ((w.alloc (.cells #[.int .i64 1, .int .i64 r.node, .int .i64 r.sess, .int .i64 r.req, .int .i64 (ck : Int), .string r.key, .string r.val, .int .i64 r.dest, .int .i64 r.n, .slice a r.keep.length c, .int .i64 r.tear] 27 (0, 0))).alloc (.cells #[.string ⟨#[]⟩, .string ⟨#[98, 101, 103, 105, 110]⟩, .string ⟨#[103, 101, 116]⟩, .string ⟨#[112, 117, 116]⟩, .string ⟨#[100, 114, 111, 112]⟩, .string ⟨#[99, 111, 109, 109, 105, 116]⟩, .string ⟨#[97, 98, 111, 114, 116]⟩] 9 (0, 0))) = W0 at *
  have S0 := hS.below hB0
  have hpow : ∀ w', Below W0.heap.size W0 w' → Lib.TabIs Tryd.prog w' "internal/strconv.uint64pow10" .u64 Lib.pow10Tab := fun w' hb => (S0.below hb).pow
  have c1 : W0.cell? ⟨w.heap.size, 1, none⟩ = some (.int .i64 r.node) := by rw [Lib.cell_of_heap hA]; rfl
  have c2 : W0.cell? ⟨w.heap.size, 2, none⟩ = some (.int .i64 r.sess) := by rw [Lib.cell_of_heap hA]; rfl
  have c3 : W0.cell? ⟨w.heap.size, 3, none⟩ = some (.int .i64 r.req) := by rw [Lib.cell_of_heap hA]; rfl
  have c4 : W0.cell? ⟨w.heap.size, 4, none⟩ = some (.int .i64 (ck : Int)) := by rw [Lib.cell_of_heap hA]; rfl
  have c5 : W0.cell? ⟨w.heap.size, 5, none⟩ = some (.string r.key) := by rw [Lib.cell_of_heap hA]; rfl
  have c6 : W0.cell? ⟨w.heap.size, 6, none⟩ = some (.string r.val) := by rw [Lib.cell_of_heap hA]; rfl
  have d1 : W0.cell? ⟨w.heap.size + 1, ck, none⟩ = some (.string ⟨CWD.toArray⟩) := by
    rw [Lib.cell_of_heap hD, ← hcwd.out]
    rcases (by omega : ck = 1 ∨ ck = 2 ∨ ck = 3 ∨ ck = 4 ∨ ck = 5 ∨ ck = 6) with rfl | rfl | rfl | rfl | rfl | rfl <;> rfl
  have hlt := lt_of_cell c1
  have hlt2 := lt_of_cell d1
  have hb00 : Below W0.heap.size W0 W0.drew := (Below.refl _ _).drew
  clear hA hD hS S0
  have l1 := spN_length r.node hf.node.1 hf.node.2
  have l2 := spN_length r.sess hf.sess.1 hf.sess.2
  have l3 := spN_length r.req hf.req.1 hf.req.2
  have l5 := hexT_length r.key
  have l6 := hexT_length r.val
  have hnext : ∀ w' w'', Below W0.heap.size W0 w' → Below w'.heap.size w' w'' → (Below W0.heap.size W0 w'' ∧ w''.cell? ⟨w.heap.size, 1, none⟩ = some (.int .i64 r.node) ∧ w''.cell? ⟨w.heap.size, 2, none⟩ = some (.int .i64 r.sess) ∧ w''.cell? ⟨w.heap.size, 3, none⟩ = some (.int .i64 r.req) ∧ w''.cell? ⟨w.heap.size, 4, none⟩ = some (.int .i64 (ck : Int)) ∧ w''.cell? ⟨w.heap.size, 5, none⟩ = some (.string r.key) ∧ w''.cell? ⟨w.heap.size, 6, none⟩ = some (.string r.val) ∧ w''.cell? ⟨w.heap.size + 1, ck, none⟩ = some (.string ⟨CWD.toArray⟩)) := fun w' w'' h1 h2 => by
    have hb := below_next h1 h2
    exact ⟨hb, by rw [hb.cell (p := ⟨w.heap.size, 1, none⟩) hlt]; exact c1, by rw [hb.cell (p := ⟨w.heap.size, 2, none⟩) hlt]; exact c2, by rw [hb.cell (p := ⟨w.heap.size, 3, none⟩) hlt]; exact c3, by rw [hb.cell (p := ⟨w.heap.size, 4, none⟩) hlt]; exact c4, by rw [hb.cell (p := ⟨w.heap.size, 5, none⟩) hlt]; exact c5, by rw [hb.cell (p := ⟨w.heap.size, 6, none⟩) hlt]; exact c6, by rw [hb.cell (p := ⟨w.heap.size + 1, ck, none⟩) hlt2]; exact d1⟩
  have q1 : ¬9223372036854775807 < 4 + (spN r.node).length := by omega
  have q2 : ¬9223372036854775807 < 4 + (spN r.node).length + (spN r.sess).length := by omega
  have q3 : ¬9223372036854775807 < 4 + (spN r.node).length + (spN r.sess).length + (spN r.req).length := by omega
  have q4 : ¬9223372036854775807 < 4 + (spN r.node).length + (spN r.sess).length + (spN r.req).length + 1 := by omega
  have q5 : ¬9223372036854775807 < 4 + (spN r.node).length + (spN r.sess).length + (spN r.req).length + 1 + CWD.length := by omega
  have q6 : ¬9223372036854775807 < 4 + (spN r.node).length + (spN r.sess).length + (spN r.req).length + 1 + CWD.length + 1 := by omega
  have q7 : ¬9223372036854775807 < 4 + (spN r.node).length + (spN r.sess).length + (spN r.req).length + 1 + CWD.length + 1 + (hexT r.key).length := by omega
  have q8 : ¬9223372036854775807 < 4 + (spN r.node).length + (spN r.sess).length + (spN r.req).length + 1 + CWD.length + 1 + (hexT r.key).length + 1 := by omega
  have q9 : ¬9223372036854775807 < 4 + (spN r.node).length + (spN r.sess).length + (spN r.req).length + 1 + CWD.length + 1 + (hexT r.key).length + 1 + (hexT r.val).length := by omega
  clear l1 l2 l3 l5 l6
  go_region_held3 (fun w' => Below W0.heap.size W0 w' ∧ w'.cell? ⟨w.heap.size, 1, none⟩ = some (.int .i64 r.node) ∧ w'.cell? ⟨w.heap.size, 2, none⟩ = some (.int .i64 r.sess) ∧ w'.cell? ⟨w.heap.size, 3, none⟩ = some (.int .i64 r.req) ∧ w'.cell? ⟨w.heap.size, 4, none⟩ = some (.int .i64 (ck : Int)) ∧ w'.cell? ⟨w.heap.size, 5, none⟩ = some (.string r.key) ∧ w'.cell? ⟨w.heap.size, 6, none⟩ = some (.string r.val) ∧ w'.cell? ⟨w.heap.size + 1, ck, none⟩ = some (.string ⟨CWD.toArray⟩)) (first | exact ⟨hb00, c1, c2, c3, c4, c5, c6, d1⟩ | assumption | go_keep)
    (first | (go_at_call 25; refine (Tryd.spn_walk _ _ ?_ ?_ ?_).mono ?_; (first | exact hf.node.1 | exact hf.sess.1 | exact hf.req.1); (first | exact hf.node.2 | exact hf.sess.2 | exact hf.req.2); (exact hpow _ (by first | assumption | exact hb00 | exact And.left (by assumption))); rintro e w'' ⟨rfl, hb⟩; have q := hnext _ _ (by first | assumption | exact hb00 | exact And.left (by assumption)) hb)
           | (go_at_call 15; refine (Tryd.hexT_walk _ _ ?_).mono ?_; (first | exact hs1 | exact hs2); rintro e w'' ⟨rfl, hb⟩; have q := hnext _ _ (by first | assumption | exact hb00 | exact And.left (by assumption)) hb))
  all_goals
    rename_i hb q hheld
    have hfin := hheld.1
    clear hheld q hb
    go_wp2
    go_ret2
    refine ⟨?_, below_next hB0 hfin⟩
    rw [hspec.out]
    simp only [ByteArray.mk_append_mk, List.append_toArray, mkB]
    rfl
end Go.Proofs.YtcdpepaffpboeaaDoor
