/- the law's line, on: printed by gen_line.py. -/
import Derived.Test.YtcdpepaffpboeaaDoorScLine1
namespace Go.Proofs.YtcdpepaffpboeaaDoor
open Go.RowKit Go.Shelf
set_option maxHeartbeats 16000000 in
set_option maxRecDepth 1000000 in
theorem Tryd.line_9 (r : StepR) (v : Value) (w : World) (hS : SVars w) (h : StepIn w r v) (hf : Fits64 r) (hk : r.kind = 9) (hs : r.keep.length ≤ 140737488355328) :
    Calls Tryd.prog 11 #[v] w fun e w' => e = .returned (.tuple #[.string (mkB ((lineS r).getD [])), .bool (lineS r).isSome]) ∧ Below w.heap.size w w' := by
  have hspec : lineS r = some ([111, 110] ++ spN r.node ++ spN r.n ++ spN r.tear ++ [32] ++ bitD r.keep) := by
    unfold lineS
    rw [hk]
    rfl
  replace hspec := Keep.mk hspec
  obtain ⟨a, c, rfl, own⟩ := h
  replace own := Keep.mk own
  simp only [StepR.cells]
  go_enter Tryd.func11, Tryd.ntmps11
  go_upto_region 24 with fail
  have hB0 : Below w.heap.size w ((w.alloc (.cells #[.int .i64 9, .int .i64 r.node, .int .i64 r.sess, .int .i64 r.req, .int .i64 r.ckind, .string r.key, .string r.val, .int .i64 r.dest, .int .i64 r.n, .slice a r.keep.length c, .int .i64 r.tear] 27 (0, 0))).alloc (.cells #[.string ⟨#[]⟩, .string ⟨#[98, 101, 103, 105, 110]⟩, .string ⟨#[103, 101, 116]⟩, .string ⟨#[112, 117, 116]⟩, .string ⟨#[100, 114, 111, 112]⟩, .string ⟨#[99, 111, 109, 109, 105, 116]⟩, .string ⟨#[97, 98, 111, 114, 116]⟩] 9 (0, 0))) := by go_grown
  have hA : ((w.alloc (.cells #[.int .i64 9, .int .i64 r.node, .int .i64 r.sess, .int .i64 r.req, .int .i64 r.ckind, .string r.key, .string r.val, .int .i64 r.dest, .int .i64 r.n, .slice a r.keep.length c, .int .i64 r.tear] 27 (0, 0))).alloc (.cells #[.string ⟨#[]⟩, .string ⟨#[98, 101, 103, 105, 110]⟩, .string ⟨#[103, 101, 116]⟩, .string ⟨#[112, 117, 116]⟩, .string ⟨#[100, 114, 111, 112]⟩, .string ⟨#[99, 111, 109, 109, 105, 116]⟩, .string ⟨#[97, 98, 111, 114, 116]⟩] 9 (0, 0))).heap[w.heap.size]? = some (.cells #[.int .i64 9, .int .i64 r.node, .int .i64 r.sess, .int .i64 r.req, .int .i64 r.ckind, .string r.key, .string r.val, .int .i64 r.dest, .int .i64 r.n, .slice a r.keep.length c, .int .i64 r.tear] 27 (0, 0)) := by
    rw [Below.heap_alloc _ _ _ (by simp)]
    exact heap_alloc_new w _
  generalize ((w.alloc (.cells #[.int .i64 9, .int .i64 r.node, .int .i64 r.sess, .int .i64 r.req, .int .i64 r.ckind, .string r.key, .string r.val, .int .i64 r.dest, .int .i64 r.n, .slice a r.keep.length c, .int .i64 r.tear] 27 (0, 0))).alloc (.cells #[.string ⟨#[]⟩, .string ⟨#[98, 101, 103, 105, 110]⟩, .string ⟨#[103, 101, 116]⟩, .string ⟨#[112, 117, 116]⟩, .string ⟨#[100, 114, 111, 112]⟩, .string ⟨#[99, 111, 109, 109, 105, 116]⟩, .string ⟨#[97, 98, 111, 114, 116]⟩] 9 (0, 0))) = W0 at *
  have S0 := hS.below hB0
  have hpow : ∀ w', Below W0.heap.size W0 w' → Lib.TabIs Tryd.prog w' "internal/strconv.uint64pow10" .u64 Lib.pow10Tab := fun w' hb => (S0.below hb).pow
  have c1 : W0.cell? ⟨w.heap.size, 1, none⟩ = some (.int .i64 r.node) := by rw [Lib.cell_of_heap hA]; rfl
  have c8 : W0.cell? ⟨w.heap.size, 8, none⟩ = some (.int .i64 r.n) := by rw [Lib.cell_of_heap hA]; rfl
  have c10 : W0.cell? ⟨w.heap.size, 10, none⟩ = some (.int .i64 r.tear) := by rw [Lib.cell_of_heap hA]; rfl
  have c9 : W0.cell? ⟨w.heap.size, 9, none⟩ = some (.slice a r.keep.length c) := by rw [Lib.cell_of_heap hA]; rfl
  have hlt := lt_of_cell c1
  have hb00 : Below W0.heap.size W0 W0.drew := (Below.refl _ _).drew
  clear hA hS S0
  replace hB0 := Keep.mk hB0
  go_wp2
  go_loopw [6, 120] (fun v6 v120 wr => wr = W0 ∧ ∃ k : Nat, v120 = .int .i64 (k : Int) ∧ v6 = .string ⟨(bitL (r.keep.take k)).toArray⟩ ∧ k ≤ r.keep.length) (fun _ v _ => r.keep.length - (intOf v).toNat)
  case atStart =>
    exact ⟨rfl, 0, rfl, rfl, Nat.zero_le _⟩
  case round =>
    obtain ⟨rfl, k, rfl, rfl, hk⟩ := hrel
    by_cases hp : k < r.keep.length
    · obtain ⟨g1, f1, rfl, hg1, hq1⟩ := own.out.get (by omega)
      obtain ⟨x1, hx1⟩ : ∃ x, r.keep[k]? = some x := ⟨r.keep[k], List.getElem?_eq_getElem hp⟩
      have y1 : wr.cell? ⟨g1, f1 + k, none⟩ = some (.bool x1) := by rw [hB0.out.cell (p := ⟨g1, f1 + k, none⟩) hg1]; exact hq1 k x1 hx1
      have hstep : bitL (r.keep.take (k + 1)) = bitL (r.keep.take k) ++ [if x1 then 49 else 48] := by
        rw [List.take_add_one, hx1]
        simp [bitL]
      have hlen : (bitL (r.keep.take k)).length ≤ 140737488355328 := by
        simp only [bitL, List.length_map, List.length_take]
        omega
      clear hq1 hx1
      generalize bitL (r.keep.take k) = L at *
      have a1 : ∀ w1, (Op.stringOp .add ⟨L.toArray⟩ ⟨#[49]⟩).run Tryd.prog w1 = .ok (.string ⟨(L ++ [49]).toArray⟩) w1 := add_lists L [49] (by simp only [List.length_singleton]; omega)
      have a2 : ∀ w1, (Op.stringOp .add ⟨L.toArray⟩ ⟨#[48]⟩).run Tryd.prog w1 = .ok (.string ⟨(L ++ [48]).toArray⟩) w1 := add_lists L [48] (by simp only [List.length_singleton]; omega)
      replace hstep := Keep.mk hstep
      cases x1
      · generalize hM : L ++ [48] = M at *
        go_wp2
        go_roundw
        case rel =>
          have R : ((k : Int) + 1 = ((k + 1 : Nat) : Int)) ∧ k + 1 ≤ r.keep.length ∧ bitL (r.keep.take (k + 1)) = M := ⟨by omega, by omega, by rw [hstep.out, ← hM]; rfl⟩
          first
            | exact ⟨trivial, k + 1, by rw [← R.1], by rw [R.2.2], R.2.1⟩
            | ((repeat apply Exists.intro); exact ⟨⟨trivial, k + 1, by rw [← R.1], by rw [R.2.2], R.2.1⟩, rfl⟩)
        case measure =>
          simp [intOf]
          omega
      · generalize hM : L ++ [49] = M at *
        go_wp2
        go_roundw
        case rel =>
          have R : ((k : Int) + 1 = ((k + 1 : Nat) : Int)) ∧ k + 1 ≤ r.keep.length ∧ bitL (r.keep.take (k + 1)) = M := ⟨by omega, by omega, by rw [hstep.out, ← hM]; rfl⟩
          first
            | exact ⟨trivial, k + 1, by rw [← R.1], by rw [R.2.2], R.2.1⟩
            | ((repeat apply Exists.intro); exact ⟨⟨trivial, k + 1, by rw [← R.1], by rw [R.2.2], R.2.1⟩, rfl⟩)
        case measure =>
          simp [intOf]
          omega
    · have hk : k = r.keep.length := by omega
      subst hk
      rw [List.take_length]
      clear hk hp
      go_upto_region 33 with fail
      all_goals rename_i hemp _ _
      · have hd : bitD r.keep = [45] := by unfold bitD; rw [if_pos (by simpa [bitL] using hemp)]
        rw [hd] at hspec
        clear hemp
        have l1 := spN_length r.node hf.node.1 hf.node.2
        have l8 := spN_length r.n hf.n.1 hf.n.2
        have l10 := spN_length r.tear hf.tear.1 hf.tear.2
        have q1 : ¬9223372036854775807 < 2 + (spN r.node).length := by omega
        have q2 : ¬9223372036854775807 < 2 + (spN r.node).length + (spN r.n).length := by omega
        have q3 : ¬9223372036854775807 < 2 + (spN r.node).length + (spN r.n).length + (spN r.tear).length := by omega
        have q4 : ¬9223372036854775807 < 2 + (spN r.node).length + (spN r.n).length + (spN r.tear).length + 1 := by omega
        have q5 : ¬9223372036854775807 < 2 + (spN r.node).length + (spN r.n).length + (spN r.tear).length + 1 + 1 := by omega
        have q6 : ¬9223372036854775807 < 2 + (spN r.node).length + (spN r.n).length + (spN r.tear).length + 2 := by omega
        have hnext : ∀ w' w'', Below wr.heap.size wr w' → Below w'.heap.size w' w'' → (Below wr.heap.size wr w'' ∧ w''.cell? ⟨w.heap.size, 1, none⟩ = some (.int .i64 r.node) ∧ w''.cell? ⟨w.heap.size, 8, none⟩ = some (.int .i64 r.n) ∧ w''.cell? ⟨w.heap.size, 10, none⟩ = some (.int .i64 r.tear)) := fun w' w'' h1 h2 => by
          have hb := below_next h1 h2
          exact ⟨hb, by rw [hb.cell (p := ⟨w.heap.size, 1, none⟩) hlt]; exact c1, by rw [hb.cell (p := ⟨w.heap.size, 8, none⟩) hlt]; exact c8, by rw [hb.cell (p := ⟨w.heap.size, 10, none⟩) hlt]; exact c10⟩
        clear l1 l8 l10
        go_region_held3 (fun w' => Below wr.heap.size wr w' ∧ w'.cell? ⟨w.heap.size, 1, none⟩ = some (.int .i64 r.node) ∧ w'.cell? ⟨w.heap.size, 8, none⟩ = some (.int .i64 r.n) ∧ w'.cell? ⟨w.heap.size, 10, none⟩ = some (.int .i64 r.tear)) (first | exact ⟨hb00, c1, c8, c10⟩ | assumption | go_keep)
          (first | (go_at_call 25; refine (Tryd.spn_walk _ _ ?_ ?_ ?_).mono ?_; (first | exact hf.node.1 | exact hf.n.1 | exact hf.tear.1); (first | exact hf.node.2 | exact hf.n.2 | exact hf.tear.2); (exact hpow _ (by first | assumption | exact hb00 | exact And.left (by assumption))); rintro e w'' ⟨rfl, hb⟩; have q := hnext _ _ (by first | assumption | exact hb00 | exact And.left (by assumption)) hb))
        all_goals
          rename_i hb q hheld
          have hfin := hheld.1
          clear hheld q hb
          go_wp2
          go_ret2
          refine ⟨?_, below_next hB0.out hfin⟩
          rw [hspec.out]
          simp only [ByteArray.mk_append_mk, List.append_toArray, mkB]
          rfl
      · have hd : bitD r.keep = bitL r.keep := by unfold bitD; rw [if_neg (fun e => by rw [e] at hemp; simp [bitL] at hemp)]
        have hbl : (bitL r.keep).length ≤ 140737488355328 := by rw [bitL, List.length_map]; exact hs
        rw [hd] at hspec
        clear hemp
        generalize bitL r.keep = DL at *
        have l1 := spN_length r.node hf.node.1 hf.node.2
        have l8 := spN_length r.n hf.n.1 hf.n.2
        have l10 := spN_length r.tear hf.tear.1 hf.tear.2
        have q1 : ¬9223372036854775807 < 2 + (spN r.node).length := by omega
        have q2 : ¬9223372036854775807 < 2 + (spN r.node).length + (spN r.n).length := by omega
        have q3 : ¬9223372036854775807 < 2 + (spN r.node).length + (spN r.n).length + (spN r.tear).length := by omega
        have q4 : ¬9223372036854775807 < 2 + (spN r.node).length + (spN r.n).length + (spN r.tear).length + 1 := by omega
        have q5 : ¬9223372036854775807 < 2 + (spN r.node).length + (spN r.n).length + (spN r.tear).length + 1 + DL.length := by omega
        have hnext : ∀ w' w'', Below wr.heap.size wr w' → Below w'.heap.size w' w'' → (Below wr.heap.size wr w'' ∧ w''.cell? ⟨w.heap.size, 1, none⟩ = some (.int .i64 r.node) ∧ w''.cell? ⟨w.heap.size, 8, none⟩ = some (.int .i64 r.n) ∧ w''.cell? ⟨w.heap.size, 10, none⟩ = some (.int .i64 r.tear)) := fun w' w'' h1 h2 => by
          have hb := below_next h1 h2
          exact ⟨hb, by rw [hb.cell (p := ⟨w.heap.size, 1, none⟩) hlt]; exact c1, by rw [hb.cell (p := ⟨w.heap.size, 8, none⟩) hlt]; exact c8, by rw [hb.cell (p := ⟨w.heap.size, 10, none⟩) hlt]; exact c10⟩
        clear l1 l8 l10 hbl
        go_region_held3 (fun w' => Below wr.heap.size wr w' ∧ w'.cell? ⟨w.heap.size, 1, none⟩ = some (.int .i64 r.node) ∧ w'.cell? ⟨w.heap.size, 8, none⟩ = some (.int .i64 r.n) ∧ w'.cell? ⟨w.heap.size, 10, none⟩ = some (.int .i64 r.tear)) (first | exact ⟨hb00, c1, c8, c10⟩ | assumption | go_keep)
          (first | (go_at_call 25; refine (Tryd.spn_walk _ _ ?_ ?_ ?_).mono ?_; (first | exact hf.node.1 | exact hf.n.1 | exact hf.tear.1); (first | exact hf.node.2 | exact hf.n.2 | exact hf.tear.2); (exact hpow _ (by first | assumption | exact hb00 | exact And.left (by assumption))); rintro e w'' ⟨rfl, hb⟩; have q := hnext _ _ (by first | assumption | exact hb00 | exact And.left (by assumption)) hb))
        all_goals
          rename_i hb q hheld
          have hfin := hheld.1
          clear hheld q hb
          go_wp2
          go_ret2
          refine ⟨?_, below_next hB0.out hfin⟩
          rw [hspec.out]
          simp only [ByteArray.mk_append_mk, List.append_toArray, mkB]
          rfl
end Go.Proofs.YtcdpepaffpboeaaDoor
