/- A step's value whose list of truths lies anywhere; the law's Same of such. -/
import Derived.Test.YtcdpepaffpboeaaDoorScSame
namespace Go.Proofs.YtcdpepaffpboeaaDoor
open Go.RowKit Go.Shelf
/-- A list of truths that lies somewhere. -/
def BoolsIn (w : World) (o : Option Addr) (bs : List Bool) : Prop := bs.length ≤ 9223372036854775807 ∧ (bs = [] ∨ ∃ g off, o = some ⟨g, off, none⟩ ∧ ∀ (i : Nat) a, bs[i]? = some a → w.cell? ⟨g, off + i, none⟩ = some (.bool a))
/-- A step's value. -/
def StepIn (w : World) (r : StepR) (v : Value) : Prop := ∃ o c, v = .agg (r.cells (.slice o r.keep.length c)) ∧ BoolsIn w o r.keep
theorem BoolsIn.get {w : World} {o : Option Addr} {bs : List Bool} (h : BoolsIn w o bs) (hn : 0 < bs.length) : ∃ g off, o = some ⟨g, off, none⟩ ∧ g < w.heap.size ∧ ∀ (i : Nat) a, bs[i]? = some a → w.cell? ⟨g, off + i, none⟩ = some (.bool a) := by
  rcases h.2 with rfl | ⟨g, off, rfl, hx⟩
  · exact absurd hn (by decide)
  · exact ⟨g, off, rfl, lt_of_cell (hx 0 bs[0] (List.getElem?_eq_getElem hn)), hx⟩
theorem BoolsIn.below {w w' : World} {o : Option Addr} {bs : List Bool} (h : BoolsIn w o bs) (hb : Below w.heap.size w w') : BoolsIn w' o bs := by
  refine ⟨h.1, ?_⟩
  rcases h.2 with rfl | ⟨g, off, rfl, hx⟩
  · exact .inl rfl
  · exact .inr ⟨g, off, rfl, fun i a ha => by rw [hb.cell (p := ⟨g, off + i, none⟩) (lt_of_cell (hx i a ha))]; exact hx i a ha⟩
theorem BoolsIn.nil (w : World) (o : Option Addr) : BoolsIn w o [] := ⟨Nat.zero_le _, .inl rfl⟩
theorem StepIn.below {w w' : World} {r : StepR} {v : Value} (h : StepIn w r v) (hb : Below w.heap.size w w') : StepIn w' r v := by
  obtain ⟨o, c, rfl, hk⟩ := h
  exact ⟨o, c, rfl, hk.below hb⟩
theorem bools_of_own {w : World} {base c : Nat} {o : Option Addr} {bs : List Bool} (h : w.ownsRow base 4 1 (.slice o bs.length c) bs.length (bs.map boolV)) : BoolsIn w o bs := by
  refine ⟨own_max h, ?_⟩
  rcases Nat.eq_zero_or_pos bs.length with h0 | h0
  · exact .inl (List.length_eq_zero_iff.1 h0)
  · obtain ⟨g, rfl, _, hx⟩ := own_bools h h0
    exact .inr ⟨g, 0, rfl, fun i a ha => by rw [Nat.zero_add]; exact hx i a ha⟩
theorem StepAt.toIn {w : World} {base : Nat} {r : StepR} {v : Value} (h : StepAt w base r v) : StepIn w r v := by
  obtain ⟨kv, rfl, own⟩ := h
  obtain ⟨o, c, rfl⟩ := own_slice own
  exact ⟨o, c, rfl, bools_of_own own⟩
set_option maxHeartbeats 8000000 in
set_option maxRecDepth 1000000 in
theorem Tryd.SameIn_walk (r1 r2 : StepR) (v1 v2 : Value) (w : World) (h1 : StepIn w r1 v1) (h2 : StepIn w r2 v2) :
    Calls Tryd.prog 10 #[v1, v2] w fun e w' => e = .returned (.bool (sameS r1 r2)) ∧ Below w.heap.size w w' := by
  obtain ⟨a1, c1, rfl, o1⟩ := h1
  obtain ⟨a2, c2, rfl, o2⟩ := h2
  replace o1 := Keep.mk o1
  replace o2 := Keep.mk o2
  cases hh : heads r1 r2
  · have hs : sameS r1 r2 = false := by unfold sameS; rw [hh]; rfl
    replace hh := Keep.mk hh
    replace hs := Keep.mk hs
    simp only [StepR.cells]
    go_enter Tryd.func10, Tryd.ntmps10
    go_wp2
    all_goals first
      | (go_ret; exact ⟨by rw [hs.out]; rfl, by go_grown⟩)
      | (exfalso
         have h := hh.out
         unfold heads at h
         rename_i e1 e2 e3 e4 e5 e6 e7 e8 e9 e10 e11 _ _
         have e11 : ((r1.keep.length : Int) == (r2.keep.length : Int)) = true := by simpa using e11
         rw [e1, e2, e3, e4, e5, e6, e7, e8, e9, e10, e11] at h
         simp at h)
  · obtain ⟨kp, rfl⟩ : ∃ kp, r1 = { r2 with keep := kp } := by
      obtain ⟨e1, e2, e3, e4, e5, f6, f7, e8, e9, e10, _⟩ := heads_iff hh
      have e6 := bytes_eq f6
      have e7 := bytes_eq f7
      clear f6 f7
      cases r1
      cases r2
      simp only at e1 e2 e3 e4 e5 e6 e7 e8 e9 e10
      subst e1 e2 e3 e4 e5 e6 e7 e8 e9 e10
      exact ⟨_, rfl⟩
    have e11 : kp.length = r2.keep.length := (heads_iff hh).2.2.2.2.2.2.2.2.2.2
    have hs : sameS { r2 with keep := kp } r2 = (kp == r2.keep) := by unfold sameS; rw [hh]; rfl
    replace hs := Keep.mk hs
    have hne : ((kp.length : Int) != (r2.keep.length : Int)) = false := by rw [e11]; simp
    simp only [StepR.cells] at o1 o2 ⊢
    have hB0 : Below w.heap.size w ((w.alloc (.cells #[.int .i64 r2.kind, .int .i64 r2.node, .int .i64 r2.sess, .int .i64 r2.req, .int .i64 r2.ckind, .string r2.key, .string r2.val, .int .i64 r2.dest, .int .i64 r2.n, .slice a1 kp.length c1, .int .i64 r2.tear] 27 (0, 0))).alloc (.cells #[.int .i64 r2.kind, .int .i64 r2.node, .int .i64 r2.sess, .int .i64 r2.req, .int .i64 r2.ckind, .string r2.key, .string r2.val, .int .i64 r2.dest, .int .i64 r2.n, .slice a2 r2.keep.length c2, .int .i64 r2.tear] 27 (0, 0))) := by go_grown
    have hc2 : ((w.alloc (.cells #[.int .i64 r2.kind, .int .i64 r2.node, .int .i64 r2.sess, .int .i64 r2.req, .int .i64 r2.ckind, .string r2.key, .string r2.val, .int .i64 r2.dest, .int .i64 r2.n, .slice a1 kp.length c1, .int .i64 r2.tear] 27 (0, 0))).alloc (.cells #[.int .i64 r2.kind, .int .i64 r2.node, .int .i64 r2.sess, .int .i64 r2.req, .int .i64 r2.ckind, .string r2.key, .string r2.val, .int .i64 r2.dest, .int .i64 r2.n, .slice a2 r2.keep.length c2, .int .i64 r2.tear] 27 (0, 0))).heap[w.heap.size + 1]? = some (.cells #[.int .i64 r2.kind, .int .i64 r2.node, .int .i64 r2.sess, .int .i64 r2.req, .int .i64 r2.ckind, .string r2.key, .string r2.val, .int .i64 r2.dest, .int .i64 r2.n, .slice a2 r2.keep.length c2, .int .i64 r2.tear] 27 (0, 0)) := heap_alloc2_new w _ _
    have hc1 : ((w.alloc (.cells #[.int .i64 r2.kind, .int .i64 r2.node, .int .i64 r2.sess, .int .i64 r2.req, .int .i64 r2.ckind, .string r2.key, .string r2.val, .int .i64 r2.dest, .int .i64 r2.n, .slice a1 kp.length c1, .int .i64 r2.tear] 27 (0, 0))).alloc (.cells #[.int .i64 r2.kind, .int .i64 r2.node, .int .i64 r2.sess, .int .i64 r2.req, .int .i64 r2.ckind, .string r2.key, .string r2.val, .int .i64 r2.dest, .int .i64 r2.n, .slice a2 r2.keep.length c2, .int .i64 r2.tear] 27 (0, 0))).heap[w.heap.size]? = some (.cells #[.int .i64 r2.kind, .int .i64 r2.node, .int .i64 r2.sess, .int .i64 r2.req, .int .i64 r2.ckind, .string r2.key, .string r2.val, .int .i64 r2.dest, .int .i64 r2.n, .slice a1 kp.length c1, .int .i64 r2.tear] 27 (0, 0)) := by
      rw [Below.heap_alloc _ _ _ (by simp)]
      exact heap_alloc_new w _
    have hl1 : kp.length = r2.keep.length := e11
    replace e11 := Keep.mk e11
    clear hh hl1
    go_enter Tryd.func10, Tryd.ntmps10
    go_wp2
    generalize (w.alloc (.cells #[.int .i64 r2.kind, .int .i64 r2.node, .int .i64 r2.sess, .int .i64 r2.req, .int .i64 r2.ckind, .string r2.key, .string r2.val, .int .i64 r2.dest, .int .i64 r2.n, .slice a1 kp.length c1, .int .i64 r2.tear] 27 (0, 0))).alloc (.cells #[.int .i64 r2.kind, .int .i64 r2.node, .int .i64 r2.sess, .int .i64 r2.req, .int .i64 r2.ckind, .string r2.key, .string r2.val, .int .i64 r2.dest, .int .i64 r2.n, .slice a2 r2.keep.length c2, .int .i64 r2.tear] 27 (0, 0)) = W0 at *
    have p1 : W0.cell? ⟨w.heap.size, 9, none⟩ = some (.slice a1 kp.length c1) := by rw [Lib.cell_of_heap hc1]; rfl
    have p2 : W0.cell? ⟨w.heap.size + 1, 9, none⟩ = some (.slice a2 r2.keep.length c2) := by rw [Lib.cell_of_heap hc2]; rfl
    replace hB0 := Keep.mk hB0
    clear hc1 hc2
    go_loopw [58] (fun v58 wr => ∃ (k n : Nat), v58 = .int .i64 (k : Int) ∧ k ≤ kp.length ∧ kp.take k = r2.keep.take k ∧ wr = W0.drewN n) (fun v _ => kp.length - (intOf v).toNat)
    case atStart =>
      exact ⟨0, 0, rfl, Nat.zero_le _, rfl, rfl⟩
    case round =>
      obtain ⟨k, n, rfl, hk, ht, rfl⟩ := hrel
      by_cases hp : k < kp.length
      · have hl := e11.out
        obtain ⟨g1, f1, rfl, hg1, hq1⟩ := o1.out.get (by omega)
        obtain ⟨g2, f2, rfl, hg2, hq2⟩ := o2.out.get (by omega)
        obtain ⟨x1, hx1⟩ : ∃ x, kp[k]? = some x := ⟨kp[k], List.getElem?_eq_getElem hp⟩
        obtain ⟨x2, hx2⟩ : ∃ x, r2.keep[k]? = some x := ⟨r2.keep[k]'(by omega), List.getElem?_eq_getElem (by omega)⟩
        have y1 : W0.cell? ⟨g1, f1 + k, none⟩ = some (.bool x1) := by rw [hB0.out.cell (p := ⟨g1, f1 + k, none⟩) hg1]; exact hq1 k x1 hx1
        have y2 : W0.cell? ⟨g2, f2 + k, none⟩ = some (.bool x2) := by rw [hB0.out.cell (p := ⟨g2, f2 + k, none⟩) hg2]; exact hq2 k x2 hx2
        have hp2 : k < r2.keep.length := by omega
        clear hq1 hq2 hl
        replace ht := Keep.mk ht
        replace hx1 := Keep.mk hx1
        replace hx2 := Keep.mk hx2
        have hmx := o1.out.1
        cases x1 <;> cases x2
        · have ht' : kp.take (k + 1) = r2.keep.take (k + 1) := by
            rw [List.take_add_one, List.take_add_one, ht.out, hx1.out, hx2.out]
          replace ht' := Keep.mk ht'
          go_wp2
          go_quiet ((fail))
          go_wp2
          go_roundw
          case rel =>
            have R : ((k : Int) + 1 = ((k + 1 : Nat) : Int)) ∧ k + 1 ≤ kp.length ∧ kp.take (k + 1) = r2.keep.take (k + 1) := ⟨by omega, by omega, ht'.out⟩
            first
              | exact ⟨k + 1, _, by rw [← R.1], R.2.1, R.2.2, rfl⟩
              | ((repeat apply Exists.intro); exact ⟨⟨k + 1, _, by rw [← R.1], R.2.1, R.2.2, rfl⟩, rfl⟩)
          case measure =>
            simp [intOf]
            omega
        · go_wp2
          go_quiet ((fail))
          go_wp2
          go_ret
          have hne2 : (kp == r2.keep) = false := by
            rw [beq_eq_false_iff_ne]
            intro e
            have h1 := hx1.out
            rw [e, hx2.out] at h1
            cases h1
          exact ⟨by rw [hs.out, hne2]; rfl, by have := hB0.out; exact ⟨this.os, this.tape, this.output, this.size, this.block⟩⟩
        · go_wp2
          go_quiet ((fail))
          go_wp2
          go_ret
          have hne2 : (kp == r2.keep) = false := by
            rw [beq_eq_false_iff_ne]
            intro e
            have h1 := hx1.out
            rw [e, hx2.out] at h1
            cases h1
          exact ⟨by rw [hs.out, hne2]; rfl, by have := hB0.out; exact ⟨this.os, this.tape, this.output, this.size, this.block⟩⟩
        · have ht' : kp.take (k + 1) = r2.keep.take (k + 1) := by
            rw [List.take_add_one, List.take_add_one, ht.out, hx1.out, hx2.out]
          replace ht' := Keep.mk ht'
          go_wp2
          go_quiet ((fail))
          go_wp2
          go_roundw
          case rel =>
            have R : ((k : Int) + 1 = ((k + 1 : Nat) : Int)) ∧ k + 1 ≤ kp.length ∧ kp.take (k + 1) = r2.keep.take (k + 1) := ⟨by omega, by omega, ht'.out⟩
            first
              | exact ⟨k + 1, _, by rw [← R.1], R.2.1, R.2.2, rfl⟩
              | ((repeat apply Exists.intro); exact ⟨⟨k + 1, _, by rw [← R.1], R.2.1, R.2.2, rfl⟩, rfl⟩)
          case measure =>
            simp [intOf]
            omega
      · have hk : k = kp.length := by omega
        go_wp2
        go_ret
        have heq : (kp == r2.keep) = true := by
          rw [beq_iff_eq]
          have h1 := ht
          rw [hk, List.take_length, List.take_of_length_le (by have := e11.out; omega)] at h1
          exact h1
        exact ⟨by rw [hs.out, heq]; rfl, by have := hB0.out; exact ⟨this.os, this.tape, this.output, this.size, this.block⟩⟩
end Go.Proofs.YtcdpepaffpboeaaDoor
