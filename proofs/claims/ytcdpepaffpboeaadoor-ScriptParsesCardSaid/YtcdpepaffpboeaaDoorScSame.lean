/- the law's Same, walked. -/
import Derived.Test.YtcdpepaffpboeaaDoorScParse
import Derived.Deep.Draws
namespace Go.Proofs.YtcdpepaffpboeaaDoor
open Go.RowKit Go.Shelf
/-- All but the truths. -/
def heads (a b : StepR) : Bool := a.kind == b.kind && a.node == b.node && (a.sess == b.sess && a.req == b.req && a.ckind == b.ckind && a.key.toList == b.key.toList && a.val.toList == b.val.toList) && a.dest == b.dest && a.n == b.n && a.tear == b.tear && ((a.keep.length : Int) == (b.keep.length : Int))
/-- Do two steps say the same? -/
def sameS (a b : StepR) : Bool := heads a b && a.keep == b.keep
theorem own_max {w : World} {base n size : Nat} {v : Value} {xs : List Value} {e : TypeId} (h : w.ownsRow base e size v n xs) : n ≤ 9223372036854775807 := by
  obtain ⟨_, ⟨_, h0⟩ | ⟨g, cap, cur, _, _, _, h1, h2, _⟩⟩ := h
  · omega
  · unfold maxLen at h2
    omega
theorem bytes_eq {a b : ByteArray} (h : a.toList = b.toList) : a = b := by
  rw [toL, toL] at h
  obtain ⟨⟨l⟩⟩ := a
  obtain ⟨⟨m⟩⟩ := b
  simp at h
  rw [h]
theorem heads_iff {a b : StepR} (h : heads a b = true) : a.kind = b.kind ∧ a.node = b.node ∧ a.sess = b.sess ∧ a.req = b.req ∧ a.ckind = b.ckind ∧ a.key.toList = b.key.toList ∧ a.val.toList = b.val.toList ∧ a.dest = b.dest ∧ a.n = b.n ∧ a.tear = b.tear ∧ a.keep.length = b.keep.length := by
  unfold heads at h
  simp only [Bool.and_eq_true, beq_iff_eq] at h
  obtain ⟨⟨⟨⟨⟨⟨h1, h2⟩, ⟨⟨⟨h3, h4⟩, h5⟩, h6⟩, h7⟩, h8⟩, h9⟩, h10⟩, h11⟩ := h
  exact ⟨h1, h2, h3, h4, h5, h6, h7, h8, h9, h10, by omega⟩
/-- A row of truths that the call has made: where it lies. -/
theorem own_bools {w : World} {base n c : Nat} {o : Option Addr} {bs : List Bool} (h : w.ownsRow base 4 1 (.slice o n c) n (bs.map boolV)) (hn : 0 < n) :
    ∃ g, o = some ⟨g, 0, none⟩ ∧ g < w.heap.size ∧ ∀ (i : Nat) a, bs[i]? = some a → w.cell? ⟨g, i, none⟩ = some (.bool a) := by
  obtain ⟨hl, ⟨_, h0⟩ | ⟨g, cap, cur, hv, hb, hh, hc, _, _, hx⟩⟩ := h
  · omega
  · cases hv
    refine ⟨g, rfl, lt_of_block hh, fun i a ha => ?_⟩
    rw [Lib.cell_of_heap hh]
    have h1 : (bs.map boolV)[i]? = some (.bool a) := by rw [List.getElem?_map, ha]; rfl
    rw [← hx, List.getElem?_take] at h1
    split at h1
    · rw [← Array.getElem?_toList]; exact h1
    · cases h1
set_option maxHeartbeats 8000000 in
set_option maxRecDepth 1000000 in
theorem Tryd.Same_walk (r1 r2 : StepR) (v1 v2 : Value) (w : World) (b1 b2 : Nat) (h1 : StepAt w b1 r1 v1) (h2 : StepAt w b2 r2 v2) :
    Calls Tryd.prog 10 #[v1, v2] w fun e w' => e = .returned (.bool (sameS r1 r2)) ∧ Below w.heap.size w w' := by
  obtain ⟨k1, rfl, o1⟩ := h1
  obtain ⟨k2, rfl, o2⟩ := h2
  obtain ⟨a1, c1, rfl⟩ := own_slice o1
  obtain ⟨a2, c2, rfl⟩ := own_slice o2
  replace o1 := Keep.mk o1
  replace o2 := Keep.mk o2
  cases hh : heads r1 r2
  · have hs : sameS r1 r2 = false := by unfold sameS; rw [hh]; rfl
    replace hh := Keep.mk hh
    replace hs := Keep.mk hs
    simp only [StepR.cells]
    go_enter Tryd.func10, Tryd.ntmps10
    go_wp2
    all_goals first
      | (go_ret; exact ⟨by rw [hs.out]; rfl, by go_grown⟩)
      | (exfalso
         have h := hh.out
         unfold heads at h
         rename_i e1 e2 e3 e4 e5 e6 e7 e8 e9 e10 e11 _ _
         have e11 : ((r1.keep.length : Int) == (r2.keep.length : Int)) = true := by simpa using e11
         rw [e1, e2, e3, e4, e5, e6, e7, e8, e9, e10, e11] at h
         simp at h)
  · obtain ⟨kp, rfl⟩ : ∃ kp, r1 = { r2 with keep := kp } := by
      obtain ⟨e1, e2, e3, e4, e5, f6, f7, e8, e9, e10, _⟩ := heads_iff hh
      have e6 := bytes_eq f6
      have e7 := bytes_eq f7
      clear f6 f7
      cases r1
      cases r2
      simp only at e1 e2 e3 e4 e5 e6 e7 e8 e9 e10
      subst e1 e2 e3 e4 e5 e6 e7 e8 e9 e10
      exact ⟨_, rfl⟩
    have e11 : kp.length = r2.keep.length := (heads_iff hh).2.2.2.2.2.2.2.2.2.2
    have hs : sameS { r2 with keep := kp } r2 = (kp == r2.keep) := by unfold sameS; rw [hh]; rfl
    replace hs := Keep.mk hs
    have hne : ((kp.length : Int) != (r2.keep.length : Int)) = false := by rw [e11]; simp
    simp only [StepR.cells] at o1 o2 ⊢
    have hB0 : Below w.heap.size w ((w.alloc (.cells #[.int .i64 r2.kind, .int .i64 r2.node, .int .i64 r2.sess, .int .i64 r2.req, .int .i64 r2.ckind, .string r2.key, .string r2.val, .int .i64 r2.dest, .int .i64 r2.n, .slice a1 kp.length c1, .int .i64 r2.tear] 27 (0, 0))).alloc (.cells #[.int .i64 r2.kind, .int .i64 r2.node, .int .i64 r2.sess, .int .i64 r2.req, .int .i64 r2.ckind, .string r2.key, .string r2.val, .int .i64 r2.dest, .int .i64 r2.n, .slice a2 r2.keep.length c2, .int .i64 r2.tear] 27 (0, 0))) := by go_grown
    have hc2 : ((w.alloc (.cells #[.int .i64 r2.kind, .int .i64 r2.node, .int .i64 r2.sess, .int .i64 r2.req, .int .i64 r2.ckind, .string r2.key, .string r2.val, .int .i64 r2.dest, .int .i64 r2.n, .slice a1 kp.length c1, .int .i64 r2.tear] 27 (0, 0))).alloc (.cells #[.int .i64 r2.kind, .int .i64 r2.node, .int .i64 r2.sess, .int .i64 r2.req, .int .i64 r2.ckind, .string r2.key, .string r2.val, .int .i64 r2.dest, .int .i64 r2.n, .slice a2 r2.keep.length c2, .int .i64 r2.tear] 27 (0, 0))).heap[w.heap.size + 1]? = some (.cells #[.int .i64 r2.kind, .int .i64 r2.node, .int .i64 r2.sess, .int .i64 r2.req, .int .i64 r2.ckind, .string r2.key, .string r2.val, .int .i64 r2.dest, .int .i64 r2.n, .slice a2 r2.keep.length c2, .int .i64 r2.tear] 27 (0, 0)) := heap_alloc2_new w _ _
    have hc1 : ((w.alloc (.cells #[.int .i64 r2.kind, .int .i64 r2.node, .int .i64 r2.sess, .int .i64 r2.req, .int .i64 r2.ckind, .string r2.key, .string r2.val, .int .i64 r2.dest, .int .i64 r2.n, .slice a1 kp.length c1, .int .i64 r2.tear] 27 (0, 0))).alloc (.cells #[.int .i64 r2.kind, .int .i64 r2.node, .int .i64 r2.sess, .int .i64 r2.req, .int .i64 r2.ckind, .string r2.key, .string r2.val, .int .i64 r2.dest, .int .i64 r2.n, .slice a2 r2.keep.length c2, .int .i64 r2.tear] 27 (0, 0))).heap[w.heap.size]? = some (.cells #[.int .i64 r2.kind, .int .i64 r2.node, .int .i64 r2.sess, .int .i64 r2.req, .int .i64 r2.ckind, .string r2.key, .string r2.val, .int .i64 r2.dest, .int .i64 r2.n, .slice a1 kp.length c1, .int .i64 r2.tear] 27 (0, 0)) := by
      rw [Below.heap_alloc _ _ _ (by simp)]
      exact heap_alloc_new w _
    have hl1 : kp.length = r2.keep.length := e11
    replace e11 := Keep.mk e11
    clear hh hl1
    go_enter Tryd.func10, Tryd.ntmps10
    go_wp2
    generalize (w.alloc (.cells #[.int .i64 r2.kind, .int .i64 r2.node, .int .i64 r2.sess, .int .i64 r2.req, .int .i64 r2.ckind, .string r2.key, .string r2.val, .int .i64 r2.dest, .int .i64 r2.n, .slice a1 kp.length c1, .int .i64 r2.tear] 27 (0, 0))).alloc (.cells #[.int .i64 r2.kind, .int .i64 r2.node, .int .i64 r2.sess, .int .i64 r2.req, .int .i64 r2.ckind, .string r2.key, .string r2.val, .int .i64 r2.dest, .int .i64 r2.n, .slice a2 r2.keep.length c2, .int .i64 r2.tear] 27 (0, 0)) = W0 at *
    have p1 : W0.cell? ⟨w.heap.size, 9, none⟩ = some (.slice a1 kp.length c1) := by rw [Lib.cell_of_heap hc1]; rfl
    have p2 : W0.cell? ⟨w.heap.size + 1, 9, none⟩ = some (.slice a2 r2.keep.length c2) := by rw [Lib.cell_of_heap hc2]; rfl
    replace hB0 := Keep.mk hB0
    clear hc1 hc2
    go_loopw [58] (fun v58 wr => ∃ (k n : Nat), v58 = .int .i64 (k : Int) ∧ k ≤ kp.length ∧ kp.take k = r2.keep.take k ∧ wr = W0.drewN n) (fun v _ => kp.length - (intOf v).toNat)
    case atStart =>
      exact ⟨0, 0, rfl, Nat.zero_le _, rfl, rfl⟩
    case round =>
      obtain ⟨k, n, rfl, hk, ht, rfl⟩ := hrel
      by_cases hp : k < kp.length
      · have hl := e11.out
        obtain ⟨g1, rfl, hg1, hq1⟩ := own_bools o1.out (by omega)
        obtain ⟨g2, rfl, hg2, hq2⟩ := own_bools o2.out (by omega)
        obtain ⟨x1, hx1⟩ : ∃ x, kp[k]? = some x := ⟨kp[k], List.getElem?_eq_getElem hp⟩
        obtain ⟨x2, hx2⟩ : ∃ x, r2.keep[k]? = some x := ⟨r2.keep[k]'(by omega), List.getElem?_eq_getElem (by omega)⟩
        have y1 : W0.cell? ⟨g1, k, none⟩ = some (.bool x1) := by rw [hB0.out.cell (p := ⟨g1, k, none⟩) hg1]; exact hq1 k x1 hx1
        have y2 : W0.cell? ⟨g2, k, none⟩ = some (.bool x2) := by rw [hB0.out.cell (p := ⟨g2, k, none⟩) hg2]; exact hq2 k x2 hx2
        have hp2 : k < r2.keep.length := by omega
        clear hq1 hq2 hl
        replace ht := Keep.mk ht
        replace hx1 := Keep.mk hx1
        replace hx2 := Keep.mk hx2
        have hmx := own_max o1.out
        cases x1 <;> cases x2
        · have ht' : kp.take (k + 1) = r2.keep.take (k + 1) := by
            rw [List.take_add_one, List.take_add_one, ht.out, hx1.out, hx2.out]
          replace ht' := Keep.mk ht'
          go_wp2
          go_quiet ((fail))
          go_wp2
          go_roundw
          case rel =>
            have R : ((k : Int) + 1 = ((k + 1 : Nat) : Int)) ∧ k + 1 ≤ kp.length ∧ kp.take (k + 1) = r2.keep.take (k + 1) := ⟨by omega, by omega, ht'.out⟩
            first
              | exact ⟨k + 1, _, by rw [← R.1], R.2.1, R.2.2, rfl⟩
              | ((repeat apply Exists.intro); exact ⟨⟨k + 1, _, by rw [← R.1], R.2.1, R.2.2, rfl⟩, rfl⟩)
          case measure =>
            simp [intOf]
            omega
        · go_wp2
          go_quiet ((fail))
          go_wp2
          go_ret
          have hne2 : (kp == r2.keep) = false := by
            rw [beq_eq_false_iff_ne]
            intro e
            have h1 := hx1.out
            rw [e, hx2.out] at h1
            cases h1
          exact ⟨by rw [hs.out, hne2]; rfl, by have := hB0.out; exact ⟨this.os, this.tape, this.output, this.size, this.block⟩⟩
        · go_wp2
          go_quiet ((fail))
          go_wp2
          go_ret
          have hne2 : (kp == r2.keep) = false := by
            rw [beq_eq_false_iff_ne]
            intro e
            have h1 := hx1.out
            rw [e, hx2.out] at h1
            cases h1
          exact ⟨by rw [hs.out, hne2]; rfl, by have := hB0.out; exact ⟨this.os, this.tape, this.output, this.size, this.block⟩⟩
        · have ht' : kp.take (k + 1) = r2.keep.take (k + 1) := by
            rw [List.take_add_one, List.take_add_one, ht.out, hx1.out, hx2.out]
          replace ht' := Keep.mk ht'
          go_wp2
          go_quiet ((fail))
          go_wp2
          go_roundw
          case rel =>
            have R : ((k : Int) + 1 = ((k + 1 : Nat) : Int)) ∧ k + 1 ≤ kp.length ∧ kp.take (k + 1) = r2.keep.take (k + 1) := ⟨by omega, by omega, ht'.out⟩
            first
              | exact ⟨k + 1, _, by rw [← R.1], R.2.1, R.2.2, rfl⟩
              | ((repeat apply Exists.intro); exact ⟨⟨k + 1, _, by rw [← R.1], R.2.1, R.2.2, rfl⟩, rfl⟩)
          case measure =>
            simp [intOf]
            omega
      · have hk : k = kp.length := by omega
        go_wp2
        go_ret
        have heq : (kp == r2.keep) = true := by
          rw [beq_iff_eq]
          have h1 := ht
          rw [hk, List.take_length, List.take_of_length_le (by have := e11.out; omega)] at h1
          exact h1
        exact ⟨by rw [hs.out, heq]; rfl, by have := hB0.out; exact ⟨this.os, this.tape, this.output, this.size, this.block⟩⟩
end Go.Proofs.YtcdpepaffpboeaaDoor
