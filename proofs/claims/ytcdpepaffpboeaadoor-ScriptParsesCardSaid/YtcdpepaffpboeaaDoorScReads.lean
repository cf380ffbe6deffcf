/- ScriptReads: the law, walked. -/
import Derived.Test.YtcdpepaffpboeaaDoorScReadsP
import Derived.Test.YtcdpepaffpboeaaDoorScForms
namespace Go.Proofs.YtcdpepaffpboeaaDoor
open Go.RowKit Go.Shelf
theorem StepAt.below {w w' : World} {base : Nat} {r : StepR} {v : Value} (h : StepAt w base r v) (hb : Below w.heap.size w w') : StepAt w' base r v := by
  obtain ⟨kv, rfl, own⟩ := h
  exact ⟨kv, rfl, ownsRow_below own hb⟩
theorem mkB_self (s : ByteArray) : mkB s.data.toList = s := by
  obtain ⟨⟨l⟩⟩ := s
  rfl
theorem Says.lim {r : StepR} {m : Nat} (h : Says r m) (hm : m ≤ 2000) : Lim r := ⟨h.toFits64, Nat.le_trans h.key hm, Nat.le_trans h.val hm, Nat.le_trans h.keep hm⟩
set_option maxHeartbeats 8000000 in
set_option maxRecDepth 1000000 in
theorem Tryd.Reads_walk (s : ByteArray) (w : World) (hS : SV w)
    (hH : Calls Tryd.prog 8 #[] w fun e w' => e = .returned (.bool true) ∧ Below w.heap.size w w') :
    Calls Tryd.prog 3 #[.string s] w fun e w' => e = .returned (.bool true) ∧ Below w.heap.size w w' := by
  by_cases hs : s.size ≤ 500
  · have hs' : ¬ (500 : Int) < (s.size : Int) := by omega
    cases hst : stepS s with
    | none =>
      go_enter Tryd.func3, Tryd.ntmps3
      go_wp2_with (go_at_call 8; refine hH.mono ?_)
      rintro e w1 rfl b1
      have S1 := hS.below b1
      have hW := Keep.mk (Tryd.Step_walk s w1 S1 (by omega))
      rw [hst] at hW
      replace hst := Keep.mk hst
      replace b1 := Keep.mk b1
      clear hH hS
      go_wp2_with (go_at_call 9; refine hW.out.mono ?_)
      rintro e w2 ⟨v2, c2, rfl, hc2, ⟨k2, rfl, hk2⟩, b2⟩
      subst hc2
      obtain ⟨a2, l2, rfl⟩ := own_slice hk2
      have hB2 := Keep.mk (below_next b1.out b2)
      clear b1 b2 S1 hW
      simp only [Option.getD_none, StepR.zero, StepR.cells, Option.isSome_none]
      go_upto_region 7 with fail
      have hq3 := heap_alloc_new w2 (.cells #[.int .i64 0, .int .i64 0, .int .i64 0, .int .i64 0, .int .i64 0, .string ⟨#[]⟩, .string ⟨#[]⟩, .int .i64 0, .int .i64 0, .slice a2 0 l2, .int .i64 0] 27 (0, 0))
      have b3 : Below w2.heap.size w2 (w2.alloc (.cells #[.int .i64 0, .int .i64 0, .int .i64 0, .int .i64 0, .int .i64 0, .string ⟨#[]⟩, .string ⟨#[]⟩, .int .i64 0, .int .i64 0, .slice a2 0 l2, .int .i64 0] 27 (0, 0))) := (Below.refl _ w2).alloc (Nat.le_refl _) _
      have hk3 := ownsRow_below hk2 b3
      have hB3 := Keep.mk (below_next hB2.out b3)
      generalize w2.alloc (.cells #[.int .i64 0, .int .i64 0, .int .i64 0, .int .i64 0, .int .i64 0, .string ⟨#[]⟩, .string ⟨#[]⟩, .int .i64 0, .int .i64 0, .slice a2 0 l2, .int .i64 0] 27 (0, 0)) = w3 at *
      generalize w2.heap.size = q at *
      have hqc : ∀ j, w3.cell? ⟨q, j, none⟩ = _ := fun j => Lib.cell_of_heap hq3 j
      have hSm := Keep.mk (Tryd.Same_walk StepR.zero StepR.zero _ _ w3 w1.heap.size 0 ⟨_, rfl, hk3⟩ ⟨.slice none 0 0, rfl, World.ownsRow_nil _ _ _ _⟩)
      clear hk3 hk2 b3 hB2 hq3
      go_wp2_with (go_at_call 10; refine hSm.out.mono ?_)
      rintro e w4 ⟨rfl, b4⟩
      rw [sameS_self StepR.zero]
      have hB4 := below_next hB3.out b4
      clear hqc hSm hB3 b4
      go_wp2
      go_ret
      exact ⟨rfl, hB4⟩
    | some r =>
      have hrb := Keep.mk (reads_back hst)
      go_enter Tryd.func3, Tryd.ntmps3
      go_wp2_with (go_at_call 8; refine hH.mono ?_)
      rintro e w1 rfl b1
      have S1 := hS.below b1
      have hW := Keep.mk (Tryd.Step_walk s w1 S1 (by omega))
      rw [hst] at hW
      replace hst := Keep.mk hst
      replace b1 := Keep.mk b1
      clear hH hS
      go_wp2_with (go_at_call 9; refine hW.out.mono ?_)
      rintro e w2 ⟨v2, c2, rfl, hc2, ⟨k2, rfl, hk2⟩, b2⟩
      subst hc2
      obtain ⟨a2, l2, rfl⟩ := own_slice hk2
      have S2 := S1.below b2
      have hB2 := Keep.mk (below_next b1.out b2)
      clear b1 b2 S1 hW
      simp only [Option.getD_some, StepR.cells, Option.isSome_some] at hk2 ⊢
      go_upto_region 8 with fail
      have hq3 := heap_alloc_new w2 (.cells #[.int .i64 r.kind, .int .i64 r.node, .int .i64 r.sess, .int .i64 r.req, .int .i64 r.ckind, .string r.key, .string r.val, .int .i64 r.dest, .int .i64 r.n, .slice a2 r.keep.length l2, .int .i64 r.tear] 27 (0, 0))
      have b3 : Below w2.heap.size w2 (w2.alloc (.cells #[.int .i64 r.kind, .int .i64 r.node, .int .i64 r.sess, .int .i64 r.req, .int .i64 r.ckind, .string r.key, .string r.val, .int .i64 r.dest, .int .i64 r.n, .slice a2 r.keep.length l2, .int .i64 r.tear] 27 (0, 0))) := (Below.refl _ w2).alloc (Nat.le_refl _) _
      have hk3 := ownsRow_below hk2 b3
      have hB3 := Keep.mk (below_next hB2.out b3)
      have S3 := S2.below b3
      generalize w2.alloc (.cells #[.int .i64 r.kind, .int .i64 r.node, .int .i64 r.sess, .int .i64 r.req, .int .i64 r.ckind, .string r.key, .string r.val, .int .i64 r.dest, .int .i64 r.n, .slice a2 r.keep.length l2, .int .i64 r.tear] 27 (0, 0)) = w3 at *
      generalize w2.heap.size = q at *
      have hqc : ∀ j, w3.cell? ⟨q, j, none⟩ = _ := fun j => Lib.cell_of_heap hq3 j
      have hat : StepAt w3 w1.heap.size r _ := ⟨_, rfl, hk3⟩
      have hL := Keep.mk (Tryd.line_walk r _ w3 S3.toSVars hat.toIn (hrb.out.2.lim (by omega)).big)
      rw [hrb.out.1] at hL
      simp only [Option.getD_some, Option.isSome_some, mkB_self] at hL
      simp only [StepR.cells] at hL
      replace hq3 := Keep.mk hq3
      replace hat := Keep.mk hat
      clear hk3 hk2 b3 hB2 S2 S3
      go_wp2_with (go_at_call 11; refine hL.out.mono ?_)
      rintro e w4 ⟨rfl, b4⟩
      have hq4 := (b4.block q (lt_of_block hq3.out)).trans hq3.out
      have hB4 := Keep.mk (below_next hB3.out b4)
      have hat4 := Keep.mk (hat.out.below b4)
      clear hqc hq3 hat hL hB3 b4
      have hqc : ∀ j, w4.cell? ⟨q, j, none⟩ = _ := fun j => Lib.cell_of_heap hq4 j
      have hlt := lt_of_block hq4
      have hnext : ∀ w' w'', Below w4.heap.size w4 w' → Below w'.heap.size w' w'' → (Below w4.heap.size w4 w'' ∧ ∀ j, w''.cell? ⟨q, j, none⟩ = #[Value.int .i64 r.kind, .int .i64 r.node, .int .i64 r.sess, .int .i64 r.req, .int .i64 r.ckind, .string r.key, .string r.val, .int .i64 r.dest, .int .i64 r.n, .slice a2 r.keep.length l2, .int .i64 r.tear][j]?) := fun w' w'' h1 h2 => by
        have hb := below_next h1 h2
        exact ⟨hb, fun j => Lib.cell_of_heap ((hb.block q hlt).trans hq4) j⟩
      have hon : onlyS r = r := hrb.out.2.only
      replace hon := Keep.mk hon
      have hb00 : Below w4.heap.size w4 w4.drew := (Below.refl _ _).drew
      replace hq4 := Keep.mk hq4
      go_upto_region 9 with fail
      go_region_held3 (fun w' => Below w4.heap.size w4 w' ∧ ∀ j, w'.cell? ⟨q, j, none⟩ = #[Value.int .i64 r.kind, .int .i64 r.node, .int .i64 r.sess, .int .i64 r.req, .int .i64 r.ckind, .string r.key, .string r.val, .int .i64 r.dest, .int .i64 r.n, .slice a2 r.keep.length l2, .int .i64 r.tear][j]?) (first | exact ⟨hb00, hqc⟩ | assumption | go_keep)
        (first | (go_at_call 12; refine (Tryd.Only_walk r _ _ (hat4.out.toIn.below (by first | exact Below.refl _ _ | assumption | exact hb00 | exact And.left (by assumption)))).mono ?_; rintro e w'' ⟨v', rfl, hv', hb⟩; have q := hnext _ _ (by first | exact Below.refl _ _ | assumption | exact hb00 | exact And.left (by assumption)) hb)
               | (go_at_call 10; refine (Tryd.SameIn_walk r (onlyS r) _ _ _ ?_ ?_).mono ?_; exact (hat4.out.toIn.below (by first | exact Below.refl _ _ | assumption | exact hb00 | exact And.left (by assumption))); (first | assumption | exact StepIn.below (by assumption) (by go_grown)); rintro e w'' ⟨rfl, hb⟩; rw [hon.out, sameS_self]; have q := hnext _ _ (by first | exact Below.refl _ _ | assumption | exact hb00 | exact And.left (by assumption)) hb))
      rename_i hb _ hheld
      have hfin := hheld.1
      clear hheld hqc hnext hb00 hb
      go_wp2
      go_ret
      exact ⟨rfl, below_next hB4.out hfin⟩
  · have hs' : (500 : Int) < (s.size : Int) := by omega
    go_enter Tryd.func3, Tryd.ntmps3
    go_wp2_with (go_at_call 8; refine hH.mono ?_)
    rintro e w1 ⟨rfl, b1⟩
    replace b1 := Keep.mk b1
    clear hH hS
    go_wp2
    go_ret
    exact ⟨rfl, b1.out⟩
end Go.Proofs.YtcdpepaffpboeaaDoor
