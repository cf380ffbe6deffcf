/- ScriptLines: the law, walked. -/
import Derived.Test.YtcdpepaffpboeaaDoorScLinesP
namespace Go.Proofs.YtcdpepaffpboeaaDoor
open Go.RowKit Go.Shelf
theorem fitS_iff {r : StepR} (h : fitS r = true) : r.key.size ≤ 60 ∧ r.val.size ≤ 60 ∧ r.keep.length ≤ 60 := by
  unfold fitS at h
  simp only [Bool.and_eq_true, decide_eq_true_eq] at h
  exact ⟨h.1.1, h.1.2, h.2⟩
theorem bitD_length (l : List Bool) : (bitD l).length ≤ l.length + 1 := by
  unfold bitD
  split
  · exact Nat.le_add_left 1 _
  · rw [bitL, List.length_map]; omega
theorem line_length {r : StepR} {l : List UInt8} (hf : Fits64 r) (hfit : fitS r = true) (h : lineS r = some l) : l.length ≤ 1000 := by
  obtain ⟨f1, f2, f3⟩ := fitS_iff hfit
  have l1 := spN_length r.node hf.node.1 hf.node.2
  have l2 := spN_length r.sess hf.sess.1 hf.sess.2
  have l3 := spN_length r.req hf.req.1 hf.req.2
  have l4 := spN_length r.dest hf.dest.1 hf.dest.2
  have l5 := spN_length r.n hf.n.1 hf.n.2
  have l6 := spN_length r.tear hf.tear.1 hf.tear.2
  have l7 := hexT_length r.key
  have l8 := hexT_length r.val
  have l9 := bitD_length r.keep
  unfold lineS at h
  split at h
  · split at h
    · have hc : (callW.getD r.ckind.toNat []).length ≤ 6 := by
        obtain ⟨ck, hck⟩ : ∃ ck : Nat, r.ckind = (ck : Int) := ⟨r.ckind.toNat, by omega⟩
        rw [hck, Int.toNat_natCast]
        rcases (by omega : ck = 1 ∨ ck = 2 ∨ ck = 3 ∨ ck = 4 ∨ ck = 5 ∨ ck = 6) with rfl | rfl | rfl | rfl | rfl | rfl <;> decide
      cases h
      simp only [List.length_append, List.length_cons, List.length_nil]
      omega
    · cases h
  all_goals first
    | (cases h; simp only [List.length_append, List.length_cons, List.length_nil]; omega)
    | cases h
set_option maxHeartbeats 16000000 in
set_option maxRecDepth 1000000 in
theorem Tryd.Lines_walk (r : StepR) (v : Value) (w : World) (hS : SV w) (hv : StepIn w r v) (hf : Fits64 r)
    (hH : ∀ w, SV w → Calls Tryd.prog 8 #[] w fun e w' => e = .returned (.bool true) ∧ Below w.heap.size w w') :
    Calls Tryd.prog 7 #[v] w fun e w' => e = .returned (.bool true) ∧ Below w.heap.size w w' := by
  have hin := hv
  obtain ⟨a, c, rfl, own⟩ := hv
  clear own
  have b1 : Below w.heap.size w (w.alloc (.cells #[.int .i64 r.kind, .int .i64 r.node, .int .i64 r.sess, .int .i64 r.req, .int .i64 r.ckind, .string r.key, .string r.val, .int .i64 r.dest, .int .i64 r.n, .slice a r.keep.length c, .int .i64 r.tear] 27 (0, 0))) := (Below.refl _ w).alloc (Nat.le_refl _) _
  have hq1 := heap_alloc_new w (.cells #[.int .i64 r.kind, .int .i64 r.node, .int .i64 r.sess, .int .i64 r.req, .int .i64 r.ckind, .string r.key, .string r.val, .int .i64 r.dest, .int .i64 r.n, .slice a r.keep.length c, .int .i64 r.tear] 27 (0, 0))
  simp only [StepR.cells] at hin ⊢
  replace b1 := Keep.mk b1
  replace hq1 := Keep.mk hq1
  have S1 := hS.below b1.out
  have hi1 := Keep.mk (hin.below b1.out)
  clear hS hin
  go_enter Tryd.func7, Tryd.ntmps7
  go_upto_region 1 with fail
  generalize w.alloc (.cells #[.int .i64 r.kind, .int .i64 r.node, .int .i64 r.sess, .int .i64 r.req, .int .i64 r.ckind, .string r.key, .string r.val, .int .i64 r.dest, .int .i64 r.n, .slice a r.keep.length c, .int .i64 r.tear] 27 (0, 0)) = w1 at *
  generalize hp : w.heap.size = p at *
  have hH1 := Keep.mk (hH w1 S1)
  clear hH
  go_wp2_with (go_at_call 8; refine hH1.out.mono ?_)
  first | rintro e w2 rfl b2 | rintro e w2 ⟨rfl, b2⟩
  have S2 := S1.below b2
  have hB2 := Keep.mk (b1.out.trans (b2.mono (by have := b1.out.size; omega)))
  have hq2 := Keep.mk ((b2.block p (lt_of_block hq1.out)).trans hq1.out)
  have hi2 := Keep.mk (hi1.out.below b2)
  clear b1 b2 hq1 hi1 S1 hH1
  have hqc : ∀ j, w2.cell? ⟨p, j, none⟩ = #[Value.int .i64 r.kind, .int .i64 r.node, .int .i64 r.sess, .int .i64 r.req, .int .i64 r.ckind, .string r.key, .string r.val, .int .i64 r.dest, .int .i64 r.n, .slice a r.keep.length c, .int .i64 r.tear][j]? := fun j => Lib.cell_of_heap hq2.out j
  have hF := Keep.mk (Tryd.fit_walk r _ w2 hi2.out)
  replace S2 := Keep.mk S2
  go_wp2_with (go_at_call 16; refine hF.out.mono ?_)
  first | rintro e w3 rfl b3 | rintro e w3 ⟨rfl, b3⟩
  have S3 := S2.out.below b3
  have hB3 := Keep.mk (hB2.out.trans (b3.mono (by have := hB2.out.size; omega)))
  have hq3 := Keep.mk ((b3.block p (lt_of_block hq2.out)).trans hq2.out)
  have hi3 := Keep.mk (hi2.out.below b3)
  clear hqc hF S2 hB2 hq2 hi2 b3
  cases hfit : fitS r
  · go_wp2
    go_ret
    exact ⟨rfl, hp ▸ hB3.out⟩
  · obtain ⟨f1, f2, f3⟩ := fitS_iff hfit
    have hlim : Lim r := ⟨hf, by omega, by omega, by omega⟩
    have hqc : ∀ j, w3.cell? ⟨p, j, none⟩ = #[Value.int .i64 r.kind, .int .i64 r.node, .int .i64 r.sess, .int .i64 r.req, .int .i64 r.ckind, .string r.key, .string r.val, .int .i64 r.dest, .int .i64 r.n, .slice a r.keep.length c, .int .i64 r.tear][j]? := fun j => Lib.cell_of_heap hq3.out j
    have hL := Keep.mk (Tryd.line_walk r _ w3 S3.toSVars hi3.out hlim.big)
    replace S3 := Keep.mk S3
    replace hlim := Keep.mk hlim
    clear f1 f2 f3
    go_wp2_with (go_at_call 11; refine hL.out.mono ?_)
    first | rintro e w4 rfl b4 | rintro e w4 ⟨rfl, b4⟩
    have S4 := S3.out.below b4
    have hB4 := Keep.mk (hB3.out.trans (b4.mono (by have := hB3.out.size; omega)))
    have hq4 := Keep.mk ((b4.block p (lt_of_block hq3.out)).trans hq3.out)
    have hi4 := Keep.mk (hi3.out.below b4)
    clear hqc hL S3 hB3 hq3 hi3 b4
    have hqc : ∀ j, w4.cell? ⟨p, j, none⟩ = #[Value.int .i64 r.kind, .int .i64 r.node, .int .i64 r.sess, .int .i64 r.req, .int .i64 r.ckind, .string r.key, .string r.val, .int .i64 r.dest, .int .i64 r.n, .slice a r.keep.length c, .int .i64 r.tear][j]? := fun j => Lib.cell_of_heap hq4.out j
    have hL := Keep.mk (Tryd.sline_walk r _ w4 S4.toSVars hi4.out hlim.out)
    replace S4 := Keep.mk S4
    go_wp2_with (go_at_call 19; refine hL.out.mono ?_)
    first | rintro e w5 rfl b5 | rintro e w5 ⟨rfl, b5⟩
    have S5 := S4.out.below b5
    have hB5 := Keep.mk (hB4.out.trans (b5.mono (by have := hB4.out.size; omega)))
    have hq5 := Keep.mk ((b5.block p (lt_of_block hq4.out)).trans hq4.out)
    have hi5 := Keep.mk (hi4.out.below b5)
    clear hqc hL S4 hB4 hq4 hi4 b5
    cases hl : lineS r with
    | none =>
      simp only [Option.getD_none, Option.isSome_none]
      go_wp2
      go_ret
      exact ⟨rfl, hp ▸ hB5.out⟩
    | some l =>
      simp only [Option.getD_some, Option.isSome_some]
      have hback := lines_back hf hl
      have hlen := line_length hf hfit hl
      have hW := Keep.mk (Tryd.Step_walk (mkB l) w5 S5 (by show l.length ≤ _; omega))
      rw [hback] at hW
      replace hback := Keep.mk hback
      replace hl := Keep.mk hl
      replace S5 := Keep.mk S5
      clear hlen
      go_wp2_with (go_at_call 9; refine hW.out.mono ?_)
      generalize ho : onlyS r = s at *
      replace ho := Keep.mk ho
      first | rintro e w6 ⟨v6, c6, rfl, hc6, hat6, b6⟩
      subst hc6
      have hi6 := Keep.mk hat6.toIn
      obtain ⟨a6, l6, rfl, own6⟩ := hat6.toIn
      clear own6 hat6
      simp only [Option.getD_some, StepR.cells, Option.isSome_some] at hi6 ⊢
      have hB6 := Keep.mk (hB5.out.trans (b6.mono (by have := hB5.out.size; omega)))
      have hq6 := Keep.mk ((b6.block p (lt_of_block hq5.out)).trans hq5.out)
      have hj6 := Keep.mk (hi5.out.below b6)
      clear hW S5 hB5 hq5 hi5 b6
      go_upto_region 12 with fail
      have hr7 := heap_alloc_new w6 (.cells #[Value.int .i64 s.kind, .int .i64 s.node, .int .i64 s.sess, .int .i64 s.req, .int .i64 s.ckind, .string s.key, .string s.val, .int .i64 s.dest, .int .i64 s.n, .slice a6 s.keep.length l6, .int .i64 s.tear] 27 (0, 0))
      have b7 : Below w6.heap.size w6 (w6.alloc (.cells #[Value.int .i64 s.kind, .int .i64 s.node, .int .i64 s.sess, .int .i64 s.req, .int .i64 s.ckind, .string s.key, .string s.val, .int .i64 s.dest, .int .i64 s.n, .slice a6 s.keep.length l6, .int .i64 s.tear] 27 (0, 0))) := (Below.refl _ w6).alloc (Nat.le_refl _) _
      have hi7 := hi6.out.below b7
      have hj7 := hj6.out.below b7
      have hB7 := Keep.mk (hB6.out.trans (b7.mono (by have := hB6.out.size; omega)))
      have hq7 := (b7.block p (lt_of_block hq6.out)).trans hq6.out
      generalize w6.alloc (.cells #[Value.int .i64 s.kind, .int .i64 s.node, .int .i64 s.sess, .int .i64 s.req, .int .i64 s.ckind, .string s.key, .string s.val, .int .i64 s.dest, .int .i64 s.n, .slice a6 s.keep.length l6, .int .i64 s.tear] 27 (0, 0)) = w7 at *
      generalize w6.heap.size = q at *
      clear hi6 hj6 hB6 hq6 b7
      have c7 : ∀ j, w7.cell? ⟨q, j, none⟩ = #[Value.int .i64 s.kind, .int .i64 s.node, .int .i64 s.sess, .int .i64 s.req, .int .i64 s.ckind, .string s.key, .string s.val, .int .i64 s.dest, .int .i64 s.n, .slice a6 s.keep.length l6, .int .i64 s.tear][j]? := fun j => Lib.cell_of_heap hr7 j
      have d7 : ∀ j, w7.cell? ⟨p, j, none⟩ = #[Value.int .i64 r.kind, .int .i64 r.node, .int .i64 r.sess, .int .i64 r.req, .int .i64 r.ckind, .string r.key, .string r.val, .int .i64 r.dest, .int .i64 r.n, .slice a r.keep.length c, .int .i64 r.tear][j]? := fun j => Lib.cell_of_heap hq7 j
      have hltq := lt_of_block hr7
      have hltp := lt_of_block hq7
      have hnext : ∀ w' w'', Below w7.heap.size w7 w' → Below w'.heap.size w' w'' → (Below w7.heap.size w7 w'' ∧ (∀ j, w''.cell? ⟨q, j, none⟩ = #[Value.int .i64 s.kind, .int .i64 s.node, .int .i64 s.sess, .int .i64 s.req, .int .i64 s.ckind, .string s.key, .string s.val, .int .i64 s.dest, .int .i64 s.n, .slice a6 s.keep.length l6, .int .i64 s.tear][j]?) ∧ ∀ j, w''.cell? ⟨p, j, none⟩ = #[Value.int .i64 r.kind, .int .i64 r.node, .int .i64 r.sess, .int .i64 r.req, .int .i64 r.ckind, .string r.key, .string r.val, .int .i64 r.dest, .int .i64 r.n, .slice a r.keep.length c, .int .i64 r.tear][j]?) := fun w' w'' h1 h2 => by
        have hb := below_next h1 h2
        exact ⟨hb, fun j => Lib.cell_of_heap ((hb.block q hltq).trans hr7) j, fun j => Lib.cell_of_heap ((hb.block p hltp).trans hq7) j⟩
      have hb00 : Below w7.heap.size w7 w7.drew := (Below.refl _ _).drew
      replace hi7 := Keep.mk hi7
      replace hj7 := Keep.mk hj7
      replace hr7 := Keep.mk hr7
      replace hq7 := Keep.mk hq7
      have hss := Keep.mk (sameS_self s)
      go_region_held3 (fun w' => Below w7.heap.size w7 w' ∧ (∀ j, w'.cell? ⟨q, j, none⟩ = #[Value.int .i64 s.kind, .int .i64 s.node, .int .i64 s.sess, .int .i64 s.req, .int .i64 s.ckind, .string s.key, .string s.val, .int .i64 s.dest, .int .i64 s.n, .slice a6 s.keep.length l6, .int .i64 s.tear][j]?) ∧ ∀ j, w'.cell? ⟨p, j, none⟩ = #[Value.int .i64 r.kind, .int .i64 r.node, .int .i64 r.sess, .int .i64 r.req, .int .i64 r.ckind, .string r.key, .string r.val, .int .i64 r.dest, .int .i64 r.n, .slice a r.keep.length c, .int .i64 r.tear][j]?) (first | exact ⟨hb00, c7, d7⟩ | assumption | go_keep)
        (first | (go_at_call 12; refine (Tryd.Only_walk r _ _ (hj7.out.below (by first | exact Below.refl _ _ | assumption | exact hb00 | exact And.left (by assumption)))).mono ?_; rw [ho.out]; rintro e w'' ⟨v', rfl, hv', hb⟩; have q := hnext _ _ (by first | exact Below.refl _ _ | assumption | exact hb00 | exact And.left (by assumption)) hb)
               | (go_at_call 10; refine (Tryd.SameIn_walk s s _ _ _ ?_ ?_).mono ?_; exact (hi7.out.below (by first | exact Below.refl _ _ | assumption | exact hb00 | exact And.left (by assumption))); (first | assumption | exact StepIn.below (by assumption) (by go_grown)); rintro e w'' ⟨rfl, hb⟩; rw [hss.out]; have q := hnext _ _ (by first | exact Below.refl _ _ | assumption | exact hb00 | exact And.left (by assumption)) hb))
      rename_i hb _ hheld
      have hfin := hheld.1
      clear hheld c7 d7 hnext hb00 hb
      go_wp2
      go_ret
      exact ⟨rfl, hp ▸ (hB7.out.trans (hfin.mono (by have := hB7.out.size; omega)))⟩
end Go.Proofs.YtcdpepaffpboeaaDoor
