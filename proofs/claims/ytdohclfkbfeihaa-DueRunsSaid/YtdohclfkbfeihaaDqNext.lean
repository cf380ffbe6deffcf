/- Next, walked. -/
import Derived.Test.YtdohclfkbfeihaaDqDrop
namespace Go.Proofs.Ytdohclfkbfeihaa
open Go.RowKit Go.Maps
/-- All but block p is as it was. -/
structure Aside (p : Nat) (w w' : World) : Prop where
  os : w'.os = w.os
  tape : w'.tape = w.tape
  output : w'.output = w.output
  size : w.heap.size ≤ w'.heap.size
  block : ∀ k, k < w.heap.size → k ≠ p → w'.heap[k]? = w.heap[k]?
theorem Aside.refl (p : Nat) (w : World) : Aside p w w := ⟨rfl, rfl, rfl, Nat.le_refl _, fun _ _ _ => rfl⟩
theorem Aside.trans {p : Nat} {a b c : World} (h : Aside p a b) (k : Aside p b c) : Aside p a c :=
  ⟨k.os.trans h.os, k.tape.trans h.tape, k.output.trans h.output, Nat.le_trans h.size k.size, fun i hi h1 => (k.block i (Nat.lt_of_lt_of_le hi h.size) h1).trans (h.block i hi h1)⟩
theorem Aside.setCell {p o : Nat} {a w : World} (h : Aside p a w) (u : Value) : Aside p a (w.setCell ⟨p, o, none⟩ u) :=
  h.trans ⟨rfl, rfl, rfl, by simp [World.setCell], fun k _ hk => heap_setCell_other w ⟨p, o, none⟩ k u hk⟩
theorem Aside.alloc {p : Nat} {a w : World} (h : Aside p a w) (o : Obj) : Aside p a (w.alloc o) :=
  h.trans ⟨rfl, rfl, rfl, by simp, fun k hk _ => Below.heap_alloc _ _ _ hk⟩
theorem Aside.drew {p : Nat} {a w : World} (h : Aside p a w) : Aside p a w.drew := ⟨h.os, h.tape, h.output, h.size, h.block⟩
theorem Turn.aside {l m p : Nat} {v v' : Value} {w w3 w4 : World} (h : Turn l m v v' w w3) (k : Aside p w3 w4) (hp : w.heap.size ≤ p) : Turn l m v v' w w4 :=
  ⟨k.os.trans h.os, k.tape.trans h.tape, k.output.trans h.output, Nat.le_trans h.size k.size, fun i hi h1 h2 h3 => (k.block i (Nat.lt_of_lt_of_le hi h.size) (by omega)).trans (h.block i hi h1 h2 h3), h.own⟩
theorem LAt.same {w w' : World} {base l m : Nat} {v : Value} {es : List Ent} (h : LAt w base l m v es) (hl : w'.heap[l]? = w.heap[l]?) (hm : w'.heap[m]? = w.heap[m]?) (hv : ∀ g, v.ownBlock = some g → w'.heap[g]? = w.heap[g]?) : LAt w' base l m v es := by
  refine ⟨by rw [hl]; exact h.cell, ⟨h.row.1, ?_⟩, ?_, h.wf, h.nd⟩
  · rcases h.row.2 with r | ⟨g, c, cur, r, hb, hg, rest⟩
    · exact .inl r
    · exact .inr ⟨g, c, cur, r, hb, by rw [hv g (by rw [r]; rfl)]; exact hg, rest⟩
  · obtain ⟨D, ⟨es', ck, hb', rest⟩, hI⟩ := h.map
    exact ⟨D, ⟨es', ck, by rw [hm]; exact hb', rest⟩, hI⟩
theorem LAt.lt {w : World} {base l m : Nat} {v : Value} {es : List Ent} (h : LAt w base l m v es) : l < w.heap.size ∧ m < w.heap.size ∧ ∀ g, v.ownBlock = some g → g < w.heap.size := by
  refine ⟨lt_of_block h.cell, ?_, fun g hg => ?_⟩
  · obtain ⟨D, ⟨es', ck, hb', _⟩, _⟩ := h.map
    exact lt_of_block hb'
  · rcases h.row.2 with ⟨r, _⟩ | ⟨g, c, cur, r, _, hg', _⟩
    · rw [r] at hg; cases hg
    · rw [r] at hg; cases hg; exact lt_of_block hg'
theorem QAt.aside {w w' : World} {base q l m p : Nat} {v : Value} {es : List Ent} (h : QAt w base q l m v es) (k : Aside p w w') (hq : q ≠ p) (hl : l ≠ p) (hm : m ≠ p) (hv : v.ownBlock ≠ some p) : QAt w' base q l m v es := by
  obtain ⟨h1, h2, h3⟩ := h.heap.at_.lt
  exact ⟨⟨h.heap.at_.same (k.block l h1 hl) (k.block m h2 hm) (fun g hg => k.block g (h3 g hg) (fun e => hv (by rw [← e]; exact hg))), h.heap.heap⟩, by rw [k.block q (lt_of_block h.cell) hq]; exact h.cell, h.bq, h.bl, h.bm⟩
/-- An entry laid into a variable. -/
def setBox (w : World) (p : Nat) (e : Ent) : World := (((w.setCell ⟨p, 0, none⟩ (.int .i64 e.t)).setCell ⟨p, 1, none⟩ (.int .i64 e.k)).setCell ⟨p, 2, none⟩ (.int .u64 e.n)).setCell ⟨p, 3, none⟩ (.int .i64 e.o)
theorem setBox_aside (w : World) (p : Nat) (e : Ent) : Aside p w (setBox w p e) := ((((Aside.refl p w).setCell _).setCell _).setCell _).setCell _
theorem setBox_same {w : World} {p : Nat} {e : Ent} {a b c d : Value} (h : w.heap[p]? = some (.cells #[a, b, c, d] 32 (0, 0))) : (setBox w p e).heap[p]? = some (.cells e.cells 32 (0, 0)) := by
  have h1 := heap_setCell_same _ _ 3 _ _ (Value.int .i64 e.o) (heap_setCell_same _ _ 2 _ _ (Value.int .u64 e.n) (heap_setCell_same _ _ 1 _ _ (Value.int .i64 e.k) (heap_setCell_same w p 0 _ _ (Value.int .i64 e.t) h)))
  exact h1
structure NextEnd (base q l m : Nat) (v : Value) (es : List Ent) (now : Int) (w : World) (x : Ending) (w' : World) : Prop where
  out : ∃ (e : Ent) (b : Bool) (v' : Value) (es' : List Ent), x = .returned (.tuple #[e.val, .bool b]) ∧ QAt w' base q l m v' es' ∧ Turn l m v v' w w' ∧ (b = true → e.t ≤ now ∧ (e :: es').Perm es ∧ ∀ z ∈ es, lt z e = false) ∧ (b = false → e = ⟨0, 0, 0, 0⟩ ∧ es' = es ∧ ∀ z ∈ es, now < z.t)
set_option maxHeartbeats 1000000 in
set_option maxRecDepth 1000000 in
theorem Try.Next_walk {w : World} {base q l m : Nat} {v : Value} {es : List Ent} (h : QAt w base q l m v es) (hsm : es.length ≤ 1000) (now : Int) :
    Calls Try.prog 11 #[.pointer (some ⟨q, 0, none⟩), .int .i64 now] w fun x w' => NextEnd base q l m v es now w x w' := by
  have hB1 : Below w.heap.size w (w.alloc (.cells #[.int .i64 0, .int .i64 0, .int .u64 0, .int .i64 0] 32 (0, 0))) := (Below.refl _ w).alloc (Nat.le_refl _) _
  have hp1 : (w.alloc (.cells #[.int .i64 0, .int .i64 0, .int .u64 0, .int .i64 0] 32 (0, 0))).heap[w.heap.size]? = some (.cells #[.int .i64 0, .int .i64 0, .int .u64 0, .int .i64 0] 32 (0, 0)) := (MapKept.heap_alloc w _).1
  have h1 := h.below hB1
  have hT1 := Turn.of_below (l := l) (m := m) (v := v) hB1
  have h0' := h
  replace h := Keep.mk h
  replace h0' := Keep.mk h0'
  replace hB1 := Keep.mk hB1
  replace hp1 := Keep.mk hp1
  replace h1 := Keep.mk h1
  replace hT1 := Keep.mk hT1
  go_enter Try.func11, Try.ntmps11
  go_upto_region 1 with fail
  clear h
  have hlen := h1.out.heap.at_.lenV
  obtain ⟨o, cap, hv⟩ := hlen
  generalize hp : w.heap.size = p at *
  generalize w.alloc (.cells #[.int .i64 0, .int .i64 0, .int .u64 0, .int .i64 0] 32 (0, 0)) = w1 at *
  have cq : w1.cell? ⟨q, 0, none⟩ = some (.pointer (some ⟨l, 0, none⟩)) := by rw [Lib.cell_of_heap h1.out.cell]; rfl
  have c0 : w1.cell? ⟨l, 0, none⟩ = some (.slice o es.length cap) := by rw [← hv, Lib.cell_of_heap h1.out.heap.at_.cell]; rfl
  have z0 : w1.cell? ⟨p, 0, none⟩ = some (.int .i64 0) := by rw [Lib.cell_of_heap hp1.out]; rfl
  have z1 : w1.cell? ⟨p, 1, none⟩ = some (.int .i64 0) := by rw [Lib.cell_of_heap hp1.out]; rfl
  have z2 : w1.cell? ⟨p, 2, none⟩ = some (.int .u64 0) := by rw [Lib.cell_of_heap hp1.out]; rfl
  have z3 : w1.cell? ⟨p, 3, none⟩ = some (.int .i64 0) := by rw [Lib.cell_of_heap hp1.out]; rfl
  have f0 := Lib.frozen_of_heap hp1.out 0
  have f1 := Lib.frozen_of_heap hp1.out 1
  have f2 := Lib.frozen_of_heap hp1.out 2
  have f3 := Lib.frozen_of_heap hp1.out 3
  replace hv := Keep.mk hv
  replace h0' := h0'.out
  have hq' := h0'.cell
  obtain ⟨hl1, hm1, hv1⟩ := h0'.heap.at_.lt
  have hq1 := lt_of_block h0'.cell
  rw [hp] at hl1 hm1 hv1 hq1
  -- nothing is due
  have hnone : (∀ z ∈ es, now < z.t) → NextEnd base q l m v es now w (.returned (.tuple #[(Ent.mk 0 0 0 0).val, .bool false])) (setBox w1 p ⟨0, 0, 0, 0⟩) := fun hz =>
    ⟨⟨0, 0, 0, 0⟩, false, v, es, rfl, h1.out.aside (setBox_aside w1 p _) (by omega) (by omega) (by omega) (fun e => by have := hv1 p e; omega), hT1.out.aside (setBox_aside w1 p _) (by omega), (fun h => by cases h), (fun _ => ⟨rfl, rfl, hz⟩)⟩
  have hboxed := setBox_same (e := ⟨0, 0, 0, 0⟩) hp1.out
  unfold setBox at hnone hboxed
  replace hnone := Keep.mk hnone
  replace hboxed := Keep.mk hboxed
  replace hv1 := Keep.mk hv1
  clear hq'
  replace h0' := Keep.mk h0'
  by_cases h0 : es.length = 0
  · have he : es = [] := List.eq_nil_of_length_eq_zero h0
    rw [h0] at c0
    have hfin := Keep.mk (hnone.out (by rw [he]; intro z hz; cases hz))
    replace he := Keep.mk he
    go_wp2
    generalize hW : World.setCell _ _ _ = W at *
    have y0 : W.cell? ⟨p, 0, none⟩ = some (.int .i64 0) := by rw [Lib.cell_of_heap hboxed.out]; rfl
    have y1 : W.cell? ⟨p, 1, none⟩ = some (.int .i64 0) := by rw [Lib.cell_of_heap hboxed.out]; rfl
    have y2 : W.cell? ⟨p, 2, none⟩ = some (.int .u64 0) := by rw [Lib.cell_of_heap hboxed.out]; rfl
    have y3 : W.cell? ⟨p, 3, none⟩ = some (.int .i64 0) := by rw [Lib.cell_of_heap hboxed.out]; rfl
    refine bodyPost_ret (v := .tuple #[.agg #[.int .i64 0, .int .i64 0, .int .u64 0, .int .i64 0], .bool false]) (by simp [results, Try.results11, go_sem, y0, y1, y2, y3]) rfl ?_
    exact hfin.out
  · obtain ⟨x, hx⟩ : ∃ x, es[0]? = some x := ⟨_, List.getElem?_eq_getElem (by omega)⟩
    have hne : ((es.length : Int) == 0) = false := by rw [beq_eq_false_iff_ne]; omega
    have hmin := heap_top h1.out.heap.heap (Nat.le_refl _) hx
    have hmin' : ∀ z ∈ es, lt z x = false := fun z hz => by
      obtain ⟨k, hk⟩ := List.mem_iff_getElem?.1 hz
      exact hmin k (List.getElem?_eq_some_iff.1 hk).1 z hk
    obtain ⟨g, cap', cur, hsv, _, hh, _, _, _, hcx⟩ := h1.out.heap.at_.slice (by omega)
    obtain ⟨x0, _, _, _⟩ := row_cell hh hcx hx
    rw [hv.out] at hsv
    cases hsv
    have i2 : (0 : Int) < (es.length : Int) := by omega
    have hxt : w1.cell? ⟨g, 0, none⟩ = some (.int .i64 x.t) := by have := x0; rw [Nat.zero_mul] at this; exact this
    clear x0 hmin
    replace hmin' := Keep.mk hmin'
    replace hh := Keep.mk hh
    replace hcx := Keep.mk hcx
    by_cases hnow : now < x.t
    · have hfin := Keep.mk (hnone.out (fun z hz => by
        have := (lt_no z x).1 (hmin'.out z hz)
        omega))
      have hnow' : ¬ x.t ≤ now := by omega
      replace hx := Keep.mk hx
      go_wp2
      generalize hW : World.setCell _ _ _ = W at *
      have y0 : W.cell? ⟨p, 0, none⟩ = some (.int .i64 0) := by rw [Lib.cell_of_heap hboxed.out]; rfl
      have y1 : W.cell? ⟨p, 1, none⟩ = some (.int .i64 0) := by rw [Lib.cell_of_heap hboxed.out]; rfl
      have y2 : W.cell? ⟨p, 2, none⟩ = some (.int .u64 0) := by rw [Lib.cell_of_heap hboxed.out]; rfl
      have y3 : W.cell? ⟨p, 3, none⟩ = some (.int .i64 0) := by rw [Lib.cell_of_heap hboxed.out]; rfl
      refine bodyPost_ret (v := .tuple #[.agg #[.int .i64 0, .int .i64 0, .int .u64 0, .int .i64 0], .bool false]) (by simp [results, Try.results11, go_sem, y0, y1, y2, y3]) rfl ?_
      exact hfin.out
    · have hnow' : x.t ≤ now := by omega
      have hP := Try.hPop_walk h1.out.heap hsm hx
      unfold Ent.val Ent.cells at hP
      replace hP := Keep.mk hP
      have ta := Try.assert32
      replace hx := Keep.mk hx
      clear hnone hboxed
      go_wp2_with (go_at_call 18; refine hP.out.mono ?_)
      first | rintro r w3 rfl H3 | rintro r w3 ⟨rfl, H3⟩
      obtain ⟨v3, es3, H3, T3, P3⟩ := H3
      have hQ3 := h1.out.turn T3 H3
      have hp3 : w3.heap[p]? = some (.cells #[.int .i64 0, .int .i64 0, .int .u64 0, .int .i64 0] 32 (0, 0)) := by
        rw [T3.block p (lt_of_block hp1.out) (by omega) (by omega) (fun e => by have := hv1.out p (by rw [← e, hv.out]); omega)]
        exact hp1.out
      have hv3 : v3.ownBlock ≠ some p := fun e => by
        rcases T3.own p e with r | r
        · have := hv1.out p (by rw [← r, hv.out])
          omega
        · have := lt_of_block hp1.out
          omega
      -- the entry lies in two variables
      have hA5 : Aside p w3 ((setBox w3 p x).alloc (.cells #[.int .i64 x.t, .int .i64 x.k, .int .u64 x.n, .int .i64 x.o] 32 (0, 0))) := (setBox_aside w3 p x).alloc _
      have hp4 := setBox_same (e := x) hp3
      have hp5 : ((setBox w3 p x).alloc (.cells #[.int .i64 x.t, .int .i64 x.k, .int .u64 x.n, .int .i64 x.o] 32 (0, 0))).heap[p]? = some (.cells x.cells 32 (0, 0)) := by
        rw [Below.heap_alloc _ _ _ (lt_of_block hp4)]
        exact hp4
      have hfin : NextEnd base q l m v es now w (.returned (.tuple #[x.val, .bool true])) ((setBox w3 p x).alloc (.cells #[.int .i64 x.t, .int .i64 x.k, .int .u64 x.n, .int .i64 x.o] 32 (0, 0))) :=
        ⟨x, true, v3, es3, rfl, hQ3.aside hA5 (by omega) (by omega) (by omega) hv3, (hT1.out.trans T3).aside hA5 (by omega), (fun _ => ⟨hnow', P3, hmin'.out⟩), (fun h => by cases h)⟩
      have z0 : w3.cell? ⟨p, 0, none⟩ = some (.int .i64 0) := by rw [Lib.cell_of_heap hp3]; rfl
      have z1 : w3.cell? ⟨p, 1, none⟩ = some (.int .i64 0) := by rw [Lib.cell_of_heap hp3]; rfl
      have z2 : w3.cell? ⟨p, 2, none⟩ = some (.int .u64 0) := by rw [Lib.cell_of_heap hp3]; rfl
      have z3 : w3.cell? ⟨p, 3, none⟩ = some (.int .i64 0) := by rw [Lib.cell_of_heap hp3]; rfl
      have f0 := Lib.frozen_of_heap hp3 0
      have f1 := Lib.frozen_of_heap hp3 1
      have f2 := Lib.frozen_of_heap hp3 2
      have f3 := Lib.frozen_of_heap hp3 3
      have hpl := lt_of_block hp3
      unfold setBox at hp5 hfin
      replace hp5 := Keep.mk hp5
      replace hfin := Keep.mk hfin
      clear hP H3 T3 P3 hQ3 hp3 hv3 hp4 hA5 cq c0 hxt
      go_wp2
      generalize hW : World.alloc _ _ = W at *
      have y0 : W.cell? ⟨p, 0, none⟩ = some (.int .i64 x.t) := by rw [Lib.cell_of_heap hp5.out]; rfl
      have y1 : W.cell? ⟨p, 1, none⟩ = some (.int .i64 x.k) := by rw [Lib.cell_of_heap hp5.out]; rfl
      have y2 : W.cell? ⟨p, 2, none⟩ = some (.int .u64 x.n) := by rw [Lib.cell_of_heap hp5.out]; rfl
      have y3 : W.cell? ⟨p, 3, none⟩ = some (.int .i64 x.o) := by rw [Lib.cell_of_heap hp5.out]; rfl
      refine bodyPost_ret (v := .tuple #[.agg #[.int .i64 x.t, .int .i64 x.k, .int .u64 x.n, .int .i64 x.o], .bool true]) (by simp [results, Try.results11, go_sem, y0, y1, y2, y3]) rfl ?_
      exact hfin.out
end Go.Proofs.Ytdohclfkbfeihaa
