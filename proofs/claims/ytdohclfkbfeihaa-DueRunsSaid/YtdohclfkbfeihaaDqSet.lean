/- Set, walked. -/
import Derived.Test.YtdohclfkbfeihaaDqNext
namespace Go.Proofs.Ytdohclfkbfeihaa
open Go.RowKit Go.Maps
structure SetEnd (base q l m : Nat) (v : Value) (es : List Ent) (y : Ent) (w : World) (x : Ending) (w' : World) : Prop where
  out : ∃ v' es', x = .returned (.tuple #[]) ∧ QAt w' base q l m v' es' ∧ Turn l m v v' w w' ∧ ((∃ e ∈ es, e.nm = y.nm ∧ ∃ r, (e :: r).Perm es ∧ es'.Perm (y :: r)) ∨ ((∀ e ∈ es, e.nm ≠ y.nm) ∧ es'.Perm (y :: es)))
/-- The same name, at another time. -/
theorem flat_set1 : ∀ (es : List Ent) (i : Nat) (e y : Ent), es[i]? = some e → e.nm = y.nm → (flat es).set (i * 4) (.int .i64 y.t) = flat (es.set i y)
  | [], i, e, y, h, _ => by cases h
  | e0 :: r, 0, e, y, h, hn => by
    simp only [List.getElem?_cons_zero, Option.some.injEq] at h
    subst h
    simp only [Ent.nm, Prod.mk.injEq] at hn
    rw [List.set_cons_zero, flat_cons, flat_cons]
    simp [Ent.cells, hn]
  | e0 :: r, i + 1, e, y, h, hn => by
    have ih := flat_set1 r i e y (by simpa using h) hn
    have e1 : (i + 1) * 4 = i * 4 + 4 := by omega
    rw [List.set_cons_succ, flat_cons, flat_cons, ← ih, e1]
    rfl
theorem Idx.alike {es es' : List Ent} {D : DataW Unit} (I : Idx es D) (hl : es'.length = es.length) (hn : ∀ (i : Nat) e', es'[i]? = some e' → ∃ e, es[i]? = some e ∧ e.nm = e'.nm) (hn' : ∀ (i : Nat) e, es[i]? = some e → ∃ e', es'[i]? = some e' ∧ e'.nm = e.nm) : Idx es' D := by
  refine ⟨by rw [I.size, hl], fun i e' h => ?_, fun x wx hx => ?_⟩
  · obtain ⟨e, he, hq⟩ := hn i e' h
    have := I.at_ i e he
    rw [nl_of_nm hq] at this
    exact this
  · obtain ⟨e, he, hq⟩ := I.only x wx hx
    obtain ⟨i, hi⟩ := List.mem_iff_getElem?.1 he
    obtain ⟨e', he', hq'⟩ := hn' i e hi
    exact ⟨e', List.mem_of_getElem? he', hq'.trans hq⟩
theorem LAt.setTime {w : World} {base l m g cap : Nat} {es : List Ent} (h : LAt w base l m (.slice (some ⟨g, 0, none⟩) es.length cap) es) {i : Nat} {e y : Ent} (he : es[i]? = some e) (hn : e.nm = y.nm) (wy : y.wf) :
    LAt (w.setCell ⟨g, i * 4, none⟩ (.int .i64 y.t)) base l m (.slice (some ⟨g, 0, none⟩) es.length cap) (es.set i y) ∧ Turn l m (.slice (some ⟨g, 0, none⟩) es.length cap) (.slice (some ⟨g, 0, none⟩) es.length cap) w (w.setCell ⟨g, i * 4, none⟩ (.int .i64 y.t)) := by
  have hi : i < es.length := (List.getElem?_eq_some_iff.1 he).1
  obtain ⟨g', cap', cur, hsv, hb, hh, hnc, hcm, hcs, hx⟩ := h.slice (by omega)
  cases hsv
  have hs := heap_setCell_same w g (i * 4) cur 32 (.int .i64 y.t) hh
  have ho : ∀ k, k ≠ g → (w.setCell ⟨g, i * 4, none⟩ (.int .i64 y.t)).heap[k]? = w.heap[k]? := fun k hk => heap_setCell_other w ⟨g, i * 4, none⟩ k _ hk
  have hlg : l ≠ g := fun q => by have := h.cell; rw [q, hh] at this; cases this
  obtain ⟨D, hD, hI⟩ := h.map
  have hmg : m ≠ g := fun q => by obtain ⟨es', ck, hb', _⟩ := hD; rw [q, hh] at hb'; cases hb'
  have hlen : (es.set i y).length = es.length := List.length_set
  have G : ∀ k, (es.set i y)[k]? = if k = i then some y else es[k]? := fun k => by
    by_cases q : k = i
    · subst q
      rw [if_pos rfl, List.getElem?_set_self hi]
    · rw [if_neg q, List.getElem?_set_ne (Ne.symm q)]
  have hN : ∀ (k : Nat) (e' : Ent), (es.set i y)[k]? = some e' → ∃ e : Ent, es[k]? = some e ∧ e.nm = e'.nm := fun k e' hk => by
    rw [G] at hk
    by_cases q : k = i
    · rw [if_pos q] at hk
      cases hk
      exact ⟨e, by rw [q]; exact he, hn⟩
    · rw [if_neg q] at hk
      exact ⟨e', hk, rfl⟩
  refine ⟨⟨by rw [ho l hlg]; exact h.cell, ⟨flat_length _, .inr ⟨g, cap, _, by rw [hlen], hb, hs, by rw [hlen]; exact hnc, hcm, by simpa using hcs, ?_⟩⟩, ⟨D, ?_, hI.alike hlen hN (fun k e' hk => ?_)⟩, ?_, ?_⟩, ⟨rfl, rfl, rfl, by simp [World.setCell], fun k _ _ _ h3 => ho k (fun q => h3 (by rw [q]; rfl)), fun k q => .inl q⟩⟩
  · simp only [Array.toList_setIfInBounds, List.take_set, hlen, hx]
    exact flat_set1 es i e y he hn
  · rw [hlen]
    exact hD.setCell (a := ⟨g, i * 4, none⟩) hmg _
  · rw [G]
    by_cases q : k = i
    · rw [if_pos q]
      rw [q, he] at hk
      cases hk
      exact ⟨y, rfl, hn.symm⟩
    · rw [if_neg q]
      exact ⟨e', hk, rfl⟩
  · intro z hz
    rcases List.mem_or_eq_of_mem_set hz with hz | rfl
    · exact h.wf z hz
    · exact wy
  · rw [List.pairwise_iff_getElem]
    intro a b ha hb hab
    obtain ⟨ea, h1, n1⟩ := hN a _ (List.getElem?_eq_getElem ha)
    obtain ⟨eb, h2, n2⟩ := hN b _ (List.getElem?_eq_getElem hb)
    rw [← n1, ← n2]
    exact nm_ne h.nd h1 h2 (by omega)
theorem set_parts {es : List Ent} {i : Nat} {e y : Ent} (he : es[i]? = some e) : ∃ r, (e :: r).Perm es ∧ (es.set i y).Perm (y :: r) := by
  induction es generalizing i with
  | nil => cases he
  | cons a t ih =>
    cases i with
    | zero =>
      simp only [List.getElem?_cons_zero, Option.some.injEq] at he
      subst he
      exact ⟨t, List.Perm.refl _, List.Perm.refl _⟩
    | succ i =>
      obtain ⟨r, h1, h2⟩ := ih (i := i) (by simpa using he)
      refine ⟨a :: r, (List.Perm.swap _ _ _).trans (h1.cons a), ?_⟩
      rw [List.set_cons_succ]
      exact (h2.cons a).trans (List.Perm.swap _ _ _)
set_option maxHeartbeats 1000000 in
set_option maxRecDepth 1000000 in
theorem Try.Set_walk {w : World} {base q l m : Nat} {v : Value} {es : List Ent} (h : QAt w base q l m v es) (hsm : es.length < 1000) (hbw : base ≤ w.heap.size) {y : Ent} (wy : y.wf) :
    Calls Try.prog 10 #[.pointer (some ⟨q, 0, none⟩), .int .i64 y.k, TidV y, .int .i64 y.t] w fun x w' => SetEnd base q l m v es y w x w' := by
  have hB1 : Below w.heap.size w (w.alloc (.cells #[.int .u64 y.n, .int .i64 y.o] 30 (0, 0))) := (Below.refl _ w).alloc (Nat.le_refl _) _
  have hp1 : (w.alloc (.cells #[.int .u64 y.n, .int .i64 y.o] 30 (0, 0))).heap[w.heap.size]? = some (.cells #[.int .u64 y.n, .int .i64 y.o] 30 (0, 0)) := (MapKept.heap_alloc w _).1
  have h1 := h.below hB1
  replace h := Keep.mk h
  replace hB1 := Keep.mk hB1
  replace hp1 := Keep.mk hp1
  replace h1 := Keep.mk h1
  unfold TidV
  go_enter Try.func10, Try.ntmps10
  go_upto_region 2 with fail
  clear h
  generalize hp : w.heap.size = p at *
  generalize w.alloc (.cells #[.int .u64 y.n, .int .i64 y.o] 30 (0, 0)) = w1 at *
  have cq : w1.cell? ⟨q, 0, none⟩ = some (.pointer (some ⟨l, 0, none⟩)) := by rw [Lib.cell_of_heap h1.out.cell]; rfl
  have c1 : w1.cell? ⟨l, 1, none⟩ = some (.map (some m)) := by rw [Lib.cell_of_heap h1.out.heap.at_.cell]; rfl
  have z0 : w1.cell? ⟨p, 0, none⟩ = some (.int .u64 y.n) := by rw [Lib.cell_of_heap hp1.out]; rfl
  have z1 : w1.cell? ⟨p, 1, none⟩ = some (.int .i64 y.o) := by rw [Lib.cell_of_heap hp1.out]; rfl
  have hd1 : Below w1.heap.size w1 w1.drew := (Below.refl _ _).drew
  have h2 := h1.out.below hd1
  obtain ⟨c, b, hr, hyes, hno⟩ := h2.heap.at_.look wy
  unfold Ent.key at hr
  have hpd : w1.drew.heap[p]? = some (.cells #[.int .u64 y.n, .int .i64 y.o] 30 (0, 0)) := hp1.out
  replace h2 := Keep.mk h2
  replace hyes := Keep.mk hyes
  replace hno := Keep.mk hno
  have hB2 := hB1.out.drew
  rw [← hp] at hB2
  have hbz : base ≤ w1.drew.heap.size := by have := hB2.size; omega
  have hT2 := Keep.mk (Turn.of_below (l := l) (m := m) (v := v) hB2)
  replace hpd := Keep.mk hpd
  clear hd1 hB2
  go_cut [8, 9] from 10 (fun s8 s9 wx => s8 = .int .i64 c ∧ s9 = .bool b ∧ w1.drew = wx)
  case first =>
    go_region
    go_wp2_with fail
    go_meet
    exact ⟨rfl, rfl, rfl⟩
  case rest =>
    obtain ⟨rfl, rfl, hw⟩ := hcut
    subst hw
    generalize w1.drew = w2 at *
    clear cq c1 z0 z1 hr h1 hp1 hB1
    have cq : w2.cell? ⟨q, 0, none⟩ = some (.pointer (some ⟨l, 0, none⟩)) := by rw [Lib.cell_of_heap h2.out.cell]; rfl
    cases b with
    | false =>
      have hn := hno.out rfl
      have z0 : w2.cell? ⟨p, 0, none⟩ = some (.int .u64 y.n) := by rw [Lib.cell_of_heap hpd.out]; rfl
      have z1 : w2.cell? ⟨p, 1, none⟩ = some (.int .i64 y.o) := by rw [Lib.cell_of_heap hpd.out]; rfl
      have hd : Below w2.heap.size w2 w2.drew := (Below.refl _ _).drew
      have hP := Try.hPush_walk (h2.out.below hd).heap hsm hbz wy hn
      unfold Ent.val Ent.cells at hP
      have hQd := Keep.mk (h2.out.below hd)
      have hTd := Keep.mk (hT2.out.trans (Turn.of_below hd))
      replace hP := Keep.mk hP
      replace hn := Keep.mk hn
      clear hd
      go_upto_region 6 with fail
      go_region_with (go_at_call 17; refine hP.out.mono ?_; rintro x w4 ⟨rfl, H4⟩)
      all_goals
        obtain ⟨v4, es4, H4, T4, P4⟩ := H4
        have hQ4 := hQd.out.turn T4 H4
        have hfin : SetEnd base q l m v es y w (.returned (.tuple #[])) w4 := ⟨v4, es4, rfl, hQ4, hTd.out.trans T4, .inr ⟨hn.out, P4.trans (List.perm_append_comm (l₁ := es) (l₂ := [y]))⟩⟩
        replace hfin := Keep.mk hfin
        clear hP H4 T4 P4 hQ4
        go_wp2
        go_returns
        exact hfin.out
    | true =>
      obtain ⟨i, e, he, hnm, rfl⟩ := hyes.out rfl
      have hi : i < es.length := (List.getElem?_eq_some_iff.1 he).1
      obtain ⟨g, cap, cur, rfl, _, hh, _, _, _, hx⟩ := h2.out.heap.at_.slice (by omega)
      have c0 : w2.cell? ⟨l, 0, none⟩ = some (.slice (some ⟨g, 0, none⟩) es.length cap) := by rw [Lib.cell_of_heap h2.out.heap.at_.cell]; rfl
      obtain ⟨x0, _, _, _⟩ := row_cell hh hx he
      have f0 := Lib.frozen_of_heap hh (i * 4)
      have i1 : (0 : Int) ≤ (i : Int) := by omega
      have i2 : (i : Int) < (es.length : Int) := by omega
      obtain ⟨A3, T3⟩ := h2.out.heap.at_.setTime he hnm wy
      have hlen : (es.set i y).length = es.length := List.length_set
      have hD3 := down_of_set h2.out.heap.heap hi (Nat.le_refl _) y
      rw [← hlen] at hD3
      have hF := Keep.mk (Try.hFix_walk A3 (by rw [hlen]; omega) (by rw [hlen]; exact hi) hD3)
      have hq3 : (w2.setCell ⟨g, i * 4, none⟩ (.int .i64 y.t)).heap[q]? = some (.cells #[.pointer (some ⟨l, 0, none⟩)] 54 (0, 0)) := by
        obtain ⟨r1, r2, r3⟩ := h2.out.heap.at_.apart h2.out.cell
        rw [T3.block q (lt_of_block h2.out.cell) r1 r2 r3]
        exact h2.out.cell
      have cq3 : (w2.setCell ⟨g, i * 4, none⟩ (.int .i64 y.t)).cell? ⟨q, 0, none⟩ = some (.pointer (some ⟨l, 0, none⟩)) := by rw [Lib.cell_of_heap hq3]; rfl
      replace A3 := Keep.mk A3
      replace T3 := Keep.mk T3
      replace he := Keep.mk he
      replace hnm := Keep.mk hnm
      replace hh := Keep.mk hh
      replace hx := Keep.mk hx
      replace hq3 := Keep.mk hq3
      clear hD3
      go_upto_region 5 with fail
      generalize hW : World.setCell _ _ _ = w3 at *
      clear x0 c0 f0 cq
      go_wp2_with (go_at_call 16; refine hF.out.mono ?_)
      first | rintro x w4 rfl H4 | rintro x w4 ⟨rfl, H4⟩
      obtain ⟨v4, es4, H4, T4, P4⟩ := H4
      obtain ⟨r, P1, P2⟩ := set_parts (y := y) he.out
      have hQ4 : QAt w4 base q l m v4 es4 := by
        obtain ⟨r1, r2, r3⟩ := A3.out.apart hq3.out
        exact ⟨H4, by rw [T4.block q (lt_of_block hq3.out) r1 r2 r3]; exact hq3.out, h2.out.bq, h2.out.bl, h2.out.bm⟩
      have hfin : SetEnd base q l m _ es y w (.returned (.tuple #[])) w4 := ⟨v4, es4, rfl, hQ4, (hT2.out.trans T3.out).trans T4, .inl ⟨e, List.mem_of_getElem? he.out, hnm.out, r, P1, P4.trans P2⟩⟩
      replace hfin := Keep.mk hfin
      clear hF H4 T4 P4 P1 P2 hQ4
      go_wp2
      go_returns
      exact hfin.out
end Go.Proofs.Ytdohclfkbfeihaa
