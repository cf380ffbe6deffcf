/- DueRuns: the law's own list beside the queue. -/
import Derived.Test.YtdohclfkbfeihaaDqArg
namespace Go.Proofs.Ytdohclfkbfeihaa
open Go.RowKit Go.Maps
/-- A step of the law. -/
structure OpR where
  K : Int
  y : Ent
def OpR.cells (o : OpR) : Array Value := #[.int .i64 o.K, .int .i64 o.y.k, .int .u64 o.y.n, .int .i64 o.y.o, .int .i64 o.y.t]
def OpsIn (w : World) (a : Option Addr) (os : List OpR) : Prop := ∀ (i : Nat) (o : OpR), os[i]? = some o → ∃ g off, a = some ⟨g, off, none⟩ ∧ o.y.wf ∧ w.cell? ⟨g, off + i * 5, none⟩ = some (.int .i64 o.K) ∧ w.cell? ⟨g, off + i * 5 + 1, none⟩ = some (.int .i64 o.y.k) ∧ w.cell? ⟨g, off + i * 5 + 2, none⟩ = some (.int .u64 o.y.n) ∧ w.cell? ⟨g, off + i * 5 + 3, none⟩ = some (.int .i64 o.y.o) ∧ w.cell? ⟨g, off + i * 5 + 4, none⟩ = some (.int .i64 o.y.t)
/-- The queue, and the law's own list of what is in it. -/
structure RunAt (w : World) (base q l m : Nat) (v v4 : Value) (es own : List Ent) : Prop where
  queue : QAt w base q l m v es
  row : w.ownsRow base 32 4 v4 own.length (flat own)
  apart : ∀ g, v4.ownBlock = some g → v.ownBlock ≠ some g
theorem row_len {w : World} {base n : Nat} {v : Value} {xs : List Value} (h : w.ownsRow base 32 4 v n xs) : ∃ o c, v = .slice o n c := by
  rcases h.2 with ⟨r, h0⟩ | ⟨g, c, cur, r, _⟩
  · exact ⟨none, 0, by rw [r, h0]⟩
  · exact ⟨_, _, r⟩
theorem row_slice {w : World} {base n : Nat} {v : Value} {xs : List Value} (h : w.ownsRow base 32 4 v n xs) (hn : 0 < n) : ∃ g cap cur, v = .slice (some ⟨g, 0, none⟩) n cap ∧ base ≤ g ∧ w.heap[g]? = some (.cells cur 32 (0, 0)) ∧ n ≤ cap ∧ cap ≤ maxLen ∧ cur.size = cap * 4 ∧ cur.toList.take (n * 4) = xs := by
  rcases h.2 with ⟨_, h0⟩ | h1
  · omega
  · exact h1
theorem row_lt {w : World} {base n : Nat} {v : Value} {xs : List Value} (h : w.ownsRow base 32 4 v n xs) : ∀ g, v.ownBlock = some g → g < w.heap.size := fun g hg => by
  rcases h.2 with ⟨r, _⟩ | ⟨g', c, cur, r, _, hh, _⟩
  · rw [r] at hg; cases hg
  · rw [r] at hg; cases hg; exact lt_of_block hh
theorem row_same {w w' : World} {base n : Nat} {v : Value} {xs : List Value} (h : w.ownsRow base 32 4 v n xs) (hg : ∀ g, v.ownBlock = some g → w'.heap[g]? = w.heap[g]?) : w'.ownsRow base 32 4 v n xs := by
  refine ⟨h.1, ?_⟩
  rcases h.2 with r | ⟨g, c, cur, r, hb, hh, rest⟩
  · exact .inl r
  · exact .inr ⟨g, c, cur, r, hb, by rw [hg g (by rw [r]; rfl)]; exact hh, rest⟩
theorem RunAt.below {w w' : World} {base q l m : Nat} {v v4 : Value} {es own : List Ent} (h : RunAt w base q l m v v4 es own) (hb : Below w.heap.size w w') : RunAt w' base q l m v v4 es own :=
  ⟨h.queue.below hb, row_same h.row (fun g hg => hb.block g (row_lt h.row g hg)), h.apart⟩
/-- The own row's block is none of the queue's. -/
theorem RunAt.far {w : World} {base q l m : Nat} {v v4 : Value} {es own : List Ent} (h : RunAt w base q l m v v4 es own) : ∀ g, v4.ownBlock = some g → q ≠ g ∧ l ≠ g ∧ m ≠ g ∧ v.ownBlock ≠ some g := fun g hg => by
  have hh : ∃ cur, w.heap[g]? = some (.cells cur 32 (0, 0)) := by
    rcases h.row.2 with ⟨r, _⟩ | ⟨g', c, cur, r, _, hh, _⟩
    · rw [r] at hg; cases hg
    · rw [r] at hg; cases hg; exact ⟨cur, hh⟩
  obtain ⟨cur, hh⟩ := hh
  refine ⟨fun e => ?_, fun e => ?_, fun e => ?_, h.apart g hg⟩
  · have := h.queue.cell
    rw [e, hh] at this
    cases this
  · have := h.queue.heap.at_.cell
    rw [e, hh] at this
    cases this
  · obtain ⟨D, ⟨es', ck, hb', _⟩, _⟩ := h.queue.heap.at_.map
    rw [e, hh] at hb'
    cases hb'
/-- The queue has turned. -/
theorem RunAt.turn {w w' : World} {base q l m : Nat} {v v' v4 : Value} {es es' own : List Ent} (h : RunAt w base q l m v v4 es own) (hT : Turn l m v v' w w') (hQ : QAt w' base q l m v' es') : RunAt w' base q l m v' v4 es' own := by
  refine ⟨hQ, row_same h.row (fun g hg => ?_), fun g hg e => ?_⟩
  · obtain ⟨_, h2, h3, h4⟩ := h.far g hg
    exact hT.block g (row_lt h.row g hg) (Ne.symm h2) (Ne.symm h3) h4
  · rcases hT.own g e with r | r
    · exact h.apart g hg r
    · have := row_lt h.row g hg
      omega
/-- The own list has turned. -/
theorem RunAt.own {w w' : World} {base q l m : Nat} {v v4 v4' : Value} {es own own' : List Ent} (h : RunAt w base q l m v v4 es own) (hg : w.grownBy w' v4.ownBlock) (hr : w'.ownsRow base 32 4 v4' own'.length (flat own')) (hl : v4'.ownBlock = v4.ownBlock ∨ ∀ k, v4'.ownBlock = some k → w.heap.size ≤ k) : RunAt w' base q l m v v4' es own' := by
  obtain ⟨h1, h2, h3⟩ := h.queue.heap.at_.lt
  have hq := lt_of_block h.queue.cell
  have hfar := h.far
  refine ⟨⟨⟨h.queue.heap.at_.same (hg.block l h1 (fun e => (hfar l e.symm).2.1 rfl)) (hg.block m h2 (fun e => (hfar m e.symm).2.2.1 rfl)) (fun g' hg' => hg.block g' (h3 g' hg') (fun e => (hfar g' e.symm).2.2.2 hg')), h.queue.heap.heap⟩, by rw [hg.block q hq (fun e => (hfar q e.symm).1 rfl)]; exact h.queue.cell, h.queue.bq, h.queue.bl, h.queue.bm⟩, hr, fun g hg' e => ?_⟩
  rcases hl with r | r
  · exact h.apart g (r.symm.trans hg') e
  · have a := r g hg'
    have b := h3 g e
    omega
theorem erase_parts {es : List Ent} {i : Nat} {e : Ent} (he : es[i]? = some e) : (e :: es.eraseIdx i).Perm es := by
  induction es generalizing i with
  | nil => cases he
  | cons a t ih =>
    cases i with
    | zero =>
      simp only [List.getElem?_cons_zero, Option.some.injEq] at he
      subst he
      exact List.Perm.refl _
    | succ i =>
      have h1 := ih (i := i) (by simpa using he)
      rw [List.eraseIdx_cons_succ]
      exact (List.Perm.swap _ _ _).trans (h1.cons a)
theorem set_perm2 {es : List Ent} {i : Nat} {e : Ent} (he : es[i]? = some e) (y : Ent) : (es.set i y).Perm (y :: es.eraseIdx i) := by
  induction es generalizing i with
  | nil => cases he
  | cons a t ih =>
    cases i with
    | zero => exact List.Perm.refl _
    | succ i =>
      have h1 := ih (i := i) (by simpa using he)
      rw [List.set_cons_succ, List.eraseIdx_cons_succ]
      exact (h1.cons a).trans (List.Perm.swap _ _ _)
theorem flat_take (es : List Ent) (i : Nat) : (flat es).take (i * 4) = flat (es.take i) := by
  have h : flat es = flat (es.take i) ++ flat (es.drop i) := by rw [← flat_app, List.take_append_drop]
  by_cases hi : i ≤ es.length
  · rw [h, List.take_append_of_le_length (by rw [flat_length, List.length_take]; omega), List.take_of_length_le (by rw [flat_length, List.length_take]; omega)]
  · rw [List.take_of_length_le (l := es) (by omega), List.take_of_length_le (by rw [flat_length]; omega)]
theorem flat_drop (es : List Ent) (i : Nat) : (flat es).drop (i * 4) = flat (es.drop i) := by
  by_cases hi : i ≤ es.length
  · have h : flat es = flat (es.take i) ++ flat (es.drop i) := by rw [← flat_app, List.take_append_drop]
    rw [h, List.drop_append, List.drop_of_length_le (by rw [flat_length, List.length_take]; omega), flat_length, List.length_take, Nat.min_eq_left hi, Nat.sub_self, List.drop_zero, List.nil_append]
  · rw [List.drop_of_length_le (l := es) (by omega), List.drop_of_length_le (by rw [flat_length]; omega)]
    rfl
theorem flat_erase (es : List Ent) (i : Nat) : flat (es.take i) ++ flat (es.drop (i + 1)) = flat (es.eraseIdx i) := by
  rw [← flat_app, List.eraseIdx_eq_take_drop_succ]
/-- Where the law finds the name among the first j of its own. -/
def Found (own : List Ent) (y : Ent) (j : Nat) (a : Int) : Prop := (a = -1 ∧ ∀ (i : Nat) e, i < j → own[i]? = some e → e.nm ≠ y.nm) ∨ ∃ (i : Nat) (e : Ent), i < j ∧ own[i]? = some e ∧ e.nm = y.nm ∧ a = (i : Int)
theorem Found.zero (own : List Ent) (y : Ent) : Found own y 0 (-1) := .inl ⟨rfl, fun i e h => by omega⟩
theorem Found.hit {own : List Ent} {y : Ent} {j : Nat} {e : Ent} (he : own[j]? = some e) (hn : e.nm = y.nm) : Found own y (j + 1) (j : Int) := .inr ⟨j, e, by omega, he, hn, rfl⟩
theorem Found.miss {own : List Ent} {y : Ent} {j : Nat} {a : Int} {e : Ent} (h : Found own y j a) (he : own[j]? = some e) (hn : e.nm ≠ y.nm) : Found own y (j + 1) a := by
  rcases h with ⟨h1, h2⟩ | ⟨i, e', h1, h2⟩
  · refine .inl ⟨h1, fun i e' hi he' => ?_⟩
    by_cases hij : i = j
    · subst hij
      rw [he] at he'
      cases he'
      exact hn
    · exact h2 i e' (by omega) he'
  · exact .inr ⟨i, e', by omega, h2⟩
/-- The best of the first j. -/
def Best (own : List Ent) (now : Int) (j : Nat) (b : Int) : Prop := (b = -1 ∧ ∀ (i : Nat) e, i < j → own[i]? = some e → now < e.t) ∨ ∃ (i : Nat) (x : Ent), i < j ∧ own[i]? = some x ∧ x.t ≤ now ∧ b = (i : Int) ∧ ∀ (i' : Nat) e, i' < j → own[i']? = some e → e.t ≤ now → lt e x = false
theorem Best.zero (own : List Ent) (now : Int) : Best own now 0 (-1) := .inl ⟨rfl, fun i e h => by omega⟩
theorem Best.late {own : List Ent} {now : Int} {j : Nat} {b : Int} {e : Ent} (h : Best own now j b) (he : own[j]? = some e) (hn : now < e.t) : Best own now (j + 1) b := by
  rcases h with ⟨h1, h2⟩ | ⟨i, x, h1, h2, h3, h4, h5⟩
  · refine .inl ⟨h1, fun i e' hi he' => ?_⟩
    by_cases hij : i = j
    · subst hij
      rw [he] at he'
      cases he'
      exact hn
    · exact h2 i e' (by omega) he'
  · refine .inr ⟨i, x, by omega, h2, h3, h4, fun i' e' hi he' ht => ?_⟩
    by_cases hij : i' = j
    · subst hij
      rw [he] at he'
      cases he'
      omega
    · exact h5 i' e' (by omega) he' ht
theorem Best.first {own : List Ent} {now : Int} {j : Nat} {e : Ent} (h : Best own now j (-1)) (he : own[j]? = some e) (hn : e.t ≤ now) : Best own now (j + 1) (j : Int) := by
  rcases h with ⟨_, h2⟩ | ⟨i, x, _, _, _, h4, _⟩
  · refine .inr ⟨j, e, by omega, he, hn, rfl, fun i' e' hi he' ht => ?_⟩
    by_cases hij : i' = j
    · subst hij
      rw [he] at he'
      cases he'
      exact lt_irrefl _
    · have := h2 i' e' (by omega) he'
      omega
  · omega
theorem Best.better {own : List Ent} {now : Int} {j i : Nat} {e x : Ent} (h : Best own now j (i : Int)) (hx : own[i]? = some x) (he : own[j]? = some e) (hn : e.t ≤ now) (hl : lt e x = true) : Best own now (j + 1) (j : Int) := by
  rcases h with ⟨h1, _⟩ | ⟨i0, x0, h1, h2, h3, h4, h5⟩
  · omega
  · have : i0 = i := by omega
    subst this
    rw [hx] at h2
    cases h2
    refine .inr ⟨j, e, by omega, he, hn, rfl, fun i' e' hi he' ht => ?_⟩
    by_cases hij : i' = j
    · subst hij
      rw [he] at he'
      cases he'
      exact lt_irrefl _
    · exact le_trans (lt_asymm hl) (h5 i' e' (by omega) he' ht)
theorem Best.worse {own : List Ent} {now : Int} {j i : Nat} {e x : Ent} (h : Best own now j (i : Int)) (hx : own[i]? = some x) (he : own[j]? = some e) (hl : lt e x = false) : Best own now (j + 1) (i : Int) := by
  rcases h with ⟨h1, _⟩ | ⟨i0, x0, h1, h2, h3, h4, h5⟩
  · omega
  · have : i0 = i := by omega
    subst this
    rw [hx] at h2
    cases h2
    refine .inr ⟨i0, x, by omega, hx, h3, rfl, fun i' e' hi he' ht => ?_⟩
    by_cases hij : i' = j
    · subst hij
      rw [he] at he'
      cases he'
      exact hl
    · exact h5 i' e' (by omega) he' ht
theorem same_name {es : List Ent} (nd : es.Pairwise fun a b => a.nm ≠ b.nm) {a b : Ent} (ha : a ∈ es) (hb : b ∈ es) (h : a.nm = b.nm) : a = b := by
  obtain ⟨i, hi⟩ := List.mem_iff_getElem?.1 ha
  obtain ⟨j, hj⟩ := List.mem_iff_getElem?.1 hb
  by_cases hij : i = j
  · rw [hij, hj] at hi
    cases hi
    rfl
  · exact absurd h (nm_ne nd hi hj hij)
/-- What is left when one is taken is the own list without it. -/
theorem left_perm {es own r : List Ent} {e e' : Ent} {i : Nat} (nd : es.Pairwise fun a b => a.nm ≠ b.nm) (hp : es.Perm own) (he : own[i]? = some e) (h1 : (e' :: r).Perm es) (hn : e'.nm = e.nm) : e' = e ∧ r.Perm (own.eraseIdx i) := by
  have h2 : e' = e := same_name nd (h1.mem_iff.1 (by simp)) (hp.mem_iff.2 (List.mem_of_getElem? he)) hn
  subst h2
  exact ⟨rfl, ((h1.trans hp).trans (erase_parts he).symm).cons_inv⟩
theorem own_wf {w : World} {base q l m : Nat} {v : Value} {es own : List Ent} (h : QAt w base q l m v es) (hp : es.Perm own) : ∀ e ∈ own, e.wf := fun e he => h.heap.at_.wf e (hp.mem_iff.2 he)
theorem erase_length {own : List Ent} {i : Nat} {e : Ent} (he : own[i]? = some e) : (own.eraseIdx i).length + 1 = own.length := by
  have := (erase_parts he).length_eq
  simpa using this
/-- Another time for an own entry. -/
theorem RunAt.setTime {w : World} {base q l m g c : Nat} {v : Value} {es own : List Ent} (h : RunAt w base q l m v (.slice (some ⟨g, 0, none⟩) own.length c) es own) {i : Nat} {e y : Ent} (he : own[i]? = some e) (hn : e.nm = y.nm) :
    RunAt (w.setCell ⟨g, i * 4, none⟩ (.int .i64 y.t)) base q l m v (.slice (some ⟨g, 0, none⟩) own.length c) es (own.set i y) := by
  have hi : i < own.length := (List.getElem?_eq_some_iff.1 he).1
  obtain ⟨g', cap', cur, hsv, hb, hh, hnc, hcm, hcs, hx⟩ := row_slice h.row (by omega)
  cases hsv
  have hs := heap_setCell_same w g (i * 4) cur 32 (.int .i64 y.t) hh
  have ho : ∀ k, k ≠ g → (w.setCell ⟨g, i * 4, none⟩ (.int .i64 y.t)).heap[k]? = w.heap[k]? := fun k hk => heap_setCell_other w ⟨g, i * 4, none⟩ k _ hk
  have hlen : (own.set i y).length = own.length := List.length_set
  refine h.own ⟨rfl, rfl, rfl, by simp [World.setCell], fun k _ hk => ho k (fun q => hk (by rw [q]; rfl))⟩ ⟨flat_length _, .inr ⟨g, c, _, by rw [hlen], hb, hs, by rw [hlen]; exact hnc, hcm, by simpa using hcs, ?_⟩⟩ (.inl rfl)
  simp only [Array.toList_setIfInBounds, List.take_set, hlen, hx]
  exact flat_set1 own i e y he hn
/-- A step's variable is none of the queue's blocks. -/
theorem box_far {w : World} {base q l m P : Nat} {v : Value} {es : List Ent} {c : Array Value} (h : QAt w base q l m v es) (hp : w.heap[P]? = some (.cells c 44 (0, 0))) : P ≠ l ∧ P ≠ m ∧ v.ownBlock ≠ some P := by
  refine ⟨fun e => ?_, fun e => ?_, fun e => ?_⟩
  · have := h.heap.at_.cell
    rw [← e, hp] at this
    cases this
  · obtain ⟨D, ⟨es', ck, hb', _⟩, _⟩ := h.heap.at_.map
    rw [← e, hp] at hb'
    cases hb'
  · rcases h.heap.at_.row.2 with ⟨r, _⟩ | ⟨g, c, cur, r, _, hg, _⟩
    · rw [r] at e; cases e
    · rw [r] at e; cases e; rw [hp] at hg; cases hg
theorem news_at {w : World} {b : Nat} {cs : Array Value} {t : TypeId} (h : w.heap[b]? = some (.cells cs t (0, 0))) : ∀ j u, cs.toList[j]? = some u → w.cell? ((⟨b, 0, none⟩ : Addr).add j) = some u := fun j u hj => by
  have hadd : (⟨b, 0, none⟩ : Addr).add j = ⟨b, j, none⟩ := by unfold Addr.add; split <;> simp_all
  rw [hadd, Lib.cell_of_heap h, ← hj, ← Array.getElem?_toList]
theorem row_base {w : World} {base n : Nat} {v : Value} {xs : List Value} (h : w.ownsRow base 32 4 v n xs) : ∀ g, v.ownBlock = some g → base ≤ g := fun g hg => by
  rcases h.2 with ⟨r, _⟩ | ⟨g', c, cur, r, hb, _⟩
  · rw [r] at hg; cases hg
  · rw [r] at hg; cases hg; exact hb
theorem below_of_grown {w w' : World} {B : Nat} {r : Option Nat} (h : w.grownBy w' r) (hB : B ≤ w.heap.size) (hr : ∀ g, r = some g → B ≤ g) : Below B w w' :=
  ⟨h.os, h.tape, h.output, h.size, fun k hk => h.block k (by omega) (fun e => by have := hr k e.symm; omega)⟩
end Go.Proofs.Ytdohclfkbfeihaa
