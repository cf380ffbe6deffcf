/- The map of places under stores, and a row's entries. -/
import Derived.Test.YtdohclfkbfeihaaDqRead
import Derived.Laws.Rows
namespace Go.Proofs.Ytdohclfkbfeihaa
open Go.RowKit Go.Maps
theorem keyOf_ent {e : Ent} (h : e.wf) : keyOf Try.prog 56 e.key = some e.nl := keyOf_nm h.2.1 h.2.2.1 h.2.2.2
theorem isKey_nl {e : Ent} (h : e.wf) : WideAt.IsKeyLit e.nl := Try.keyed56.key (keyOf_ent h)
theorem nl_inj {a b : Ent} (ha : a.wf) (hb : b.wf) (h : a.nl = b.nl) : a.nm = b.nm := by
  have h1 := Try.keyed56.inj (keyOf_ent ha) (by rw [h]; exact keyOf_ent hb)
  simp only [Ent.key, Value.agg.injEq, Array.mk.injEq, List.cons.injEq, Value.int.injEq, true_and, and_true] at h1
  obtain ⟨h1, h2, h3⟩ := h1
  simp only [Ent.nm, h1, h2, h3]
theorem nl_of_nm {a b : Ent} (h : a.nm = b.nm) : a.nl = b.nl := by
  simp only [Ent.nm, Prod.mk.injEq] at h
  simp only [Ent.nl, h]
theorem key_of_nm {a b : Ent} (h : a.nm = b.nm) : a.key = b.key := by
  simp only [Ent.nm, Prod.mk.injEq] at h
  simp only [Ent.key, h]
theorem own_tight {H : Type} {P : Program} {k : TypeId} {R : Value → Option (DataW H × List MemPlace)} {w : World} {b n : Nat} {D : DataW H} (h : w.ownsMap P k R b n D) : w.ownsMap P k R b (Maps.size D) D := by
  obtain ⟨es, clock, hb, F, hs, rfl⟩ := h
  exact ⟨es, clock, hb, F, by simp [Maps.size, length_sorted], rfl⟩
/-- Names of entries at different places differ. -/
theorem nm_ne {es : List Ent} (nd : es.Pairwise fun a b => a.nm ≠ b.nm) {i j : Nat} {a b : Ent} (ha : es[i]? = some a) (hb : es[j]? = some b) (hij : i ≠ j) : a.nm ≠ b.nm := by
  rw [List.pairwise_iff_getElem] at nd
  obtain ⟨hi, rfl⟩ := List.getElem?_eq_some_iff.1 ha
  obtain ⟨hj, rfl⟩ := List.getElem?_eq_some_iff.1 hb
  rcases Nat.lt_or_ge i j with h | h
  · exact nd i j hi hj h
  · exact fun e => nd j i hj hi (by omega) e.symm
theorem swap_get {es : List Ent} {i j : Nat} {a b : Ent} (hij : i ≠ j) (ha : es[i]? = some a) (hb : es[j]? = some b) (k : Nat) : ((es.set i b).set j a)[k]? = es[if k = i then j else if k = j then i else k]? := by
  have hi : i < es.length := (List.getElem?_eq_some_iff.1 ha).1
  have hj : j < es.length := (List.getElem?_eq_some_iff.1 hb).1
  by_cases q1 : k = i
  · subst q1
    rw [if_pos rfl, List.getElem?_set_ne (Ne.symm hij), List.getElem?_set_self hi, hb]
  · rw [if_neg q1]
    by_cases q2 : k = j
    · subst q2
      rw [if_pos rfl, List.getElem?_set_self (by simpa using hj), ha]
    · rw [if_neg q2, List.getElem?_set_ne (Ne.symm q2), List.getElem?_set_ne (Ne.symm q1)]
theorem Idx.swap {es : List Ent} {D : DataW Unit} (I : Idx es D) (T : Tidy D) (wf : ∀ e ∈ es, e.wf) (nd : es.Pairwise fun a b => a.nm ≠ b.nm) {i j : Nat} {a b : Ent} (hij : i < j) (ha : es[i]? = some a) (hb : es[j]? = some b) :
    Idx ((es.set i b).set j a) ((D.put b.nl (zi i)).put a.nl (zi j)) := by
  have hi : i < es.length := (List.getElem?_eq_some_iff.1 ha).1
  have hj : j < es.length := (List.getElem?_eq_some_iff.1 hb).1
  have wa := wf a (List.mem_of_getElem? ha)
  have wb := wf b (List.mem_of_getElem? hb)
  have hab := nm_ne nd ha hb (by omega)
  have hab' : a.nl ≠ b.nl := fun e => hab (nl_inj wa wb e)
  have ka := isKey_nl wa
  have kb := isKey_nl wb
  have T1 := T.put kb (zi i)
  have h1 := (I.at_ i a ha).1
  have h2 := (I.at_ j b hb).1
  refine ⟨?_, ?_, ?_⟩
  · rw [size_put T1, has_put_other hab', h1, if_pos rfl, size_put T, h2, if_pos rfl, I.size]
    simp
  · intro q e hq
    by_cases q1 : q = j
    · subst q1
      rw [List.getElem?_set_self (by simpa using hj)] at hq
      cases hq
      exact ⟨has_put_same T1.isMap ka _, atKey_put_same T1.isMap ka _ _⟩
    · rw [List.getElem?_set_ne (Ne.symm q1)] at hq
      by_cases q2 : q = i
      · subst q2
        rw [List.getElem?_set_self hi] at hq
        cases hq
        exact ⟨by rw [has_put_other hab'.symm]; exact has_put_same T.isMap kb _, by rw [atKey_put_other hab'.symm]; exact atKey_put_same T.isMap kb _ _⟩
      · rw [List.getElem?_set_ne (Ne.symm q2)] at hq
        have we := wf e (List.mem_of_getElem? hq)
        have n1 : e.nl ≠ a.nl := fun h => nm_ne nd hq ha q2 (nl_inj we wa h)
        have n2 : e.nl ≠ b.nl := fun h => nm_ne nd hq hb q1 (nl_inj we wb h)
        obtain ⟨o1, o2⟩ := I.at_ q e hq
        exact ⟨by rw [has_put_other n1, has_put_other n2]; exact o1, by rw [atKey_put_other n1, atKey_put_other n2]; exact o2⟩
  · intro x wx hx
    have key : ∃ e ∈ es, e.nm = x.nm := by
      by_cases q1 : x.nl = a.nl
      · exact ⟨a, List.mem_of_getElem? ha, (nl_inj wx wa q1).symm⟩
      · rw [has_put_other q1] at hx
        by_cases q2 : x.nl = b.nl
        · exact ⟨b, List.mem_of_getElem? hb, (nl_inj wx wb q2).symm⟩
        · rw [has_put_other q2] at hx
          exact I.only x wx hx
    obtain ⟨e, he, hn⟩ := key
    obtain ⟨q, hq⟩ := List.mem_iff_getElem?.1 he
    by_cases q1 : q = i
    · subst q1
      rw [ha] at hq
      cases hq
      exact ⟨_, List.mem_of_getElem? (i := j) (List.getElem?_set_self (by simpa using hj)), hn⟩
    · by_cases q2 : q = j
      · subst q2
        rw [hb] at hq
        cases hq
        exact ⟨_, List.mem_of_getElem? (i := i) (by rw [List.getElem?_set_ne (by omega)]; exact List.getElem?_set_self hi), hn⟩
      · exact ⟨e, List.mem_of_getElem? (i := q) (by rw [List.getElem?_set_ne (Ne.symm q2), List.getElem?_set_ne (Ne.symm q1)]; exact hq), hn⟩
theorem flat_set : ∀ (es : List Ent) (i : Nat) (e : Ent), i < es.length → (((((flat es).set (i * 4) (.int .i64 e.t)).set (i * 4 + 1) (.int .i64 e.k)).set (i * 4 + 2) (.int .u64 e.n)).set (i * 4 + 3) (.int .i64 e.o)) = flat (es.set i e)
  | [], i, e, h => absurd h (Nat.not_lt_zero _)
  | e0 :: r, 0, e, _ => by
    rw [List.set_cons_zero, flat_cons, flat_cons]
    rfl
  | e0 :: r, i + 1, e, h => by
    have ih := flat_set r i e (by simpa using h)
    have e1 : (i + 1) * 4 = i * 4 + 4 := by omega
    rw [List.set_cons_succ, flat_cons, flat_cons, ← ih, e1]
    have hc : e0.cells.toList = [.int .i64 e0.t, .int .i64 e0.k, .int .u64 e0.n, .int .i64 e0.o] := rfl
    rw [hc]
    have e2 : i * 4 + 4 + 1 = (i * 4 + 1) + 4 := by omega
    have e3 : i * 4 + 4 + 2 = (i * 4 + 2) + 4 := by omega
    have e4 : i * 4 + 4 + 3 = (i * 4 + 3) + 4 := by omega
    rw [e2, e3, e4]
    rfl
/-- An entry laid into the row. -/
def setEnt (w : World) (g i : Nat) (e : Ent) : World := (((w.setCell ⟨g, i * 4, none⟩ (.int .i64 e.t)).setCell ⟨g, i * 4 + 1, none⟩ (.int .i64 e.k)).setCell ⟨g, i * 4 + 2, none⟩ (.int .u64 e.n)).setCell ⟨g, i * 4 + 3, none⟩ (.int .i64 e.o)
theorem setEnt_row {w : World} {g i : Nat} {cur : Array Value} {es : List Ent} {e : Ent} (hh : w.heap[g]? = some (.cells cur 32 (0, 0))) (hx : cur.toList.take (es.length * 4) = flat es) (hi : i < es.length) :
    ∃ cur', (setEnt w g i e).heap[g]? = some (.cells cur' 32 (0, 0)) ∧ cur'.size = cur.size ∧ cur'.toList.take (es.length * 4) = flat (es.set i e) := by
  refine ⟨_, heap_setCell_same _ _ _ _ _ _ (heap_setCell_same _ _ _ _ _ _ (heap_setCell_same _ _ _ _ _ _ (heap_setCell_same _ _ _ _ _ _ hh))), by simp, ?_⟩
  simp only [Array.toList_setIfInBounds, List.take_set, hx]
  exact flat_set es i e hi
theorem setEnt_other (w : World) (g i : Nat) (e : Ent) (k : Nat) (h : k ≠ g) : (setEnt w g i e).heap[k]? = w.heap[k]? := by
  unfold setEnt
  rw [heap_setCell_other _ _ _ _ h, heap_setCell_other _ _ _ _ h, heap_setCell_other _ _ _ _ h, heap_setCell_other _ _ _ _ h]
theorem setEnt_os (w : World) (g i : Nat) (e : Ent) : (setEnt w g i e).os = w.os := by simp only [setEnt, World.setCell]
theorem setEnt_tape (w : World) (g i : Nat) (e : Ent) : (setEnt w g i e).tape = w.tape := by simp only [setEnt, World.setCell]
theorem setEnt_output (w : World) (g i : Nat) (e : Ent) : (setEnt w g i e).output = w.output := by simp only [setEnt, World.setCell]
theorem setEnt_size (w : World) (g i : Nat) (e : Ent) : (setEnt w g i e).heap.size = w.heap.size := by
  simp [setEnt, World.setCell]
end Go.Proofs.Ytdohclfkbfeihaa
