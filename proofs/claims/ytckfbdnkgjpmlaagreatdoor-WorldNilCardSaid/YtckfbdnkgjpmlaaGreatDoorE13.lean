/- E, part 13: how the heap turns: a new object, an object that is put anew. -/
import Derived.Test.YtckfbdnkgjpmlaaGreatDoorE12
namespace Ab
open Go

variable {P : Program} {cx : Ctx} {ρ : Env}

/-- What an operation does to the state, and to the world. -/
def Turns (ρ : Env) (L : Nat → Loc) (st : St) (w : World) (v : AV) (st' : St) (x : Value) (w' : World) : Prop :=
  ∃ L1, Agree st.nx L L1 ∧ st.nx ≤ st'.nx ∧ Fr L st.H w L1 st'.H w' ∧ FxOk ρ st'.fx ∧ ∀ L', Agree st'.nx L1 L' → x = conc L' ρ v ∧ Sim L' ρ st'.H w'

/-- One block is put anew. -/
structure WPut (w : World) (b : Nat) (o : Obj) (w' : World) : Prop where
  size : w'.heap.size = w.heap.size
  at_ : w'.heap[b]? = some o
  other : ∀ k, k ≠ b → w'.heap[k]? = w.heap[k]?
  os : w'.os = w.os
  tape : w'.tape = w.tape
  output : w'.output = w.output
/-- One block more. -/
structure WNew (w : World) (o : Obj) (w' : World) : Prop where
  size : w'.heap.size = w.heap.size + 1
  at_ : w'.heap[w.heap.size]? = some o
  other : ∀ k, k < w.heap.size → w'.heap[k]? = w.heap[k]?
  os : w'.os = w.os
  tape : w'.tape = w.tape
  output : w'.output = w.output
theorem WNew.push (w : World) (o : Obj) : WNew w o { w with heap := w.heap.push o } :=
  ⟨by simp, by simp, fun k hk => by simp [Array.getElem?_push, Nat.ne_of_lt hk], rfl, rfl, rfl⟩
theorem WNew.push' {w w1 : World} (h : w1.heap = w.heap) (h1 : w1.os = w.os) (h2 : w1.tape = w.tape) (h3 : w1.output = w.output) (o : Obj) : WNew w o { w1 with heap := w1.heap.push o } := by
  have := WNew.push w1 o
  exact ⟨by rw [this.size, h], by rw [← h]; exact this.at_, fun k hk => by rw [this.other k (by rw [h]; exact hk), h], this.os.trans h1, this.tape.trans h2, this.output.trans h3⟩
theorem WPut.set {w : World} {b : Nat} {o o' : Obj} (h : w.heap[b]? = some o) : WPut w b o' { w with heap := w.heap.setIfInBounds b o' } := by
  have hb : b < w.heap.size := by
    rcases Nat.lt_or_ge b w.heap.size with hh | hh
    · exact hh
    · rw [Array.getElem?_eq_none hh] at h; cases h
  exact ⟨by simp, by simp [hb], fun k hk => by simp [Array.getElem?_setIfInBounds_ne (Ne.symm hk)], rfl, rfl, rfl⟩
theorem WPut.trans {w w1 w2 : World} {b : Nat} {o o' : Obj} (h : WPut w b o w1) (k : WPut w1 b o' w2) : WPut w b o' w2 :=
  ⟨k.size.trans h.size, k.at_, fun j hj => (k.other j hj).trans (h.other j hj), k.os.trans h.os, k.tape.trans h.tape, k.output.trans h.output⟩

theorem lt_of_some {w : World} {b : Nat} {o : Obj} (h : w.heap[b]? = some o) : b < w.heap.size := by
  rcases Nat.lt_or_ge b w.heap.size with hh | hh
  · exact hh
  · rw [Array.getElem?_eq_none hh] at h; cases h
theorem ObjAt.block {L : Nat → Loc} {w : World} {l : Loc} {o : AObj} (h : ObjAt L ρ w l o) : ∃ x, w.heap[l.b]? = some x := by
  cases o with
  | cells t d n el sz => obtain ⟨c, fz, h, _⟩ := h; exact ⟨_, h⟩
  | map es ck => exact ⟨_, h⟩
  | iter m s sn last => obtain ⟨_, sn', h, _⟩ := h; exact ⟨_, h⟩
  | loop => obtain ⟨r, h, _⟩ := h; exact ⟨_, h⟩
  | dfr => exact ⟨_, h⟩
  | ro i cs => exact ⟨_, h.2⟩
theorem ObjAt.keep {L : Nat → Loc} {w w' : World} {l : Loc} {o : AObj} (h : ObjAt L ρ w l o) (hk : w'.heap[l.b]? = w.heap[l.b]?) : ObjAt L ρ w' l o := by
  cases o with
  | cells t d n el sz => obtain ⟨c, fz, h, r⟩ := h; exact ⟨c, fz, hk.trans h, r⟩
  | map es ck => exact hk.trans h
  | iter m s sn last => obtain ⟨h0, sn', h, r⟩ := h; exact ⟨h0, sn', hk.trans h, r⟩
  | loop => obtain ⟨r, h, k⟩ := h; exact ⟨r, hk.trans h, k⟩
  | dfr => exact hk.trans h
  | ro i cs => exact ⟨h.1, hk.trans h.2⟩

/-- The state is as it was; so is the world's heap. -/
theorem Turns.same {L : Nat → Loc} {st : St} {w w' : World} {v : AV} {fx : Facts} {x : Value} (hs : ∀ L', Agree st.nx L L' → Sim L' ρ st.H w) (hv : ∀ L', Agree st.nx L L' → x = conc L' ρ v) (hx : FxOk ρ fx)
    (hh : w'.heap = w.heap) (h1 : w'.os = w.os) (h2 : w'.tape = w.tape) (h3 : w'.output = w.output) : Turns ρ L st w v ⟨st.H, st.nx, fx⟩ x w' :=
  ⟨L, Agree.refl _ _, Nat.le_refl _, ⟨by rw [hh]; exact Nat.le_refl _, h1, h2, h3, fun b _ _ => by rw [hh], fun b _ h => h⟩, hx, fun L' ha => ⟨hv L' ha, by
    have := hs L' ha
    exact ⟨fun id o ho => (this.at_ id o ho).keep (by rw [hh]), this.inj, this.pin⟩⟩⟩

theorem Turns.new {L : Nat → Loc} {st : St} {w w' : World} {v : AV} {o : AObj} {x : Value} {c : Obj} {k : Nat} {fx : Facts} (hs : ∀ L', Agree st.nx L L' → Sim L' ρ st.H w) (hx : FxOk ρ fx) (hn : WNew w c w')
    (hv : ∀ L', Agree st.nx L L' → L' st.nx = ⟨w.heap.size, 0, k⟩ → x = conc L' ρ v) (ho : ∀ L', Agree st.nx L L' → L' st.nx = ⟨w.heap.size, 0, k⟩ → ObjAt L' ρ w' ⟨w.heap.size, 0, k⟩ o) :
    Turns ρ L st w v ⟨st.H.set st.nx o, Nat.succ st.nx, fx⟩ x w' := by
  refine ⟨fun i => if i = st.nx then ⟨w.heap.size, 0, k⟩ else L i, fun i hi => if_neg (by omega), Nat.le_succ _, ?_, hx, fun L' ha => ?_⟩
  · refine ⟨by rw [hn.size]; omega, hn.os, hn.tape, hn.output, fun b hb _ => hn.other b hb, fun b hb hnb id o' ho' => ?_⟩
    dsimp only at ho' ⊢
    by_cases e : id = st.nx
    · rw [if_pos e]; simp; omega
    · rw [if_neg e]
      rw [Tr.get_set_ne _ _ e] at ho'
      exact hnb id o' ho'
  · have ha0 : Agree st.nx L L' := fun i hi => by rw [ha i (Nat.lt_succ_of_lt hi)]; exact if_neg (by omega)
    have hn0 : L' st.nx = ⟨w.heap.size, 0, k⟩ := by rw [ha st.nx (Nat.lt_succ_self _)]; exact if_pos rfl
    have hsim := hs L' ha0
    have hlt : ∀ id o', st.H.get id = some o' → (L' id).b < w.heap.size := fun id o' h => by
      obtain ⟨y, hy⟩ := (hsim.at_ id o' h).block
      exact lt_of_some hy
    refine ⟨hv L' ha0 hn0, ?_, ?_, hsim.pin⟩
    · intro id o' h
      by_cases e : id = st.nx
      · subst e
        rw [Tr.get_set_same] at h
        simp at h
        subst h
        rw [hn0]
        exact ho L' ha0 hn0
      · rw [Tr.get_set_ne _ _ e] at h
        exact (hsim.at_ id o' h).keep (hn.other _ (hlt id o' h))
    · intro i j oi oj hi hj hb
      by_cases ei : i = st.nx <;> by_cases ej : j = st.nx
      · rw [ei, ej]
      · rw [Tr.get_set_ne _ _ ej] at hj
        have := hlt j oj hj
        rw [← hb, ei, hn0] at this
        simp at this
      · rw [Tr.get_set_ne _ _ ei] at hi
        have := hlt i oi hi
        rw [hb, ej, hn0] at this
        simp at this
      · rw [Tr.get_set_ne _ _ ei] at hi
        rw [Tr.get_set_ne _ _ ej] at hj
        exact hsim.inj i j oi oj hi hj hb

theorem Turns.put {L : Nat → Loc} {st : St} {w w' : World} {v : AV} {id : Nat} {o0 o : AObj} {x : Value} {c : Obj} {fx : Facts} (hs : ∀ L', Agree st.nx L L' → Sim L' ρ st.H w) (hx : FxOk ρ fx)
    (h0 : st.H.get id = some o0) (hb : ∀ L', Agree st.nx L L' → (L' id).b = (L id).b) (hp : WPut w (L id).b c w') (hv : ∀ L', Agree st.nx L L' → x = conc L' ρ v)
    (ho : ∀ L', Agree st.nx L L' → ObjAt L' ρ w' (L' id) o) : Turns ρ L st w v ⟨st.H.set id o, st.nx, fx⟩ x w' := by
  refine ⟨L, Agree.refl _ _, Nat.le_refl _, ⟨by rw [hp.size]; exact Nat.le_refl _, hp.os, hp.tape, hp.output, fun b hb' hn => hp.other b (Ne.symm (hn id o0 h0)), fun b hb' hn id' o' h' => ?_⟩, hx, fun L' ha => ?_⟩
  · dsimp only at h'
    by_cases e : id' = id
    · subst e; exact hn id' o0 h0
    · rw [Tr.get_set_ne _ _ e] at h'; exact hn id' o' h'
  · have hsim := hs L' ha
    refine ⟨hv L' ha, ?_, ?_, hsim.pin⟩
    · intro id' o' h'
      by_cases e : id' = id
      · subst e
        rw [Tr.get_set_same] at h'
        simp at h'
        subst h'
        exact ho L' ha
      · rw [Tr.get_set_ne _ _ e] at h'
        refine (hsim.at_ id' o' h').keep (hp.other _ ?_)
        rw [← hb L' ha]
        exact fun hh => e (hsim.inj id' id o' o0 h' h0 hh)
    · intro i j oi oj hi hj hbb
      have gi : ∃ o', st.H.get i = some o' := by
        by_cases e : i = id
        · subst e; exact ⟨_, h0⟩
        · rw [Tr.get_set_ne _ _ e] at hi; exact ⟨_, hi⟩
      have gj : ∃ o', st.H.get j = some o' := by
        by_cases e : j = id
        · subst e; exact ⟨_, h0⟩
        · rw [Tr.get_set_ne _ _ e] at hj; exact ⟨_, hj⟩
      obtain ⟨o1, g1⟩ := gi
      obtain ⟨o2, g2⟩ := gj
      exact hsim.inj i j o1 o2 g1 g2 hbb

/-! ## Cells that are written -/
theorem run_storeCells {b s : Nat} {el : TypeId} {fz : Nat × Nat} : ∀ (vs : List Value) (i : Nat) (w : World) (c : Array Value), w.heap[b]? = some (.cells c el fz) → s + i + vs.length ≤ c.size →
    (∀ j, j < c.size → ¬ (fz.1 ≤ j ∧ j < fz.2)) → (∀ v ∈ vs, v.oneCell' = true) → ∃ w' c', (storeCells ⟨b, s, none⟩ vs i).run P w = .ok () w' ∧ WPut w b (.cells c' el fz) w' ∧ c'.size = c.size ∧
      (∀ j, c'[j]? = if s + i ≤ j ∧ j < s + i + vs.length then vs[j - (s + i)]? else c[j]?)
  | [], i, w, c, h, _, _, _ => ⟨w, c, rfl, ⟨rfl, h, fun _ _ => rfl, rfl, rfl, rfl⟩, rfl, fun j => by rw [if_neg (by simp only [List.length_nil]; omega)]⟩
  | v :: vs, i, w, c, h, hl, hf, ho => by
    simp only [List.length_cons] at hl
    have hc : w.cell? (Addr.add ⟨b, s, none⟩ i) = some c[s + i] := by
      rw [addr_add, cell_of_heap h]
      exact Array.getElem?_eq_getElem (by omega)
    have hfr : w.frozen? (Addr.add ⟨b, s, none⟩ i) = false := by
      rw [addr_add]
      have := hf (s + i) (by omega)
      simp [World.frozen?, h]
      omega
    have hst : (store (Addr.add ⟨b, s, none⟩ i) v).run P w = .ok () (w.setCell (Addr.add ⟨b, s, none⟩ i) v) := by
      rw [run_store _ _ _ _ _ (ho v (by simp)), hc]
      simp [hfr]
    have hset : WPut w b (.cells (c.setIfInBounds (s + i) v) el fz) (w.setCell (Addr.add ⟨b, s, none⟩ i) v) := by
      rw [addr_add]
      have hb := lt_of_some h
      refine ⟨by simp [World.setCell], ?_, fun k hk => ?_, rfl, rfl, rfl⟩
      · simp only [World.setCell, Array.getElem?_modify, h]
        rfl
      · simp only [World.setCell, Array.getElem?_modify, if_neg (Ne.symm hk)]
    obtain ⟨w', c', hrun, hp, hsz, hcells⟩ := run_storeCells (b := b) (s := s) (el := el) (fz := fz) vs (i + 1) (w.setCell (Addr.add ⟨b, s, none⟩ i) v) (c.setIfInBounds (s + i) v) hset.at_ (by rw [Array.size_setIfInBounds]; omega) (fun j hj => hf j (by simpa using hj)) (fun u hu => ho u (by simp [hu]))
    refine ⟨w', c', ?_, hset.trans hp, by rw [hsz]; simp, fun j => ?_⟩
    · simp only [storeCells, Sem.run_bind, hst, Result.andThen_ok, hrun]
    · rw [hcells]
      by_cases e : j = s + i
      · subst e
        rw [if_neg (by omega), if_pos (by simp only [List.length_cons]; omega), Array.getElem?_setIfInBounds_self_of_lt (by omega)]
        simp
      · by_cases hj : s + (i + 1) ≤ j ∧ j < s + (i + 1) + vs.length
        · rw [if_pos hj, if_pos (by simp only [List.length_cons]; omega)]
          obtain ⟨m, rfl⟩ : ∃ m, j = s + (i + 1) + m := ⟨j - (s + (i + 1)), by omega⟩
          rw [show s + (i + 1) + m - (s + (i + 1)) = m by omega, show s + (i + 1) + m - (s + i) = m + 1 by omega]
          rfl
        · rw [if_neg hj, if_neg (by simp only [List.length_cons]; omega), Array.getElem?_setIfInBounds_ne (by omega)]
theorem one_conc {v : AV} (h : v.one = true) (L : Nat → Loc) : (conc L ρ v).oneCell' = true := by
  cases v <;> simp [AV.one] at h <;> rfl
theorem look_lay (l : List AV) (off : Nat) (t : Tr AV) (d : Option AV) (i : Nat) : look (lay l off t) d i = if off ≤ i ∧ i < off + l.length then l[i - off]? else look t d i := by
  unfold look lay
  rw [Tr.get_fill]
  by_cases h : off ≤ i ∧ i < off + l.length
  · rw [if_pos h, if_pos h]
    have : i - off < l.length := by omega
    simp [this]
  · rw [if_neg h, if_neg h]
/-- Cells of an object are written: the world, and the object anew. -/
theorem put_cells {L : Nat → Loc} {st : St} {w : World} {id : Nat} {t : Tr AV} {d : Option AV} {n : Nat} {el : TypeId} {sz : Nat} (hs : ∀ L', Agree st.nx L L' → Sim L' ρ st.H w)
    (h0 : st.H.get id = some (.cells t d n el sz)) (hb : ∀ L', Agree st.nx L L' → L' id = L id) {cs : List AV} {off : Nat} (ho : ∀ v ∈ cs, v.one = true) (hn : off + cs.length ≤ n)
    {vs : List Value} (hvs : ∀ L', Agree st.nx L L' → vs = cs.map (conc L' ρ)) :
    ∃ w' c, (storeCells ⟨(L id).b, (L id).o + off, none⟩ vs).run P w = .ok () w' ∧ WPut w (L id).b c w' ∧ ∀ L', Agree st.nx L L' → ObjAt L' ρ w' (L' id) (.cells (lay cs off t) d n el sz) := by
  obtain ⟨c, fz, hc, hsz, hf, hk, h00⟩ := (hs L (Agree.refl _ _)).at_ id _ h0
  have hlen : vs.length = cs.length := by rw [hvs L (Agree.refl _ _)]; simp
  obtain ⟨w', c', hrun, hp, hsz', hcells⟩ := run_storeCells (P := P) (b := (L id).b) (s := (L id).o + off) vs 0 w c hc (by omega) hf (fun v hv => by
    rw [hvs L (Agree.refl _ _)] at hv
    obtain ⟨u, hu, rfl⟩ := List.mem_map.1 hv
    exact one_conc (ho u hu) L)
  refine ⟨w', _, hrun, hp, fun L' ha => ?_⟩
  rw [hb L' ha]
  obtain ⟨c2, fz2, hc2, _, _, hk2, _⟩ := (hs L' ha).at_ id _ h0
  rw [hb L' ha] at hc2 hk2
  rw [hc] at hc2
  simp at hc2
  obtain ⟨rfl, rfl⟩ := hc2
  refine ⟨c', fz, hp.at_, by rw [hsz', hsz], fun j hj => hf j (by rw [← hsz']; exact hj), fun i v hi hv => ?_, h00⟩
  rw [look_lay] at hv
  rw [hcells]
  by_cases h : off ≤ i ∧ i < off + cs.length
  · rw [if_pos h] at hv
    rw [if_pos (by omega), hvs L' ha, show (L id).o + i - ((L id).o + off + 0) = i - off by omega]
    simp [hv]
  · rw [if_neg h] at hv
    rw [if_neg (by omega)]
    exact hk2 i v hi hv
end Ab
