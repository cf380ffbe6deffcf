/- DueOrder: the plain laws of what is struck and put. -/
import Derived.Test.YtdohclfkbfeihaaDqKey
namespace Go.Proofs.Ytdohclfkbfeihaa
open Go.RowKit Go.Maps
theorem elem_bool_inv {v : Value} {z : DataW Unit × List MemPlace} (h : plainElem Try.prog 4 v = some z) : ∃ b, v = .bool b ∧ z = (.lit (.bool b), []) := by
  unfold plainElem at h
  rw [Try.underlying4] at h
  cases v <;> simp at h
  subst h
  exact ⟨_, rfl, rfl⟩
theorem elem_bool (b : Bool) : plainElem (H := Unit) Try.prog 4 (.bool b) = some (.lit (.bool b), []) := plainElem_bool Try.underlying4 b
/-- What the inner loop has struck so far. -/
def Struck (es : List Ent) (D Dc : DataW Unit) (y : Ent) (left : Lit → Bool) : Prop := (Dc = D ∧ ∀ x ∈ es, x.nm = y.nm → left x.el = true) ∨ ∃ e ∈ es, e.nm = y.nm ∧ Dc = D.del e.el
theorem Struck.start {es : List Ent} {D : DataW Unit} (I : SIdx es D) (y : Ent) : Struck es D D y (Maps.has D) := .inl ⟨rfl, fun x hx _ => (I.in_ x hx).1⟩
/-- Another name: on. -/
theorem Struck.skip {es : List Ent} {D Dc : DataW Unit} {y x : Ent} {left : Lit → Bool} (h : Struck es D Dc y left) (wf : ∀ e ∈ es, e.wf) (wx : x.wf) (hn : x.nm ≠ y.nm) : Struck es D Dc y (fun z => left z && !z.sameKey x.el) := by
  rcases h with ⟨rfl, h⟩ | h
  · refine .inl ⟨rfl, fun z hz hzn => ?_⟩
    have hne : z.el ≠ x.el := fun e => hn (by rw [← el_inj (wf z hz) wx e]; exact hzn)
    show (left z.el && !z.el.sameKey x.el) = true
    rw [h z hz hzn, sameKey_ne hne]
    rfl
  · exact .inr h
/-- That name: struck. -/
theorem Struck.strike {es : List Ent} {D Dc : DataW Unit} {y x : Ent} {left left' : Lit → Bool} (h : Struck es D Dc y left) (I : SIdx es D) (nd : es.Pairwise fun a b => a.nm ≠ b.nm) (wx : x.wf) (hx : Maps.has Dc x.el = true) (hn : x.nm = y.nm) : Struck es D (Dc.del x.el) y left' := by
  rcases h with ⟨rfl, h⟩ | ⟨e, he, hen, rfl⟩
  · exact .inr ⟨x, I.only x wx hx, hn, rfl⟩
  · exfalso
    by_cases hk : x.el = e.el
    · rw [hk, has_del_same] at hx
      cases hx
    · rw [has_del_other hk] at hx
      have hxe := I.only x wx hx
      obtain ⟨i, hi⟩ := List.mem_iff_getElem?.1 hxe
      obtain ⟨j, hj⟩ := List.mem_iff_getElem?.1 he
      by_cases hij : i = j
      · rw [hij, hj] at hi
        cases hi
        exact hk rfl
      · exact nm_ne nd hi hj hij (hn.trans hen.symm)
theorem Struck.done {es : List Ent} {D Dc : DataW Unit} {y : Ent} {left : Lit → Bool} (h : Struck es D Dc y left) (hl : ∀ kl, left kl = false) : (Dc = D ∧ ∀ x ∈ es, x.nm ≠ y.nm) ∨ ∃ e ∈ es, e.nm = y.nm ∧ Dc = D.del e.el := by
  rcases h with ⟨rfl, h⟩ | h
  · refine .inl ⟨rfl, fun x hx hn => ?_⟩
    have := h x hx hn
    rw [hl] at this
    cases this
  · exact .inr h
/-- Struck, put: what the queue's Set leaves. -/
theorem SIdx.set {es es' : List Ent} {D Dc : DataW Unit} {y : Ent} (I : SIdx es D) (T : Tidy D) (wf : ∀ e ∈ es, e.wf) (wy : y.wf) (nd : es.Pairwise fun a b => a.nm ≠ b.nm)
    (h : (Dc = D ∧ ∀ x ∈ es, x.nm ≠ y.nm) ∨ ∃ e ∈ es, e.nm = y.nm ∧ Dc = D.del e.el)
    (hS : (∃ e ∈ es, e.nm = y.nm ∧ ∃ r, (e :: r).Perm es ∧ es'.Perm (y :: r)) ∨ ((∀ e ∈ es, e.nm ≠ y.nm) ∧ es'.Perm (y :: es))) : SIdx es' (Dc.put y.el yes) := by
  rcases hS with ⟨e, he, hen, r, p1, p2⟩ | ⟨hno, p⟩
  · have huniq : ∀ x ∈ es, x.nm = y.nm → x = e := fun x hx hxn => by
      obtain ⟨i, hi⟩ := List.mem_iff_getElem?.1 hx
      obtain ⟨j, hj⟩ := List.mem_iff_getElem?.1 he
      by_cases hij : i = j
      · rw [hij, hj] at hi
        cases hi
        rfl
      · exact absurd (hxn.trans hen.symm) (nm_ne nd hi hj hij)
    have hD : Dc = D.del e.el := by
      rcases h with ⟨_, h⟩ | ⟨e', he', hen', rfl⟩
      · exact absurd hen (h e he)
      · rw [huniq e' he' hen']
    subst hD
    have wf1 : ∀ x ∈ e :: r, x.wf := fun x hx => wf x (p1.mem_iff.1 hx)
    have nd1 : (e :: r).Pairwise fun a b => a.nm ≠ b.nm := p1.symm.pairwise nd (fun {_ _} h => Ne.symm h)
    have hr : ∀ x ∈ r, x.nm ≠ e.nm := fun x hx => Ne.symm ((List.pairwise_cons.1 nd1).1 x hx)
    have I1 := (I.perm p1).strike T wf1 (fun h => hr e h rfl)
    refine (I1.add (T.del e.el) (fun x hx => wf1 x (by simp [hx])) wy (fun h => hr y h hen.symm)).perm p2
  · have hD : Dc = D := by
      rcases h with ⟨h, _⟩ | ⟨e', he', hen', _⟩
      · exact h
      · exact absurd hen' (hno e' he')
    subst hD
    exact (I.add T wf wy (fun h => hno y h rfl)).perm p
theorem Aside.grown {p : Nat} {a w w' : World} {r : Nat} (h : Aside p a w) (hg : w.grownBy w' (some r)) (hr : a.heap.size ≤ r) : Aside p a w' :=
  ⟨hg.os.trans h.os, hg.tape.trans h.tape, hg.output.trans h.output, Nat.le_trans h.size hg.size, fun k hk hne => (hg.block k (Nat.lt_of_lt_of_le hk h.size) (by simp; omega)).trans (h.block k hk hne)⟩
theorem Aside.grown0 {p : Nat} {a w w' : World} (h : Aside p a w) (hg : w.grownBy w' none) : Aside p a w' :=
  ⟨hg.os.trans h.os, hg.tape.trans h.tape, hg.output.trans h.output, Nat.le_trans h.size hg.size, fun k hk hne => (hg.block k (Nat.lt_of_lt_of_le hk h.size) (by simp)).trans (h.block k hk hne)⟩
theorem Aside.turned {p : Nat} {a w w' : World} (h : Aside p a w) (hg : w.mapTurned w' p) : Aside p a w' :=
  ⟨hg.grown.os.trans h.os, hg.grown.tape.trans h.tape, hg.grown.output.trans h.output, Nat.le_trans h.size hg.grown.size, fun k hk hne => (hg.grown.block k (Nat.lt_of_lt_of_le hk h.size) (by simp; exact hne)).trans (h.block k hk hne)⟩
theorem Aside.below {p B : Nat} {W w w' : World} (h : Aside p w w') (hb : Below B W w) (hB : B ≤ w.heap.size) (hp : B ≤ p) : Below B W w' :=
  hb.trans ⟨h.os, h.tape, h.output, h.size, fun k hk => h.block k (by omega) (by omega)⟩
/-- The law's two lists: the queue, and the map of what was set last. -/
structure Both (w : World) (base q l m B : Nat) (v : Value) (es : List Ent) (D : DataW Unit) : Prop where
  queue : QAt w base q l m v es
  last : w.ownsMap Try.prog 32 (plainElem Try.prog 4) B es.length D
  idx : SIdx es D
  hm : m ≠ B
  bB : base ≤ B
end Go.Proofs.Ytdohclfkbfeihaa
