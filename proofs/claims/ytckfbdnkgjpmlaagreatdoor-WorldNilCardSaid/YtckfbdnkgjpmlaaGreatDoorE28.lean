/- E, part 28: the steps of a region in whatever order. -/
import Derived.Test.YtckfbdnkgjpmlaaGreatDoorE27
namespace Ab
open Go

section
variable {P : Program} {cx : Ctx} {ρ : Env} {cf : CallF} {nt : Nat} {ops : Array Oper} {l : List Step} {bs : Tr Nat} {E : Nat → Tr AV} {S : Nat → St} {Hs : Nat → List (Tr AObj)} {V : Nat → AV} {B : Nat → Bool} {ds : List Deferred}

theorem put_get (a : Act) (d : Option Tmp) (x : Value) (t : Tmp) (hd : ∀ t, d = some t → t < a.tmps.size) : (a.put d x).tmps.getD t undef = if d = some t then x else a.tmps.getD t undef := by
  cases d with
  | none => rfl
  | some d =>
    show (a.tmps.setIfInBounds d x).getD t undef = _
    rw [getD_set]
    have := hd d rfl
    by_cases h : d = t
    · subst h; simp [this]
    · simp [h]

variable (R : Reg P cx ρ cf nt ops l bs E S Hs V B)
include R

/-- An operation that leaves the world alone, and makes nothing. -/
theorem Reg.step_calm {L0 : Nat → Loc} {w0 : World} {q : Nat} {X : Nat → Prop} {L : Nat → Loc} {a : Act} {w : World} (I : Inv ρ nt l bs E S Hs V B ds L0 w0 q X L a w) {k : Nat} {s : Step} (hs : l[k]? = some s) (hk : ¬ X k)
    (hanc : ∀ (k' : Nat) (s' : Step), l[k']? = some s' → bit (bget bs s.i) s'.i = true → X k') (hc : s.c < 3) (hA : ¬ IsA l B k) {x : Value} (hx : ∀ L', Ag l S B q X (S (k + 1)).nx L L' → x = conc L' ρ (V k)) :
    Inv ρ nt l bs E S Hs V B ds L0 w0 q (fun j => X j ∨ j = k) L (a.put s.o.dst x) w := by
  have hd : ∀ t, s.o.dst = some t → t < a.tmps.size := fun t h => by rw [I.tsize]; exact (R.tr k s hs).dst t h
  have hal : ∀ id, Alive l S B q (fun j => X j ∨ j = k) id → Alive l S B q X id := by
    rintro id (h | ⟨k2, h1, h2 | rfl, h3, h4⟩)
    · exact .inl h
    · exact .inr ⟨k2, h1, h2, h3, h4⟩
    · exact absurd h3 hA
  have hal' : ∀ id, Alive l S B q X id → Alive l S B q (fun j => X j ∨ j = k) id := by
    rintro id (h | ⟨k2, h1, h2, h3, h4⟩)
    · exact .inl h
    · exact .inr ⟨k2, h1, .inl h2, h3, h4⟩
  have hag : ∀ {m L'}, Ag l S B q (fun j => X j ∨ j = k) m L L' → Ag l S B q X m L L' := fun h id ha hi => h id (hal' id ha) hi
  have hhas : ∀ {id o}, Has l S B q (fun j => X j ∨ j = k) id o → Has l S B q X id o := by
    rintro id o (h | ⟨k2, h1, h2 | rfl, h3, h4⟩)
    · exact .inl h
    · exact .inr ⟨k2, h1, h2, h3, h4⟩
    · exact absurd h3 hA
  exact {
    qle := I.qle
    qX := fun j hj => .inl (I.qX j hj)
    xN := fun j hj => by rcases hj with hj | rfl; exact I.xN j hj; exact lt_of_at hs
    noW := fun j hq hj => by
      rcases hj with hj | rfl
      · exact I.noW j hq hj
      · rintro ⟨s', hs', h3⟩
        rw [hs] at hs'
        simp at hs'
        subst hs'
        omega
    qH := I.qH
    clos := fun j sj hj hsj k' s' hs' hb => by
      rcases hj with hj | rfl
      · exact .inl (I.clos j sj hj hsj k' s' hs' hb)
      · rw [hs] at hsj
        simp at hsj
        subst hsj
        exact .inl (hanc k' s' hs' hb)
    val := fun j sj t hj hsj hdj L' hL => by
      rw [put_get _ _ _ _ hd]
      rcases hj with hj | rfl
      · rw [if_neg (fun hh => hk (by rw [R.uniq hs hsj hh hdj]; exact hj))]
        exact I.val j sj t hj hsj hdj L' (hag hL)
      · rw [hs] at hsj
        simp at hsj
        subst hsj
        rw [if_pos hdj]
        exact hx L' (hag hL)
    old := fun t ht v hv L' hL => by
      rw [put_get _ _ _ _ hd, if_neg (ht k s (.inr rfl) hs)]
      exact I.old t (fun j sj hj hsj => ht j sj (.inl hj) hsj) v hv L' hL
    objq := fun L' hL => I.objq L' (hag hL)
    obja := fun j hq hj hAj o ho L' hL => by
      rcases hj with hj | rfl
      · exact I.obja j hq hj hAj o ho L' (hag hL)
      · exact absurd hAj hA
    inj := fun i j oi oj hi hj => I.inj i j oi oj (hhas hi) (hhas hj)
    agree := I.agree
    glq := I.glq
    pin := I.pin
    size := I.size
    os := I.os
    tape := I.tape
    output := I.output
    keep := I.keep
    owns := fun b hb hn id o ho => I.owns b hb hn id o (hhas ho)
    tsize := by rw [put_size, I.tsize]
    dfr := by rw [put_defers, I.dfr] }

/-- An operation that makes an object. -/
theorem Reg.step_alloc {L0 : Nat → Loc} {w0 : World} {q : Nat} {X : Nat → Prop} {L : Nat → Loc} {a : Act} {w : World} (I : Inv ρ nt l bs E S Hs V B ds L0 w0 q X L a w) {k : Nat} {s : Step} (hs : l[k]? = some s) (hk : ¬ X k)
    (hanc : ∀ (k' : Nat) (s' : Step), l[k']? = some s' → bit (bget bs s.i) s'.i = true → X k') (hA : IsA l B k) {ao : AObj} {f : Nat → AV} (hV : V k = f (S k).nx) (hS : S (k + 1) = (S k).new ao) {x : Value} {c : Obj}
    (hx : ∀ L', Ag l S B q X (S k).nx L L' → L' (S k).nx = ⟨w.heap.size, 0, 0⟩ → x = conc L' ρ (f (S k).nx) ∧ ObjAt L' ρ { w with heap := w.heap.push c } ⟨w.heap.size, 0, 0⟩ ao) :
    ∃ L1, Inv ρ nt l bs E S Hs V B ds L0 w0 q (fun j => X j ∨ j = k) L1 (a.put s.o.dst x) { w with heap := w.heap.push c } := by
  have hd : ∀ t, s.o.dst = some t → t < a.tmps.size := fun t h => by rw [I.tsize]; exact (R.tr k s hs).dst t h
  have hkl := lt_of_at hs
  have hqk : q ≤ k := by
    rcases Nat.lt_or_ge k q with hh | hh
    · exact absurd (I.qX k hh) hk
    · exact hh
  have hcs : s.c = 2 := by
    obtain ⟨s', hs', h2, _⟩ := hA
    rw [hs] at hs'
    simp at hs'
    subst hs'
    exact h2
  have hnx : (S (k + 1)).nx = (S k).nx + 1 := by rw [hS]; rfl
  have isA_nx : ∀ j, IsA l B j → (S (j + 1)).nx = (S j).nx + 1 := fun j hj => by
    obtain ⟨sj, hsj, h2, hb⟩ := hj
    rcases R.calm hsj (by omega) with ⟨_, ao', f', _, _, he⟩ | ⟨hn, _, _⟩
    · rw [he]; rfl
    · exact absurd ⟨sj, hsj, h2, hb⟩ hn
  have hdead : ∀ id, Alive l S B q X id → id ≠ (S k).nx := by
    rintro id (h | ⟨k2, h1, h2, h3, rfl⟩) he
    · have := R.nx_mono hqk (by omega)
      omega
    · have hk2 := I.xN k2 h2
      have n2 := isA_nx k2 h3
      rcases Nat.lt_trichotomy k2 k with hlt | rfl | hlt
      · have := R.nx_mono (show k2 + 1 ≤ k by omega) (by omega)
        omega
      · exact hk h2
      · have := R.nx_mono (show k + 1 ≤ k2 by omega) (by omega)
        omega
  have hal' : ∀ id, Alive l S B q X id → Alive l S B q (fun j => X j ∨ j = k) id := by
    rintro id (h | ⟨k2, h1, h2, h3, h4⟩)
    · exact .inl h
    · exact .inr ⟨k2, h1, .inl h2, h3, h4⟩
  have hnew : Alive l S B q (fun j => X j ∨ j = k) (S k).nx := .inr ⟨k, hqk, .inr rfl, hA, rfl⟩
  have hagL : ∀ {m L'}, Ag l S B q (fun j => X j ∨ j = k) m (fun i => if i = (S k).nx then ⟨w.heap.size, 0, 0⟩ else L i) L' → Ag l S B q X m L L' := fun h id ha hi => by
    rw [h id (hal' id ha) hi]
    exact if_neg (hdead id ha)
  have hagn : ∀ {m L'}, Ag l S B q (fun j => X j ∨ j = k) m (fun i => if i = (S k).nx then ⟨w.heap.size, 0, 0⟩ else L i) L' → (S k).nx < m → L' (S k).nx = ⟨w.heap.size, 0, 0⟩ := fun h hm => by
    rw [h _ hnew hm]
    exact if_pos rfl
  have hhas : ∀ {id o}, Has l S B q (fun j => X j ∨ j = k) id o → (Has l S B q X id o) ∨ id = (S k).nx := by
    rintro id o (h | ⟨k2, h1, h2 | rfl, h3, h4⟩)
    · exact .inl (.inl h)
    · exact .inl (.inr ⟨k2, h1, h2, h3, h4⟩)
    · exact .inr h4.1
  have hLo : ∀ {id o}, Has l S B q X id o → (if id = (S k).nx then (⟨w.heap.size, 0, 0⟩ : Loc) else L id) = L id := fun h => if_neg (hdead _ (I.alive_of_has h))
  have hblk : ∀ {id o}, Has l S B q X id o → (L id).b < w.heap.size := fun h => by
    obtain ⟨y, hy⟩ := (I.obj h).block
    exact lt_of_some hy
  have hkeep : ∀ {L' : Nat → Loc} {lo : Loc} {o : AObj}, ObjAt L' ρ w lo o → ObjAt L' ρ { w with heap := w.heap.push c } lo o := fun h => by
    obtain ⟨y, hy⟩ := h.block
    exact h.keep ((WNew.push w c).other _ (lt_of_some hy))
  refine ⟨fun i => if i = (S k).nx then ⟨w.heap.size, 0, 0⟩ else L i, {
    qle := I.qle
    qX := fun j hj => .inl (I.qX j hj)
    xN := fun j hj => by rcases hj with hj | rfl; exact I.xN j hj; exact hkl
    noW := fun j hq hj => by
      rcases hj with hj | rfl
      · exact I.noW j hq hj
      · rintro ⟨s', hs', h3⟩
        rw [hs] at hs'
        simp at hs'
        subst hs'
        omega
    qH := I.qH
    clos := fun j sj hj hsj k' s' hs' hb => by
      rcases hj with hj | rfl
      · exact .inl (I.clos j sj hj hsj k' s' hs' hb)
      · rw [hs] at hsj
        simp at hsj
        subst hsj
        exact .inl (hanc k' s' hs' hb)
    val := fun j sj t hj hsj hdj L' hL => by
      rw [put_get _ _ _ _ hd]
      rcases hj with hj | rfl
      · rw [if_neg (fun hh => hk (by rw [R.uniq hs hsj hh hdj]; exact hj))]
        exact I.val j sj t hj hsj hdj L' (hagL hL)
      · rw [hs] at hsj
        simp at hsj
        subst hsj
        rw [if_pos hdj, hV]
        exact (hx L' ((hagL hL).mono (by omega)) (hagn hL (by omega))).1
    old := fun t ht v hv L' hL => by
      rw [put_get _ _ _ _ hd, if_neg (ht k s (.inr rfl) hs)]
      refine I.old t (fun j sj hj hsj => ht j sj (.inl hj) hsj) v hv L' (fun id hid => ?_)
      rw [hL id hid]
      exact if_neg (fun hh => by have := R.nx_mono (Nat.zero_le k) (by omega); omega)
    objq := fun L' hL id o ho => ⟨(I.objq L' (hagL hL) id o ho).1, hkeep (I.objq L' (hagL hL) id o ho).2⟩
    obja := fun j hq hj hAj o ho L' hL => by
      rcases hj with hj | rfl
      · exact hkeep (I.obja j hq hj hAj o ho L' (hagL hL))
      · have hl := hagn hL (by omega)
        rw [hl]
        have : o = ao := by
          rw [hS] at ho
          have ho : ((S j).H.set (S j).nx ao).get (S j).nx = some o := ho
          rw [Tr.get_set_same] at ho
          simp at ho
          exact ho.symm
        subst this
        exact (hx L' ((hagL hL).mono (by omega)) hl).2
    inj := fun i j oi oj hi hj hb => by
      try dsimp only at hb
      rcases hhas hi with hi' | hi' <;> rcases hhas hj with hj' | hj'
      · rw [hLo hi', hLo hj'] at hb
        exact I.inj i j oi oj hi' hj' hb
      · rw [hLo hi', if_pos hj'] at hb
        have := hblk hi'
        rw [hb] at this
        simp at this
      · rw [hLo hj', if_pos hi'] at hb
        have := hblk hj'
        rw [← hb] at this
        simp at this
      · rw [hi', hj']
    glq := I.glq
    pin := I.pin
    agree := fun id hid => by
      have := R.nx_mono (Nat.zero_le k) (by omega)
      exact (if_neg (by omega)).trans (I.agree id hid)
    size := by simp; have := I.size; omega
    os := I.os
    tape := I.tape
    output := I.output
    keep := fun b hb hn => ((WNew.push w c).other b (Nat.lt_of_lt_of_le hb I.size)).trans (I.keep b hb hn)
    owns := fun b hb hn id o ho => by
      try dsimp only
      rcases hhas ho with ho' | ho'
      · rw [hLo ho']; exact I.owns b hb hn id o ho'
      · rw [if_pos ho']
        have := I.size
        show w.heap.size ≠ b
        omega
    tsize := by rw [put_size, I.tsize]
    dfr := by rw [put_defers, I.dfr] }⟩
end
end Ab
