/- E, part 26: a region in whatever order: what holds on the way. -/
import Derived.Test.YtckfbdnkgjpmlaaGreatDoorE25
namespace Ab
open Go

/-- A region, its plan and the plan's trace. -/
structure Reg (P : Program) (cx : Ctx) (ρ : Env) (cf : CallF) (nt : Nat) (ops : Array Oper) (l : List Step) (bs : Tr Nat) (E : Nat → Tr AV) (S : Nat → St) (Hs : Nat → List (Tr AObj)) (V : Nat → AV) (B : Nat → Bool) : Prop where
  ok : cx.Ok P
  gl : cx.gl ≤ ρ.gl
  cf_ : CallSound P ρ cf
  pl : PlanOk cx ops.toList bs l
  tr : ∀ (k : Nat) (s : Step), l[k]? = some s → StepOk cx cf nt ops.toList ρ s (E k) (S k) (Hs k) (V k) (B k) (E (k + 1)) (S (k + 1)) (Hs (k + 1))
  hs0 : Hs 0 = [(S 0).H]

section
variable {P : Program} {cx : Ctx} {ρ : Env} {cf : CallF} {nt : Nat} {ops : Array Oper} {l : List Step} {bs : Tr Nat} {E : Nat → Tr AV} {S : Nat → St} {Hs : Nat → List (Tr AObj)} {V : Nat → AV} {B : Nat → Bool}

def IsW (l : List Step) (k : Nat) : Prop := ∃ s, l[k]? = some s ∧ 3 ≤ s.c
def IsA (l : List Step) (B : Nat → Bool) (k : Nat) : Prop := ∃ s, l[k]? = some s ∧ s.c = 2 ∧ B k = true

theorem at_of_lt {l : List Step} {k : Nat} (h : k < l.length) : ∃ s, l[k]? = some s := ⟨l[k], List.getElem?_eq_getElem h⟩
theorem lt_of_at {l : List Step} {k : Nat} {s : Step} (h : l[k]? = some s) : k < l.length := by
  rcases Nat.lt_or_ge k l.length with hh | hh
  · exact hh
  · rw [List.getElem?_eq_none hh] at h; cases h

variable (R : Reg P cx ρ cf nt ops l bs E S Hs V B)
include R

theorem Reg.nx_mono {k k' : Nat} (h : k ≤ k') (hk : k' ≤ l.length) : (S k).nx ≤ (S k').nx := by
  induction k' with
  | zero => rw [show k = 0 by omega]; exact Nat.le_refl _
  | succ k' ih =>
    rcases Nat.eq_or_lt_of_le h with rfl | hlt
    · exact Nat.le_refl _
    · obtain ⟨s, hs⟩ := at_of_lt (show k' < l.length by omega)
      exact Nat.le_trans (ih (by omega) (by omega)) (R.tr k' s hs).nx
/-- What an operation does that writes nothing. -/
theorem Reg.calm {k : Nat} {s : Step} (hs : l[k]? = some s) (hc : s.c < 3) :
    (IsA l B k ∧ ∃ ao f, (allocE cx (opnd cx.gl (E k)) s.o.op (S k).fx).at_ ρ = some (ao, f) ∧ V k = f (S k).nx ∧ S (k + 1) = (S k).new ao) ∨ (¬ IsA l B k ∧ (S (k + 1)).H = (S k).H ∧ (S (k + 1)).nx = (S k).nx) := by
  have h := R.tr k s hs
  by_cases hA : IsA l B k
  · refine .inl ⟨hA, ?_⟩
    obtain ⟨s', hs', h2, hb⟩ := hA
    rw [hs] at hs'
    simp at hs'
    subst hs'
    have ho := h.op hb (by omega)
    rw [h2] at ho
    have ho : ((allocE cx (opnd cx.gl (E k)) s.o.op (S k).fx).bind fun p => T.ret (p.2 (S k).nx, (S k).new p.1)).at_ ρ = some (V k, S (k + 1)) := ho
    replace ho := T.at_bind_some.1 ho
    obtain ⟨⟨ao, f⟩, h1, ho⟩ := ho
    replace ho := ret_at ho
    exact ⟨ao, f, h1, ho.1, ho.2⟩
  · refine .inr ⟨hA, ?_⟩
    cases hb : B k with
    | false => rw [(h.no hb).2]; exact ⟨rfl, rfl⟩
    | true =>
      by_cases h1 : s.c = 1
      · exact ⟨(h.read hb h1).1, (h.read hb h1).2.1⟩
      · have h2 : s.c ≠ 2 := fun hh => hA ⟨s, hs, hh, hb⟩
        have h0 : s.c = 0 := by omega
        have ho := h.op hb h1
        rw [h0] at ho
        have ho : ((pureE cx (opnd cx.gl (E k)) s.o.op (S k).fx).bind fun p => T.ret (p.1, (⟨(S k).H, (S k).nx, p.2⟩ : St))).at_ ρ = some (V k, S (k + 1)) := ho
        replace ho := T.at_bind_some.1 ho
        obtain ⟨⟨v, fx⟩, _, ho⟩ := ho
        replace ho := ret_at ho
        rw [ho.2]
        exact ⟨rfl, rfl⟩
/-- The heap at a place of the plan, as it grew since another one with no writer between. -/
theorem Reg.between {q k : Nat} (h : q ≤ k) (hk : k ≤ l.length) (hn : ∀ k', q ≤ k' → k' < k → ¬ IsW l k') :
    (∀ id o, (S k).H.get id = some o → (S q).H.get id = some o ∨ ∃ k', q ≤ k' ∧ k' < k ∧ IsA l B k' ∧ id = (S k').nx ∧ (S (k' + 1)).H.get id = some o) ∧
    (∀ id, id < (S k).nx → id < (S q).nx ∨ ∃ k', q ≤ k' ∧ k' < k ∧ IsA l B k' ∧ id = (S k').nx) := by
  induction k with
  | zero => rw [show q = 0 by omega]; exact ⟨fun _ _ h => .inl h, fun _ h => .inl h⟩
  | succ k ih =>
    rcases Nat.eq_or_lt_of_le h with rfl | hlt
    · exact ⟨fun _ _ h => .inl h, fun _ h => .inl h⟩
    · obtain ⟨i1, i2⟩ := ih (by omega) (by omega) (fun k' a b => hn k' a (by omega))
      obtain ⟨s, hs⟩ := at_of_lt (show k < l.length by omega)
      have hc : s.c < 3 := by
        rcases Nat.lt_or_ge s.c 3 with hh | hh
        · exact hh
        · exact absurd ⟨s, hs, hh⟩ (hn k (by omega) (by omega))
      have up : ∀ id o, ((S q).H.get id = some o ∨ ∃ k', q ≤ k' ∧ k' < k ∧ IsA l B k' ∧ id = (S k').nx ∧ (S (k' + 1)).H.get id = some o) →
          (S q).H.get id = some o ∨ ∃ k', q ≤ k' ∧ k' < k + 1 ∧ IsA l B k' ∧ id = (S k').nx ∧ (S (k' + 1)).H.get id = some o := by
        rintro id o (h | ⟨k', h1, h2, h3⟩)
        · exact .inl h
        · exact .inr ⟨k', h1, by omega, h3⟩
      have up2 : ∀ id, (id < (S q).nx ∨ ∃ k', q ≤ k' ∧ k' < k ∧ IsA l B k' ∧ id = (S k').nx) → id < (S q).nx ∨ ∃ k', q ≤ k' ∧ k' < k + 1 ∧ IsA l B k' ∧ id = (S k').nx := by
        rintro id (h | ⟨k', h1, h2, h3⟩)
        · exact .inl h
        · exact .inr ⟨k', h1, by omega, h3⟩
      rcases R.calm hs hc with ⟨hA, ao, f, _, _, he⟩ | ⟨_, h1, h2⟩
      · refine ⟨fun id o ho => ?_, fun id hid => ?_⟩
        · by_cases e : id = (S k).nx
          · exact .inr ⟨k, by omega, by omega, hA, e, ho⟩
          · rw [he] at ho
            have ho : ((S k).H.set (S k).nx ao).get id = some o := ho
            rw [Tr.get_set_ne _ _ e] at ho
            exact up id o (i1 id o ho)
        · by_cases e : id = (S k).nx
          · exact .inr ⟨k, by omega, by omega, hA, e⟩
          · rw [he] at hid
            have hid : id < (S k).nx + 1 := hid
            exact up2 id (i2 id (by omega))
      · exact ⟨fun id o ho => up id o (i1 id o (by rw [← h1]; exact ho)), fun id hid => up2 id (i2 id (by rw [← h2]; exact hid))⟩
omit R in
theorem wlAt_succ : ∀ {l : List Step} {wl : List Nat} {k : Nat} {s : Step}, l[k]? = some s → wlAt l wl (k + 1) = if 3 ≤ s.c then s.i :: wlAt l wl k else wlAt l wl k
  | [], _, _, _, h => by simp at h
  | x :: l, wl, 0, s, h => by
    simp at h
    subst h
    cases l <;> simp [wlAt]
  | x :: l, wl, k + 1, s, h => by
    rw [wlAt, wlAt]
    exact wlAt_succ (by simpa using h)
theorem Reg.news {q k : Nat} (h : q ≤ k) (hk : k ≤ l.length) : ∃ new : List Nat, wlAt l [] k = new ++ wlAt l [] q ∧
    (∀ i ∈ new, ∃ k' s', q ≤ k' ∧ k' < k ∧ l[k']? = some s' ∧ s'.i = i ∧ 3 ≤ s'.c) ∧ (Hs k)[new.length]? = (Hs q)[0]? := by
  induction k with
  | zero => rw [show q = 0 by omega]; exact ⟨[], rfl, by simp, rfl⟩
  | succ k ih =>
    rcases Nat.eq_or_lt_of_le h with rfl | hlt
    · exact ⟨[], rfl, by simp, rfl⟩
    · obtain ⟨new, h1, h2, h3⟩ := ih (by omega) (by omega)
      obtain ⟨s, hs⟩ := at_of_lt (show k < l.length by omega)
      have hh := (R.tr k s hs).heaps
      rw [wlAt_succ hs, hh]
      by_cases hc : 3 ≤ s.c
      · refine ⟨s.i :: new, by rw [if_pos hc, h1]; rfl, fun i hi => ?_, ?_⟩
        · rcases List.mem_cons.1 hi with rfl | hi
          · exact ⟨k, s, by omega, by omega, hs, rfl, hc⟩
          · obtain ⟨k', s', a, b, c⟩ := h2 i hi
            exact ⟨k', s', a, by omega, c⟩
        · rw [if_pos hc]
          exact h3
      · refine ⟨new, by rw [if_neg hc, h1], fun i hi => ?_, by rw [if_neg hc]; exact h3⟩
        obtain ⟨k', s', a, b, c⟩ := h2 i hi
        exact ⟨k', s', a, by omega, c⟩
/-! ### Temporaries along the plan -/
theorem Reg.uniq {k k' : Nat} {s s' : Step} {t : Tmp} (hs : l[k]? = some s) (hs' : l[k']? = some s') (hd : s.o.dst = some t) (hd' : s'.o.dst = some t) : k = k' :=
  R.pl.dist k k' s s' hs hs' (R.pl.dst1 _ _ _ _ t (R.pl.from_ k s hs).1 (R.pl.from_ k' s' hs').1 hd hd')
theorem Reg.env_some {t : Tmp} {k' : Nat} {s' : Step} (hs' : l[k']? = some s') (hd : s'.o.dst = some t) : ∀ {k : Nat}, k' < k → k ≤ l.length → (E k).get t = some (V k') := by
  intro k
  induction k with
  | zero => intro h; omega
  | succ k ih =>
    intro h hk
    obtain ⟨s, hs⟩ := at_of_lt (show k < l.length by omega)
    rw [(R.tr k s hs).env]
    unfold setD
    by_cases e : k' = k
    · subst e
      rw [hs] at hs'
      simp at hs'
      subst hs'
      rw [hd]
      exact Tr.get_set_same _ _ _
    · have := ih (by omega) (by omega)
      cases hds : s.o.dst with
      | none => exact this
      | some t' =>
        simp only
        rw [Tr.get_set_ne _ _ (fun hh => e (R.uniq hs' hs hd (by rw [hds, hh])))]
        exact this
theorem Reg.env_none {t : Tmp} : ∀ {k : Nat}, k ≤ l.length → (∀ k' s', k' < k → l[k']? = some s' → s'.o.dst ≠ some t) → (E k).get t = (E 0).get t := by
  intro k
  induction k with
  | zero => intro _ _; rfl
  | succ k ih =>
    intro hk hn
    obtain ⟨s, hs⟩ := at_of_lt (show k < l.length by omega)
    have hne := hn k s (by omega) hs
    rw [(R.tr k s hs).env]
    have := ih (by omega) (fun k' s' h => hn k' s' (by omega))
    unfold setD
    cases hds : s.o.dst with
    | none => exact this
    | some t' =>
      simp only
      rw [Tr.get_set_ne _ _ (fun hh => hne (by rw [hds, hh]))]
      exact this
end
end Ab
