/- E, part 30: a region in whatever order. -/
import Derived.Test.YtckfbdnkgjpmlaaGreatDoorE29
namespace Ab
open Go

section
variable {P : Program} {cx : Ctx} {ρ : Env} {cf : CallF} {nt : Nat} {ops : Array Oper} {l : List Step} {bs : Tr Nat} {E : Nat → Tr AV} {S : Nat → St} {Hs : Nat → List (Tr AObj)} {V : Nat → AV} {B : Nat → Bool} {ds : List Deferred} {fq : Option Nat}

def Xof (l : List Step) (listed : Array Bool) (k : Nat) : Prop := ∃ s, l[k]? = some s ∧ listed[s.i]? = some true

theorem binds_any (e : Edge) : Region.binds .any e = bindsAny e := by
  unfold Region.binds bindsAny
  cases e.ground <;> rfl
theorem mem_ready {ops : Array Oper} {listed : Array Bool} {i : Nat} : i ∈ Region.ready .any ops listed ↔ i < ops.size ∧ listed.getD i true = false ∧ ∃ o, ops[i]? = some o ∧ ∀ e ∈ o.after.toList, bindsAny e = true → listed.getD e.on false = true := by
  unfold Region.ready
  rw [List.mem_filter, List.mem_range]
  constructor
  · rintro ⟨h1, h2⟩
    rw [Bool.and_eq_true] at h2
    obtain ⟨h2, h3⟩ := h2
    refine ⟨h1, by simpa using h2, ?_⟩
    cases ho : ops[i]? with
    | none => rw [ho] at h3; simp at h3
    | some o =>
      rw [ho] at h3
      simp only [Option.map_some, Option.getD_some] at h3
      refine ⟨o, rfl, fun e he hb => ?_⟩
      rw [← Array.all_toList, List.all_eq_true] at h3
      have := h3 e he
      rw [binds_any, hb] at this
      simpa using this
  · rintro ⟨h1, h2, o, ho, h3⟩
    refine ⟨h1, ?_⟩
    rw [h2, ho]
    simp only [Bool.not_false, Bool.true_and, Option.map_some, Option.getD_some]
    rw [← Array.all_toList, List.all_eq_true]
    intro e he
    rw [binds_any]
    cases hb : bindsAny e with
    | false => rfl
    | true => rw [h3 e he hb]; rfl
theorem getD_true {listed : Array Bool} {i : Nat} : listed.getD i false = true ↔ listed[i]? = some true := by
  rw [Array.getD_eq_getD_getElem?]
  cases listed[i]? with
  | none => simp
  | some b => cases b <;> simp
theorem getD_false {listed : Array Bool} {i : Nat} : listed.getD i true = false ↔ listed[i]? = some false := by
  rw [Array.getD_eq_getD_getElem?]
  cases listed[i]? with
  | none => simp
  | some b => cases b <;> simp

variable (R : Reg P cx ρ cf nt ops l bs E S Hs V B)
include R

theorem Reg.finish {L0 : Nat → Loc} {w0 : World} {q : Nat} {X : Nat → Prop} {L : Nat → Loc} {a : Act} {w : World} (I : Inv ρ nt l bs E S Hs V B ds L0 w0 q X L a w) (hall : ∀ k, k < l.length → X k) (hfx : FxOk ρ (S l.length).fx) :
    Goes ρ L0 (S 0) w0 (E l.length) nt [] ds (S l.length) a w := by
  obtain ⟨has, sim⟩ := R.sim_at I (Nat.le_refl _) I.qle hall
  refine ⟨L, I.agree, R.nx_mono (Nat.zero_le _) (Nat.le_refl _), ⟨I.size, I.os, I.tape, I.output, I.keep, fun b hb hn id o ho => I.owns b hb hn id o (has id o ho)⟩, ⟨fun L' hL t v hv => ?_, sim, hfx, I.tsize, I.dfr⟩⟩
  by_cases hex : ∃ (k' : Nat) (s' : Step), l[k']? = some s' ∧ s'.o.dst = some t
  · obtain ⟨k', s', hs', hd⟩ := hex
    have hlt := lt_of_at hs'
    rw [R.env_some hs' hd hlt (Nat.le_refl _)] at hv
    simp at hv
    subst hv
    exact I.val k' s' t (hall k' hlt) hs' hd L' (Ag.of_agree (hL.mono (R.nx_mono hlt (Nat.le_refl _))))
  · rw [R.env_none (Nat.le_refl _) (fun k' s' _ hs' hd => hex ⟨k', s', hs', hd⟩)] at hv
    exact I.old t (fun k' s' _ hs' hd => hex ⟨k', s', hs', hd⟩) v hv L' (hL.mono (R.nx_mono (Nat.zero_le _) (Nat.le_refl _)))

theorem Reg.any {n : Nat} {Q : Exit → Act → World → Prop} {L0 : Nat → Loc} {w0 : World} (hfx : FxOk ρ (S l.length).fx) (hQ : ∀ a w, Goes ρ L0 (S 0) w0 (E l.length) nt [] ds (S l.length) a w → Q .normal a w) :
    ∀ (fuel : Nat) (listed : Array Bool) (q : Nat) (L : Nat → Loc) (a : Act) (w : World), listed.size = ops.size → listed.toList.count false ≤ fuel → Inv ρ nt l bs E S Hs V B ds L0 w0 q (Xof l listed) L a w →
      wpAnyIn (fw fq) n P .any ops Q fuel listed a w := by
  have hfin : ∀ {listed : Array Bool} {q : Nat} {L : Nat → Loc} {a : Act} {w : World}, listed.size = ops.size → Inv ρ nt l bs E S Hs V B ds L0 w0 q (Xof l listed) L a w → Region.ready .any ops listed = [] → Q .normal a w := by
    intro listed q L a w hsz I hr
    have all : ∀ i, i < ops.size → listed[i]? = some true := by
      intro i
      induction i using Nat.strongRecOn with
      | ind i ih =>
        intro hi
        cases hli : listed[i]? with
        | none => rw [Array.getElem?_eq_none_iff] at hli; omega
        | some b =>
          cases b with
          | true => rfl
          | false =>
            exfalso
            have hmem : i ∈ Region.ready .any ops listed := by
              refine mem_ready.2 ⟨hi, getD_false.2 hli, ops[i], Array.getElem?_eq_getElem hi, fun e he hb => ?_⟩
              have hlt := R.pl.elt i ops[i] e (by simp [hi]) he hb
              exact getD_true.2 (ih e.on hlt (by omega))
            rw [hr] at hmem
            simp at hmem
    refine hQ a w (R.finish I (fun k hk => ?_) hfx)
    obtain ⟨s, hs⟩ := at_of_lt hk
    refine ⟨s, hs, all s.i ?_⟩
    have := (R.pl.from_ k s hs).1
    rcases Nat.lt_or_ge s.i ops.size with hh | hh
    · exact hh
    · rw [List.getElem?_eq_none (by simpa using hh)] at this; cases this
  intro fuel
  induction fuel with
  | zero =>
    intro listed q L a w hsz hcnt I
    have hr : Region.ready .any ops listed = [] := by
      cases hr : Region.ready .any ops listed with
      | nil => rfl
      | cons i r =>
        exfalso
        have hi : i ∈ Region.ready .any ops listed := by rw [hr]; simp
        have h2 := getD_false.1 (mem_ready.1 hi).2.1
        have : false ∈ listed.toList := List.mem_of_getElem? (by simpa using h2)
        have := List.count_pos_iff.2 this
        omega
    exact ⟨hr, hfin hsz I hr⟩
  | succ fuel ih =>
    intro listed q L a w hsz hcnt I
    refine ⟨fun hr => hfin hsz I hr, fun i hi => ?_⟩
    obtain ⟨h1, h2, o, ho, h3⟩ := mem_ready.1 hi
    have h2 := getD_false.1 h2
    obtain ⟨k, s, hs, rfl⟩ := R.pl.all i (by simpa using h1)
    have hk : ¬ Xof l listed k := by
      rintro ⟨s', hs', ht⟩
      rw [hs] at hs'
      simp at hs'
      subst hs'
      rw [h2] at ht
      cases ht
    have hanc : ∀ (k' : Nat) (s' : Step), l[k']? = some s' → bit (bget bs s.i) s'.i = true → Xof l listed k' := by
      intro k' s' hs' hb
      obtain ⟨e, he, hbi, hlt, hor⟩ := R.pl.edge s.i o s'.i (by simpa using ho) hb
      have hle := getD_true.1 (h3 e he hbi)
      rcases hor with heq | hbit
      · exact ⟨s', hs', by rw [← heq]; exact hle⟩
      · obtain ⟨k2, s2, hs2, he2⟩ := R.pl.all e.on (by simp; omega)
        exact I.clos k2 s2 ⟨s2, hs2, by rw [he2]; exact hle⟩ hs2 k' s' hs' (by rw [he2]; exact hbit)
    refine R.step I hs hk hanc (fun q' L' a' w' I' => ih _ q' L' a' w' (by simpa using hsz) ?_ ?_)
    · rw [Array.toList_setIfInBounds, List.count_set (by simpa [hsz] using h1)]
      have hg : listed.toList[s.i]'(by simpa [hsz] using h1) = false := by
        have := List.getElem?_eq_getElem (l := listed.toList) (i := s.i) (by simpa [hsz] using h1)
        rw [show listed.toList[s.i]? = some false by simpa using h2] at this
        simpa using this.symm
      have hpos : 0 < listed.toList.count false := List.count_pos_iff.2 (List.mem_of_getElem? (show listed.toList[s.i]? = some false by simpa using h2))
      rw [hg]
      have h5 : listed.toList.count false - 1 + 0 ≤ fuel := by omega
      exact h5
    · have e : (fun j => Xof l listed j ∨ j = k) = Xof l (listed.setIfInBounds s.i true) := by
        funext j
        apply propext
        constructor
        · rintro (⟨sj, hsj, ht⟩ | rfl)
          · refine ⟨sj, hsj, ?_⟩
            rw [Array.getElem?_setIfInBounds]
            split
            · rename_i e
              rw [← e] at ht
              rw [h2] at ht
              cases ht
            · exact ht
          · refine ⟨s, hs, ?_⟩
            rw [Array.getElem?_setIfInBounds_self_of_lt (by omega)]
        · rintro ⟨sj, hsj, ht⟩
          rw [Array.getElem?_setIfInBounds] at ht
          split at ht
          · rename_i e
            exact .inr (R.pl.dist j k sj s hsj hs e.symm)
          · exact .inl ⟨sj, hsj, ht⟩
      rw [← e]
      exact I'
end

section
variable {P : Program} {cx : Ctx} {ρ : Env} {fq : Option Nat} {ds : List Deferred}
/-- A REGION IN WHATEVER ORDER. -/
theorem regD_sound (ok : cx.Ok P) (hgl : cx.gl ≤ ρ.gl) {cf : CallF} (hcf : CallSound P ρ cf) {nt n id : Nat} {ops : Array Oper} {Q : Exit → Act → World → Prop} {l : List Step} (hp : plan cx ops.toList = some l) {e e' : Tr AV} {st st' : St}
    (h : (regD cx cf nt ops.toList l e st [st.H]).at_ ρ = some (e', st')) {L : Nat → Loc} {a : Act} {w : World} (hk : KS ρ L e nt ds st a w) (hQ : ∀ a' w', Goes ρ L st w e' nt [] ds st' a' w' → Q .normal a' w') :
    (Code.region id ops true).wpIn (fw fq) n P Q a w := by
  obtain ⟨bs, hpl⟩ := plan_ok hp
  obtain ⟨E, S, Hs, V, B, e0, s0, h0, eN, sN, htr⟩ := regD_trace ok hcf l hk.fx h
  have R : Reg P cx ρ cf nt ops l bs E S Hs V B := ⟨ok, hgl, hcf, hpl, htr, by rw [h0, s0]⟩
  subst e0 s0 eN sN
  have hfx : FxOk ρ (S l.length).fx := by
    cases hl : l.length with
    | zero => exact hk.fx
    | succ m =>
      obtain ⟨s, hs⟩ := at_of_lt (show m < l.length by omega)
      exact (htr m s hs).fx
  refine wpIn_region_any ok.mixed ?_
  have nox : ∀ k, ¬ Xof l (Array.replicate ops.size false) k := by
    rintro k ⟨s, hs, ht⟩
    rw [Array.getElem?_replicate] at ht
    split at ht <;> simp at ht
  have agr : ∀ {m L'}, Ag l S B 0 (Xof l (Array.replicate ops.size false)) m L L' → m = (S 0).nx → Agree (S 0).nx L L' := fun h hm id hid => h id (.inl hid) (by omega)
  have simk : ∀ L', Agree (S 0).nx L L' → Sim L' ρ (S 0).H { w with drawn := w.drawn + 1 } := fun L' ha => (hk.sim L' ha).keep rfl
  have hasH : ∀ {i o}, Has l S B 0 (Xof l (Array.replicate ops.size false)) i o → (S 0).H.get i = some o := by
    rintro i o (h | ⟨k, _, h2, _⟩)
    · exact h
    · exact absurd h2 (nox k)
  refine R.any (ds := ds) (L0 := L) (w0 := { w with drawn := w.drawn + 1 }) hfx (fun a' w' hg => hQ a' w' ?_) ops.size _ 0 L a _ (by simp) ?_ ?_
  · obtain ⟨L1, g1, g2, g3, g4⟩ := hg
    exact ⟨L1, g1, g2, ⟨g3.size, g3.os, g3.tape, g3.output, g3.keep, g3.owns⟩, g4⟩
  · simp
  · exact {
      qle := Nat.zero_le _
      qX := fun k hk => by omega
      xN := fun k hX => absurd hX (nox k)
      noW := fun k _ hX => absurd hX (nox k)
      qH := by rw [h0]; rfl
      clos := fun k s hX => absurd hX (nox k)
      val := fun k s t hX => absurd hX (nox k)
      old := fun t _ v hv L' hL => hk.env L' hL t v hv
      objq := fun L' hL i o ho => ⟨id_lt simk ho, (simk L' (agr hL rfl)).at_ i o ho⟩
      obja := fun k _ hX => absurd hX (nox k)
      inj := fun i j oi oj hi hj hb => (simk L (Agree.refl _ _)).inj i j oi oj (hasH hi) (hasH hj) hb
      agree := Agree.refl _ _
      glq := gl_le simk
      pin := (simk L (Agree.refl _ _)).pin
      size := Nat.le_refl _
      os := rfl
      tape := rfl
      output := rfl
      keep := fun b hb hn => rfl
      owns := fun b hb hn i o ho => hn i o (hasH ho)
      tsize := hk.size
      dfr := hk.dfr }
end
end Ab
