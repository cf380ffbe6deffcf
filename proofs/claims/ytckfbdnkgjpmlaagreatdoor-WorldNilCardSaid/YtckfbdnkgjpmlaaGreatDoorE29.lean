/- E, part 29: a writer's step; a region in whatever order. -/
import Derived.Test.YtckfbdnkgjpmlaaGreatDoorE28
namespace Ab
open Go

section
variable {P : Program} {cx : Ctx} {ρ : Env} {cf : CallF} {nt : Nat} {ops : Array Oper} {l : List Step} {bs : Tr Nat} {E : Nat → Tr AV} {S : Nat → St} {Hs : Nat → List (Tr AObj)} {V : Nat → AV} {B : Nat → Bool} {ds : List Deferred} {fq : Option Nat}
variable (R : Reg P cx ρ cf nt ops l bs E S Hs V B)
include R

theorem Reg.isA_nx {j : Nat} (hj : IsA l B j) : (S (j + 1)).nx = (S j).nx + 1 := by
  obtain ⟨sj, hsj, h2, hb⟩ := hj
  rcases R.calm hsj (by omega) with ⟨_, ao', f', _, _, he⟩ | ⟨hn, _, _⟩
  · rw [he]; rfl
  · exact absurd ⟨sj, hsj, h2, hb⟩ hn
/-- At a place up to which all is done, the plan's heap lies in the world. -/
theorem Reg.sim_at {L0 : Nat → Loc} {w0 : World} {q : Nat} {X : Nat → Prop} {L : Nat → Loc} {a : Act} {w : World} (I : Inv ρ nt l bs E S Hs V B ds L0 w0 q X L a w) {k : Nat} (hk : k ≤ l.length) (hqk : q ≤ k) (hall : ∀ k', k' < k → X k') :
    (∀ id o, (S k).H.get id = some o → Has l S B q X id o) ∧ ∀ L', Agree (S k).nx L L' → Sim L' ρ (S k).H w := by
  obtain ⟨b1, b2⟩ := R.between hqk hk (fun k' h1 h2 => I.noW k' h1 (hall k' h2))
  have has : ∀ id o, (S k).H.get id = some o → Has l S B q X id o := fun id o ho => by
    rcases b1 id o ho with h | ⟨k', h1, h2, h3, h4, h5⟩
    · exact .inl h
    · exact .inr ⟨k', h1, hall k' h2, h3, h4, h5⟩
  refine ⟨has, fun L' hL => ⟨fun id o ho => ?_, fun i j oi oj hi hj hb => ?_, I.pinAg (R.nx_mono (Nat.zero_le q) I.qle) (R.nx_mono (Nat.zero_le k) hk) (Ag.of_agree hL)⟩⟩
  · rcases b1 id o ho with h | ⟨k', h1, h2, h3, rfl, h5⟩
    · exact (I.objq L' (Ag.of_agree (hL.mono (R.nx_mono hqk hk))) id o h).2
    · exact I.obja k' h1 (hall k' h2) h3 o h5 L' (Ag.of_agree (hL.mono (R.nx_mono h2 hk)))
  · have lt : ∀ id o, (S k).H.get id = some o → id < (S k).nx := fun id o ho => by
      rcases b1 id o ho with h | ⟨k', h1, h2, h3, rfl, h5⟩
      · exact Nat.lt_of_lt_of_le (I.objq L (Ag.refl _ _ _ _) id o h).1 (R.nx_mono hqk hk)
      · have := R.isA_nx h3
        have := R.nx_mono (show k' + 1 ≤ k from h2) hk
        omega
    rw [hL i (lt i oi hi), hL j (lt j oj hj)] at hb
    exact I.inj i j oi oj (has i oi hi) (has j oj hj) hb

theorem Reg.step_write {L0 : Nat → Loc} {w0 : World} {q : Nat} {X : Nat → Prop} {L : Nat → Loc} {a : Act} {w w' : World} (I : Inv ρ nt l bs E S Hs V B ds L0 w0 q X L a w) {k : Nat} {s : Step} (hs : l[k]? = some s) (hk : ¬ X k)
    (hanc : ∀ (k' : Nat) (s' : Step), l[k']? = some s' → bit (bget bs s.i) s'.i = true → X k') (hc : 3 ≤ s.c) {x : Value} (ht : Turns ρ L (S k) w (V k) (S (k + 1)) x w') :
    ∃ q' L1, Inv ρ nt l bs E S Hs V B ds L0 w0 q' (fun j => X j ∨ j = k) L1 (a.put s.o.dst x) w' := by
  have hd : ∀ t, s.o.dst = some t → t < a.tmps.size := fun t h => by rw [I.tsize]; exact (R.tr k s hs).dst t h
  have hkl := lt_of_at hs
  have hqk : q ≤ k := by
    rcases Nat.lt_or_ge k q with hh | hh
    · exact absurd (I.qX k hh) hk
    · exact hh
  have hall : ∀ k', k' < k → X k' := fun k' hlt => by
    obtain ⟨s', hs'⟩ := at_of_lt (show k' < l.length by omega)
    exact hanc k' s' hs' (R.pl.wr k s k' s' hs hc hlt hs')
  have hW : IsW l k := ⟨s, hs, hc⟩
  have hnA : ¬ IsA l B k := by
    rintro ⟨s', hs', h2, _⟩
    rw [hs] at hs'
    simp at hs'
    subst hs'
    omega
  obtain ⟨has, sim⟩ := R.sim_at I (by omega) hqk hall
  obtain ⟨L1, hag1, hnx, hfr, hfx, hfin⟩ := ht
  have nxk := R.nx_mono hqk (by omega)
  have early : ∀ k2, X k2 → q ≤ k2 → ¬ k2 < k → k + 1 ≤ k2 ∧ (S (k + 1)).nx ≤ (S k2).nx := fun k2 h2 _ h => by
    have hk2 := I.xN k2 h2
    have : k2 ≠ k := fun hh => hk (hh ▸ h2)
    exact ⟨by omega, R.nx_mono (by omega) (by omega)⟩
  let LN : Nat → Loc := fun id => if id < (S (k + 1)).nx then L1 id else L id
  have LNlt : ∀ id, id < (S (k + 1)).nx → LN id = L1 id := fun id h => if_pos h
  have LNge : ∀ id, ¬ id < (S (k + 1)).nx → LN id = L id := fun id h => if_neg h
  -- what was alive lies where it lay, and is alive
  have conv0 : ∀ id, Alive l S B q X id → Alive l S B (k + 1) (fun j => X j ∨ j = k) id ∧ LN id = L id := by
    rintro id (h | ⟨k2, h1, h2, h3, rfl⟩)
    · exact ⟨.inl (by omega), by rw [LNlt id (by omega), hag1 id (by omega)]⟩
    · by_cases hlt : k2 < k
      · have e1 := R.isA_nx h3
        have e2 := R.nx_mono (show k2 + 1 ≤ k from hlt) (by omega)
        exact ⟨.inl (by omega), by rw [LNlt _ (by omega), hag1 _ (by omega)]⟩
      · obtain ⟨e1, e2⟩ := early k2 h2 h1 hlt
        exact ⟨.inr ⟨k2, e1, .inl h2, h3, rfl⟩, LNge _ (by omega)⟩
  have conv : ∀ {m L'}, Ag l S B (k + 1) (fun j => X j ∨ j = k) m LN L' → Ag l S B q X m L L' := fun h id ha hi => by
    obtain ⟨h1, h2⟩ := conv0 id ha
    rw [h id h1 hi, h2]
  have full : ∀ {L'}, Ag l S B (k + 1) (fun j => X j ∨ j = k) (S (k + 1)).nx LN L' → Agree (S (k + 1)).nx L1 L' := fun h id hid => by
    rw [h id (.inl hid) hid, LNlt id hid]
  have LNag : Agree (S (k + 1)).nx L1 LN := fun id hid => LNlt id hid
  have hlt' : ∀ id o, (S (k + 1)).H.get id = some o → id < (S (k + 1)).nx := fun id o ho => id_lt (fun L' h => (hfin L' h).2) ho
  have hhas : ∀ {id o}, Has l S B (k + 1) (fun j => X j ∨ j = k) id o → (S (k + 1)).H.get id = some o ∨ (Has l S B q X id o ∧ ¬ id < (S (k + 1)).nx) := by
    rintro id o (h | ⟨k2, h1, h2 | rfl, h3, rfl, h5⟩)
    · exact .inl h
    · have hk2 := I.xN k2 h2
      have := R.nx_mono h1 (by omega)
      exact .inr ⟨.inr ⟨k2, by omega, h2, h3, rfl, h5⟩, by omega⟩
    · exact absurd h3 hnA
  -- blocks of what was made early are not the plan's
  have apart : ∀ {id o}, Has l S B q X id o → ¬ id < (S (k + 1)).nx → (L id).b < w.heap.size ∧ ∀ id' o', (S k).H.get id' = some o' → (L id').b ≠ (L id).b := fun {id o} h hge => by
    obtain ⟨y, hy⟩ := (I.obj h).block
    refine ⟨lt_of_some hy, fun id' o' ho' hb => ?_⟩
    have := I.inj id' id o' o (has id' o' ho') h hb
    have l1 := id_lt sim ho'
    omega
  refine ⟨k + 1, LN, {
    qle := hkl
    qX := fun j hj => by
      rcases Nat.lt_or_ge j k with h | h
      · exact .inl (hall j h)
      · exact .inr (by omega)
    xN := fun j hj => by rcases hj with hj | rfl; exact I.xN j hj; exact hkl
    noW := fun j hq hj => by
      rcases hj with hj | rfl
      · exact I.noW j (by omega) hj
      · omega
    qH := by
      rw [(R.tr k s hs).heaps, if_pos hc]
      rfl
    clos := fun j sj hj hsj k' s' hs' hb => by
      rcases hj with hj | rfl
      · exact .inl (I.clos j sj hj hsj k' s' hs' hb)
      · rw [hs] at hsj
        simp at hsj
        subst hsj
        exact .inl (hanc k' s' hs' hb)
    val := fun j sj t hj hsj hdj L' hL => by
      rw [put_get _ _ _ _ hd]
      rcases hj with hj | rfl
      · rw [if_neg (fun hh => hk (by rw [R.uniq hs hsj hh hdj]; exact hj))]
        exact I.val j sj t hj hsj hdj L' (conv hL)
      · rw [hs] at hsj
        simp at hsj
        subst hsj
        rw [if_pos hdj]
        exact (hfin L' (full hL)).1
    old := fun t ht v hv L' hL => by
      rw [put_get _ _ _ _ hd, if_neg (ht k s (.inr rfl) hs)]
      refine I.old t (fun j sj hj hsj => ht j sj (.inl hj) hsj) v hv L' (fun id hid => ?_)
      have := R.nx_mono (Nat.zero_le k) (by omega)
      rw [hL id hid, LNlt id (by omega), hag1 id (by omega)]
    objq := fun L' hL id o ho => ⟨hlt' id o ho, (hfin L' (full hL)).2.at_ id o ho⟩
    obja := fun j hq hj hAj o ho L' hL => by
      rcases hj with hj | rfl
      · have hH : Has l S B q X (S j).nx o := .inr ⟨j, by omega, hj, hAj, rfl, ho⟩
        have hge := R.nx_mono (show k + 1 ≤ j from hq) (Nat.le_of_lt (I.xN j hj))
        obtain ⟨a1, a2⟩ := apart hH (by omega)
        have hloc : L' (S j).nx = L (S j).nx := conv hL _ (I.alive_of_has hH) (by have := R.isA_nx hAj; omega)
        have := I.obja j (by omega) hj hAj o ho L' (conv hL)
        refine this.keep ?_
        rw [hloc]
        exact hfr.keep _ a1 a2
      · omega
    inj := fun i j oi oj hi hj hb => by
      rcases hhas hi with hi' | ⟨hi', gi⟩ <;> rcases hhas hj with hj' | ⟨hj', gj⟩
      · exact (hfin LN LNag).2.inj i j oi oj hi' hj' hb
      · exfalso
        obtain ⟨a1, a2⟩ := apart hj' gj
        rw [LNlt i (hlt' i oi hi'), LNge j gj] at hb
        exact hfr.owns _ a1 a2 i oi hi' hb
      · exfalso
        obtain ⟨a1, a2⟩ := apart hi' gi
        rw [LNlt j (hlt' j oj hj'), LNge i gi] at hb
        exact hfr.owns _ a1 a2 j oj hj' hb.symm
      · rw [LNge i gi, LNge j gj] at hb
        exact I.inj i j oi oj hi' hj' hb
    glq := I.glq
    pin := I.pin
    agree := fun id hid => by
      have := R.nx_mono (Nat.zero_le k) (by omega)
      rw [LNlt id (by omega), hag1 id (by omega), I.agree id hid]
    size := Nat.le_trans I.size hfr.size
    os := hfr.os.trans I.os
    tape := hfr.tape.trans I.tape
    output := hfr.output.trans I.output
    keep := fun b hb hn => (hfr.keep b (Nat.lt_of_lt_of_le hb I.size) (fun id o ho => I.owns b hb hn id o (has id o ho))).trans (I.keep b hb hn)
    owns := fun b hb hn id o ho => by
      rcases hhas ho with ho' | ⟨ho', g⟩
      · rw [LNlt id (hlt' id o ho')]
        exact hfr.owns b (Nat.lt_of_lt_of_le hb I.size) (fun id o ho => I.owns b hb hn id o (has id o ho)) id o ho'
      · rw [LNge id g]
        exact I.owns b hb hn id o ho'
    tsize := by rw [put_size, I.tsize]
    dfr := by rw [put_defers, I.dfr] }⟩

/-- ONE STEP, whichever is ready. -/
theorem Reg.step {n : Nat} {Q : Exit → Act → World → Prop} {L0 : Nat → Loc} {w0 : World} {q : Nat} {X : Nat → Prop} {L : Nat → Loc} {a : Act} {w : World} (I : Inv ρ nt l bs E S Hs V B ds L0 w0 q X L a w) {k : Nat} {s : Step} (hs : l[k]? = some s) (hk : ¬ X k)
    (hanc : ∀ (k' : Nat) (s' : Step), l[k']? = some s' → bit (bget bs s.i) s'.i = true → X k') {K : Act → World → Prop}
    (hK : ∀ q' L' a' w', Inv ρ nt l bs E S Hs V B ds L0 w0 q' (fun j => X j ∨ j = k) L' a' w' → K a' w') : wpOpIn (fw fq) n P ops Q s.i K a w := by
  have hkl := lt_of_at hs
  have hqk : q ≤ k := by
    rcases Nat.lt_or_ge k q with hh | hh
    · exact absurd (I.qX k hh) hk
    · exact hh
  obtain ⟨hfrom, hcls⟩ := R.pl.from_ k s hs
  have ho : ops[s.i]? = some s.o := by simpa using hfrom
  have Tk := R.tr k s hs
  have hw := R.wanted I hs hk hanc
  have hg := R.grel I hs hk hanc
  have nxk := R.nx_mono hqk (by omega)
  unfold wpOpIn
  simp only [ho, hw]
  cases hb : B k with
  | false =>
    simp only [Bool.false_eq_true, if_false]
    refine ⟨fun _ _ => trivial, ?_⟩
    obtain ⟨hv, hst⟩ := Tk.no hb
    by_cases hc : 3 ≤ s.c
    · have hall : ∀ k', k' < k → X k' := fun k' hlt => by
        obtain ⟨s', hs'⟩ := at_of_lt (show k' < l.length by omega)
        exact hanc k' s' hs' (R.pl.wr k s k' s' hs hc hlt hs')
      obtain ⟨_, sim⟩ := R.sim_at I (by omega) hqk hall
      have ht : Turns ρ L (S k) w (V k) (S (k + 1)) undef w := by
        rw [hst, hv]
        exact Turns.same sim (fun L' ha => conc_undefA L') Tk.fx0 rfl rfl rfl rfl
      obtain ⟨q', L1, I'⟩ := R.step_write I hs hk hanc hc ht
      exact hK _ _ _ _ I'
    · exact hK _ _ _ _ (R.step_calm I hs hk hanc (by omega) (fun ⟨s', hs', h2, h3⟩ => by rw [hb] at h3; cases h3) (fun L' _ => by rw [hv]; exact conc_undefA L'))
  | true =>
    simp only [if_true]
    by_cases hc : 3 ≤ s.c
    · have hall : ∀ k', k' < k → X k' := fun k' hlt => by
        obtain ⟨s', hs'⟩ := at_of_lt (show k' < l.length by omega)
        exact hanc k' s' hs' (R.pl.wr k s k' s' hs hc hlt hs')
      obtain ⟨_, sim⟩ := R.sim_at I (by omega) hqk hall
      have hop := Tk.op hb (by omega)
      rw [opE_congr (gOf_eq (cx := cx))] at hop
      refine opE_sound R.ok R.cf_ Tk.fx0 hop L w sim a (fun L' ha => hg L' (Ag.of_agree ha)) s.o rfl (fun x w' ht => ?_)
      obtain ⟨q', L1, I'⟩ := R.step_write I hs hk hanc hc ht
      exact hK _ _ _ _ I'
    · by_cases h1 : s.c = 1
      · obtain ⟨hH, hn, hreads⟩ := Tk.read hb h1
        obtain ⟨new, hwl, hnew, hhs⟩ := R.news hqk (by omega)
        have hlen : new.length ≤ s.d := by
          refine Nat.le_trans (countOut_new new (wlAt l [] q) (fun i hi => ?_)) (by rw [← hwl]; exact R.pl.out k s hs (by omega))
          obtain ⟨k', s', a1, a2, a3, rfl, a4⟩ := hnew i hi
          cases hbit : bit (bget bs s.i) s'.i with
          | false => rfl
          | true => exact absurd ⟨s', a3, a4⟩ (I.noW k' a1 (hanc k' s' a3 hbit))
        obtain ⟨h, hh, fx, fx', hfx, hrd⟩ := hreads new.length hlen
        rw [hhs, I.qH] at hh
        simp at hh
        subst hh
        rw [readE_congr (gOf_eq (cx := cx))] at hrd
        obtain ⟨_, hr⟩ := readE_sound R.ok hfx hrd
        have simq : ∀ L', Ag l S B q X (S k).nx L L' → Sim L' ρ (S q).H w := fun L' hL =>
          ⟨fun id o ho => (I.objq L' (hL.mono nxk) id o ho).2, fun i j oi oj hi hj hbb => by
            have li := (I.objq L (Ag.refl _ _ _ _) i oi hi).1
            have lj := (I.objq L (Ag.refl _ _ _ _) j oj hj).1
            rw [hL i (.inl li) (by omega), hL j (.inl lj) (by omega)] at hbb
            exact I.inj i j oi oj (.inl hi) (.inl hj) hbb, I.pinAg (R.nx_mono (Nat.zero_le q) I.qle) (R.nx_mono (Nat.zero_le k) (Nat.le_of_lt hkl)) hL⟩
        have r0 := hr L w a.eval s.o rfl (hg L (Ag.refl _ _ _ _)) (simq L (Ag.refl _ _ _ _))
        refine wide_value (readE_notDefer hrd) r0 (.inl rfl) (hK _ _ _ _ (R.step_calm I hs hk hanc (by omega) (fun ⟨s', hs', h2, _⟩ => by rw [hs] at hs'; simp at hs'; subst hs'; omega) (fun L' hL => ?_)))
        rw [hn] at hL
        have r1 := hr L' w a.eval s.o rfl (hg L' hL) (simq L' hL)
        rw [r0] at r1
        simp at r1
        exact r1
      · have hop := Tk.op hb h1
        by_cases h2 : s.c = 2
        · have hA : IsA l B k := ⟨s, hs, h2, hb⟩
          rw [opE_congr (gOf_eq (cx := cx)), h2] at hop
          have hop : ((allocE cx (gOf cx (E k) s.o.op) s.o.op (S k).fx).bind fun p => T.ret (p.2 (S k).nx, (S k).new p.1)).at_ ρ = some (V k, S (k + 1)) := hop
          replace hop := T.at_bind_some.1 hop
          obtain ⟨⟨ao, f⟩, hal, hop⟩ := hop
          replace hop := ret_at hop
          obtain ⟨hV, hS⟩ := hop
          obtain ⟨x, c, r0, hcore⟩ := allocE_core R.ok Tk.fx0 hal L w a.eval (hg L (Ag.refl _ _ _ _)) s.o rfl
          obtain ⟨L1, I'⟩ := R.step_alloc I hs hk hanc hA hV hS (x := x) (c := c) (fun L' hL hn => hcore L' (hg L' hL) _ hn)
          exact wide_value (allocE_notDefer hal) r0 (.inl rfl) (hK _ _ _ _ I')
        · have h0 : s.c = 0 := by omega
          rw [opE_congr (gOf_eq (cx := cx)), h0] at hop
          have hop : ((pureE cx (gOf cx (E k) s.o.op) s.o.op (S k).fx).bind fun p => T.ret (p.1, (⟨(S k).H, (S k).nx, p.2⟩ : St))).at_ ρ = some (V k, S (k + 1)) := hop
          replace hop := T.at_bind_some.1 hop
          obtain ⟨⟨v, fx⟩, hp, hop⟩ := hop
          replace hop := ret_at hop
          obtain ⟨hV, hS⟩ := hop
          obtain ⟨_, hr⟩ := pureE_sound R.ok Tk.fx0 hp
          have r0 := hr L w a.eval s.o rfl (hg L (Ag.refl _ _ _ _))
          refine wide_value (pureE_notDefer hp) r0 (.inl rfl) (hK _ _ _ _ (R.step_calm I hs hk hanc (by omega) (fun ⟨s', hs', h2', _⟩ => by rw [hs] at hs'; simp at hs'; subst hs'; omega) (fun L' hL => ?_)))
          rw [hS] at hL
          have r1 := hr L' w a.eval s.o rfl (hg L' hL)
          rw [r0] at r1
          simp at r1
          rw [hV]
          exact r1
end
end Ab
