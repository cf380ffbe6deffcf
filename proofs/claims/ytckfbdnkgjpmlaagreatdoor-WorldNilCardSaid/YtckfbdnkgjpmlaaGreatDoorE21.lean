/- E, part 21: a region in the text's order. -/
import Derived.Test.YtckfbdnkgjpmlaaGreatDoorE20
namespace Ab
open Go

variable {P : Program} {cx : Ctx} {ρ : Env} {fq : Option Nat}

/-- The marks of loops over functions that an activation still has to take up. -/
def markOf (ρ : Env) (L : Nat → Loc) : Mk → Deferred
  | .blk i => { target := .collected (L i).b, args := #[] }
  | .dfr f args => { target := .fn (.func f) #[], args := (args.map (conc L ρ)).toArray }
def marks (ρ : Env) (L : Nat → Loc) (mk : List Mk) : List Deferred := mk.map (markOf ρ L)
/-- From a state and a world to others. -/
def Goes (ρ : Env) (L : Nat → Loc) (st : St) (w : World) (e' : Tr AV) (nt : Nat) (mk : List Mk) (ds : List Deferred) (st' : St) (a' : Act) (w' : World) : Prop :=
  ∃ L1, Agree st.nx L L1 ∧ st.nx ≤ st'.nx ∧ Fr L st.H w L1 st'.H w' ∧ KS ρ L1 e' nt (marks ρ L1 mk ++ ds) st' a' w'

noncomputable def setD (e : Tr AV) (d : Option Tmp) (v : AV) : Tr AV := match d with
  | none => e
  | some t => e.set t v
theorem putE_at {nt : Nat} {e : Tr AV} {d : Option Tmp} {v : AV} {f : Tr AV → T (Tr AV × St)} {r : Tr AV × St} (h : (putE nt e d v f).at_ ρ = some r) :
    (f (setD e d v)).at_ ρ = some r ∧ ∀ t, d = some t → t < nt := by
  unfold putE at h
  cases d with
  | none => exact ⟨h, by simp⟩
  | some t =>
    replace h := chk_at h; obtain ⟨h1, h⟩ := h
    exact ⟨h, fun t' ht => by simp at ht; subst ht; exact Nat.le_of_ble_eq_true h1⟩
theorem getD_set (a : Array Value) (d t : Nat) (x : Value) : (a.setIfInBounds d x).getD t undef = if d = t ∧ d < a.size then x else a.getD t undef := by
  simp only [Array.getD_eq_getD_getElem?, Array.getElem?_setIfInBounds]
  by_cases h : d = t
  · subst h
    by_cases h2 : d < a.size
    · simp [h2]
    · simp [h2]
  · simp [h]
theorem ERel.put {L : Nat → Loc} {e : Tr AV} {a : Act} {d : Option Tmp} {v : AV} {x : Value} (h : ERel L ρ e a) (hd : ∀ t, d = some t → t < a.tmps.size) (hx : x = conc L ρ v) : ERel L ρ (setD e d v) (a.put d x) := by
  cases d with
  | none => exact h
  | some d =>
    intro t u hu
    show (a.tmps.setIfInBounds d x).getD t undef = _
    rw [getD_set]
    have hu : (e.set d v).get t = some u := hu
    rw [Tr.get_set] at hu
    by_cases ht : t = d
    · rw [if_pos ht] at hu
      rw [if_pos ⟨ht.symm, hd d rfl⟩, hx]
      simp at hu
      rw [hu]
    · rw [if_neg ht] at hu
      rw [if_neg (fun hh => ht hh.1.symm)]
      exact h t u hu
theorem put_size (a : Act) (d : Option Tmp) (x : Value) : (a.put d x).tmps.size = a.tmps.size := by
  cases d <;> simp [Act.put]
theorem put_defers (a : Act) (d : Option Tmp) (x : Value) : (a.put d x).defers = a.defers := by
  cases d <;> rfl
theorem Goes.of_turns {ds : List Deferred} {L : Nat → Loc} {e : Tr AV} {nt : Nat} {st st' : St} {a : Act} {w w' : World} {v : AV} {x : Value} {d : Option Tmp} (hk : KS ρ L e nt ds st a w) (hd : ∀ t, d = some t → t < nt) (ht : Turns ρ L st w v st' x w') :
    Goes ρ L st w (setD e d v) nt [] ds st' (a.put d x) w' := by
  obtain ⟨L1, ha, hn, hf, hx, hr⟩ := ht
  refine ⟨L1, ha, hn, hf, ⟨fun L' hL => ?_, fun L' hL => (hr L' hL).2, hx, by rw [put_size, hk.size], by rw [put_defers, hk.dfr]; rfl⟩⟩
  exact ERel.put (hk.env L' (ha.trans (hL.mono hn))) (fun t h => by rw [hk.size]; exact hd t h) (hr L' hL).1
theorem wantE_sound {ops : Array Oper} {e : Tr AV} {o : Oper} {b : Bool} (h : wantE ops.toList e o = some b) {L : Nat → Loc} {a : Act} (hr : ∀ j w oj t, o.guard = some (j, w) → ops[j]? = some oj → oj.dst = some t → ∀ v, e.get t = some v → a.tmps.getD t undef = conc L ρ v) :
    Region.wanted o (yielded ops a.tmps) = b := by
  unfold wantE at h
  unfold Region.wanted
  cases hg : o.guard with
  | none => rw [hg] at h; simp at h; subst h; rfl
  | some p =>
    obtain ⟨j, w⟩ := p
    rw [hg] at h
    simp only at h ⊢
    rw [lget_eq] at h
    cases ho : ops.toList[j]? with
    | none => rw [ho] at h; cases h
    | some oj =>
      rw [ho] at h
      simp only at h
      have ho' : ops[j]? = some oj := by simpa using ho
      cases hd : oj.dst with
      | none => rw [hd] at h; cases h
      | some t =>
        rw [hd] at h
        simp only at h
        have hy : yielded ops a.tmps j = match a.tmps[t]? with | some (.bool b) => some b | _ => none := by
          unfold yielded
          rw [ho']
          simp [hd]
          rfl
        rw [hy]
        cases he : e.get t with
        | none => rw [he] at h; cases h
        | some v =>
          have hv := hr j w oj t hg ho' hd v he
          rw [Array.getD_eq_getD_getElem?] at hv
          rw [he] at h
          cases v with
          | bool c =>
            simp at h
            subst h
            cases ht : a.tmps[t]? with
            | none => rw [ht] at hv; simp [conc, undef] at hv
            | some y =>
              rw [ht] at hv
              simp [conc] at hv
              subst hv
              cases c <;> cases w <;> rfl
          | tuple vs =>
            cases vs with
            | nil =>
              simp at h
              subst h
              cases ht : a.tmps[t]? with
              | none => rfl
              | some y =>
                rw [ht] at hv
                simp [conc, concs] at hv
                subst hv
                rfl
            | cons => simp at h
          | _ => simp at h

theorem regS_then (ok : cx.Ok P) (hgl : cx.gl ≤ ρ.gl) {cf : CallF} (hcf : CallSound P ρ cf) {nt n : Nat} {ops : Array Oper} {ds : List Deferred} {Q : Exit → Act → World → Prop} : ∀ (l : List Oper) (i0 : Nat), (∀ k o, l[k]? = some o → ops[i0 + k]? = some o) →
    ∀ (e : Tr AV) (st : St) (e' : Tr AV) (st' : St), (regS cx cf nt ops.toList l e st).at_ ρ = some (e', st') → ∀ (L : Nat → Loc) (a : Act) (w : World), KS ρ L e nt ds st a w →
      ∀ (rest : List Nat), (∀ a' w', Goes ρ L st w e' nt [] ds st' a' w' → wpOpsIn (fw fq) n P ops Q rest a' w') → wpOpsIn (fw fq) n P ops Q (List.range' i0 l.length ++ rest) a w := by
  intro l
  induction l with
  | nil =>
    intro i0 _ e st e' st' h L a w hk rest hQ
    have h : (T.ret (e, st)).at_ ρ = some (e', st') := h
    replace h := ret_at h; obtain ⟨rfl, rfl⟩ := h
    exact hQ a w ⟨L, Agree.refl _ _, Nat.le_refl _, Fr.refl _ _ _, hk⟩
  | cons o l ih =>
    intro i0 hl e st e' st' h L a w hk rest hQ
    have h : (T.opt (wantE ops.toList e o) 313 fun w => Bool.rec (putE nt e o.dst undefA fun e => regS cx cf nt ops.toList l e st)
        ((opE cx cf (opnd cx.gl e) (cls cx o.op) o.op st).bind fun p => putE nt e o.dst p.1 fun e => regS cx cf nt ops.toList l e p.2) w : T (Tr AV × St)).at_ ρ = some (e', st') := h
    replace h := T.at_opt_some.1 h; obtain ⟨b, hb, h⟩ := h
    have ho : ops[i0]? = some o := hl 0 o rfl
    have hl' : ∀ k o, l[k]? = some o → ops[i0 + 1 + k]? = some o := fun k o' hk' => by rw [show i0 + 1 + k = i0 + (k + 1) by omega]; exact hl (k + 1) o' hk'
    have hw := wantE_sound hb (L := L) (ρ := ρ) (a := a) (fun j w oj t _ _ _ v hv => hk.env L (Agree.refl _ _) t v hv)
    rw [List.length_cons, List.range'_succ, List.cons_append]
    simp only [wpOpsIn, ho, hw]
    have fin : ∀ {v : AV} {st1 : St} {x : Value} {w1 : World}, Turns ρ L st w v st1 x w1 → (∀ t, o.dst = some t → t < nt) → (regS cx cf nt ops.toList l (setD e o.dst v) st1).at_ ρ = some (e', st') →
        wpOpsIn (fw fq) n P ops Q (List.range' (i0 + 1) l.length ++ rest) (a.put o.dst x) w1 := by
      intro v st1 x w1 ht hd h
      have hgo := Goes.of_turns hk hd ht
      obtain ⟨L1, ha, hn, hf, hk1⟩ := hgo
      refine ih (i0 + 1) hl' _ _ _ _ h L1 _ _ hk1 rest (fun a' w' hg' => hQ a' w' ?_)
      obtain ⟨L2, ha2, hn2, hf2, hk2⟩ := hg'
      exact ⟨L2, ha.trans (ha2.mono hn), Nat.le_trans hn hn2, hf.trans hf2, hk2⟩
    cases b with
    | false =>
      replace h := putE_at h; obtain ⟨h, hd⟩ := h
      simp only [Bool.false_eq_true, if_false]
      exact ⟨fun _ _ => trivial, fin (Turns.same hk.sim (fun L' ha => conc_undefA L') hk.fx rfl rfl rfl rfl) hd h⟩
    | true =>
      have h : ((opE cx cf (opnd cx.gl e) (cls cx o.op) o.op st).bind fun p => putE nt e o.dst p.1 fun e => regS cx cf nt ops.toList l e p.2).at_ ρ = some (e', st') := h
      replace h := T.at_bind_some.1 h
      obtain ⟨⟨v, st1⟩, h1, h⟩ := h
      replace h := putE_at h; obtain ⟨h, hd⟩ := h
      simp only [if_true]
      exact opE_sound ok hcf hk.fx h1 L w hk.sim a (fun L' ha => opnd_rel hgl (hk.sim L' ha).pin (hk.env L' ha)) o rfl (fun x w1 ht => fin ht hd h)
theorem regS_sound (ok : cx.Ok P) (hgl : cx.gl ≤ ρ.gl) {cf : CallF} (hcf : CallSound P ρ cf) {nt n : Nat} {ops : Array Oper} {ds : List Deferred} {Q : Exit → Act → World → Prop} (l : List Oper) (i0 : Nat) (hl : ∀ k o, l[k]? = some o → ops[i0 + k]? = some o)
    (e : Tr AV) (st : St) (e' : Tr AV) (st' : St) (h : (regS cx cf nt ops.toList l e st).at_ ρ = some (e', st')) (L : Nat → Loc) (a : Act) (w : World) (hk : KS ρ L e nt ds st a w)
    (hQ : ∀ a' w', Goes ρ L st w e' nt [] ds st' a' w' → Q .normal a' w') : wpOpsIn (fw fq) n P ops Q (List.range' i0 l.length) a w := by
  have := regS_then (fq := fq) (n := n) (Q := Q) ok hgl hcf l i0 hl e st e' st' h L a w hk [] hQ
  simpa using this
end Ab
