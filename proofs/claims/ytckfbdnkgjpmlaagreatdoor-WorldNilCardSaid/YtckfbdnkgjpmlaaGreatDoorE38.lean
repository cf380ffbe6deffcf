/- E, part 38: the run in all orders is sound. -/
import Derived.Test.YtckfbdnkgjpmlaaGreatDoorE37
namespace Ab
open Go Go.RowKit

variable {P : Program} {cx : Ctx} {ρ : Env}

theorem opW_sound (ok : cx.Ok P) (hgl : cx.gl ≤ ρ.gl) {cf : CallF} (hcf : CallSound P ρ cf) {e : Tr AV} {op : Op} {st : St} {R : AV × St → Prop} (hx : FxOk ρ st.fx) (h : (opW cx cf e op st).wp ρ R) (L : Nat → Loc) (w : World)
    (hs : ∀ L', Agree st.nx L L' → Sim L' ρ st.H w) (a : Act) (he : ∀ L', Agree st.nx L L' → ERel L' ρ e a) (o : Oper) (ho : o.op = op) {n : Nat} {next : Act → World → Prop} {Q : Exit → Act → World → Prop}
    (hn : ∀ x w' v st', R (v, st') → Turns ρ L st w v st' x w' → next (a.put o.dst x) w') : o.wpIn (fw none) n P a w next Q := by
  have hg : ∀ L', Agree st.nx L L' → GRel L' ρ (opnd cx.gl e) a.eval := fun L' ha => opnd_rel hgl (hs L' ha).pin (he L' ha)
  unfold opW at h
  split at h
  · rename_i it
    replace h := W.wp_opt h; obtain ⟨v, hv, h⟩ := h
    obtain ⟨y, w', u, st', hR, hrun, ht⟩ := nextW_sound (P := P) hx h hs (fun L' ha => hg L' ha _ _ hv) o.type
    refine wide_value (r := .value y) (fun c e => by rw [ho] at e; cases e) ?_ (.inl rfl) (hn _ _ _ _ hR ht)
    unfold execOp; rw [ho]
    simp only [Sem.run_bind, hrun, Result.andThen_ok]; rfl
  · rename_i it
    replace h := W.wp_opt h; obtain ⟨v, hv, h⟩ := h
    obtain ⟨y, u, st', hR, hrun, ht⟩ := entryW_sound (P := P) hx h hs (fun L' ha => hg L' ha _ _ hv)
    refine wide_value (r := .value y) (fun c e => by rw [ho] at e; cases e) ?_ (.inl rfl) (hn _ _ _ _ hR ht)
    unfold execOp; rw [ho]
    simp only [Sem.run_bind, hrun, Result.andThen_ok]; rfl
  · obtain ⟨⟨v, st'⟩, h1, hR⟩ := W.wp_ofT h
    exact opE_sound ok hcf hx h1 L w hs a hg o ho (fun x w' ht => hn x w' v st' hR ht)
theorem wp_putW {nt : Nat} {e : Tr AV} {d : Option Tmp} {v : AV} {f : Tr AV → W (Tr AV × St)} {R : Tr AV × St → Prop} (h : (putW nt e d v f).wp ρ R) : (f (setD e d v)).wp ρ R ∧ ∀ t, d = some t → t < nt := by
  unfold putW at h
  cases d with
  | none => exact ⟨h, by simp⟩
  | some t =>
    replace h := W.wp_chk h; obtain ⟨h1, h⟩ := h
    exact ⟨h, fun t' ht => by simp at ht; subst ht; exact Nat.le_of_ble_eq_true h1⟩
theorem regW_sound (ok : cx.Ok P) (hgl : cx.gl ≤ ρ.gl) {cf : CallF} (hcf : CallSound P ρ cf) {nt n : Nat} {ops : Array Oper} {ds : List Deferred} {Q : Exit → Act → World → Prop} : ∀ (l : List Oper) (i0 : Nat), (∀ k o, l[k]? = some o → ops[i0 + k]? = some o) →
    ∀ (e : Tr AV) (st : St) (R : Tr AV × St → Prop), (regW cx cf nt ops.toList l e st).wp ρ R → ∀ (L : Nat → Loc) (a : Act) (w : World), KS ρ L e nt ds st a w →
      (∀ e' st' a' w', R (e', st') → Goes ρ L st w e' nt [] ds st' a' w' → Q .normal a' w') → wpOpsIn (fw none) n P ops Q (List.range' i0 l.length) a w := by
  intro l
  induction l with
  | nil =>
    intro i0 _ e st R h L a w hk hQ
    exact hQ e st a w h ⟨L, Agree.refl _ _, Nat.le_refl _, Fr.refl _ _ _, hk⟩
  | cons o l ih =>
    intro i0 hl e st R h L a w hk hQ
    have h : (W.opt (wantE ops.toList e o) 313 fun w => Bool.rec (putW nt e o.dst undefA fun e => regW cx cf nt ops.toList l e st)
        ((opW cx cf e o.op st).bind fun p => putW nt e o.dst p.1 fun e => regW cx cf nt ops.toList l e p.2) w : W (Tr AV × St)).wp ρ R := h
    replace h := W.wp_opt h; obtain ⟨b, hb, h⟩ := h
    have ho : ops[i0]? = some o := hl 0 o rfl
    have hl' : ∀ k o, l[k]? = some o → ops[i0 + 1 + k]? = some o := fun k o' hk' => by rw [show i0 + 1 + k = i0 + (k + 1) by omega]; exact hl (k + 1) o' hk'
    have hw := wantE_sound hb (L := L) (ρ := ρ) (a := a) (fun j w oj t _ _ _ v hv => hk.env L (Agree.refl _ _) t v hv)
    rw [List.length_cons, List.range'_succ]
    simp only [wpOpsIn, ho, hw]
    have fin : ∀ {v : AV} {st1 : St} {x : Value} {w1 : World}, Turns ρ L st w v st1 x w1 → (∀ t, o.dst = some t → t < nt) → (regW cx cf nt ops.toList l (setD e o.dst v) st1).wp ρ R →
        wpOpsIn (fw none) n P ops Q (List.range' (i0 + 1) l.length) (a.put o.dst x) w1 := by
      intro v st1 x w1 ht hd h
      have hgo := Goes.of_turns hk hd ht
      obtain ⟨L1, ha, hn, hf, hk1⟩ := hgo
      exact ih (i0 + 1) hl' _ _ _ h L1 _ _ hk1 (fun e' st' a' w' hR hg' => hQ e' st' a' w' hR (Goes.comp (mk1 := []) ha hn hf (fun i hi => by cases hi) hg'))
    cases b with
    | false =>
      replace h := wp_putW h; obtain ⟨h, hd⟩ := h
      simp only [Bool.false_eq_true, if_false]
      exact ⟨fun _ _ => trivial, fin (Turns.same hk.sim (fun L' ha => conc_undefA L') hk.fx rfl rfl rfl rfl) hd h⟩
    | true =>
      have h : ((opW cx cf e o.op st).bind fun p => putW nt e o.dst p.1 fun e => regW cx cf nt ops.toList l e p.2).wp ρ R := h
      replace h := W.wp_bind.1 h
      simp only [if_true]
      refine opW_sound ok hgl hcf hk.fx h L w hk.sim a hk.env o rfl (fun x w1 v st1 hR ht => ?_)
      obtain ⟨h2, hd⟩ := wp_putW hR
      exact fin ht hd h2

def ExecW (P : Program) (ρ : Env) (k : Nat) (ih : CodeW) : Prop :=
  ∀ (c : Code) (nt : Nat) (e : Tr AV) (st : St) (R : ResW → Prop), (ih c nt e st).wp ρ R →
    ∀ (L : Nat → Loc) (a : Act) (w : World) (n : Nat) (ds : List Deferred) (Q : Exit → Act → World → Prop), KS ρ L e nt ds st a w → (∀ r a' w', R r → Goes ρ L st w r.e nt [] ds r.st a' w' → Q (exOf r.x) a' w') → Runs P none n k c Q a w

theorem codeW_sound (ok : cx.Ok P) (hgl : cx.gl ≤ ρ.gl) {cf : CallF} (hcf : CallSound P ρ cf) {k : Nat} {ih : CodeW} (hih : ExecW P ρ k ih) : ExecW P ρ (k + 1) (codeW cx cf ih) := by
  intro c nt e st R h L a w n ds Q hk hQ
  have stay : Goes ρ L st w e nt [] ds st a w := ⟨_, Agree.refl _ _, Nat.le_refl _, Fr.refl _ _ _, hk⟩
  unfold codeW at h
  split at h
  case h_1 => exact wpIn_skip (hQ _ a w h stay)
  case h_2 id ops draw =>
    replace h := W.wp_bind.1 h
    cases draw with
    | false =>
      rw [cond_false] at h
      refine wpIn_region ?_
      rw [List.range_eq_range']
      have := regW_sound (n := n) (ops := ops) (Q := Q) ok hgl hcf ops.toList 0 (fun k o hk => by rw [Nat.zero_add]; simpa using hk) e st _ h L a w hk (fun e' st' a' w' hR hg => hQ _ a' w' hR hg)
      simpa using this
    | true =>
      rw [cond_true] at h
      replace h := W.wp_opt h; obtain ⟨l, hl, h⟩ := h
      obtain ⟨⟨e1, st1⟩, h1, hR⟩ := W.wp_ofT h
      exact regD_sound ok hgl hcf hl h1 hk (fun a' w' hg => hQ _ a' w' hR hg)
  case h_3 x y =>
    replace h := W.wp_bind.1 h
    refine wpIn_seq ((hih x nt e st _ h L a w n ds _ hk (fun r1 a1 w1 hR hg => ?_)).wp)
    cases hx1 : r1.x with
    | normal =>
      rw [hx1] at hR
      obtain ⟨L1, p1, p2, p3, p4⟩ := hg
      exact (hih y nt r1.e r1.st R hR L1 a1 w1 n _ Q p4 (fun r a2 w2 hR2 hg2 => hQ r a2 w2 hR2 (Goes.comp (mk1 := []) p1 p2 p3 (fun i hi => by cases hi) hg2))).wp
    | exit id =>
      rw [hx1] at hR
      have := hQ r1 a1 w1 hR hg
      rw [hx1] at this
      exact this
    | ret =>
      rw [hx1] at hR
      have := hQ r1 a1 w1 hR hg
      rw [hx1] at this
      exact this
  case h_4 c x y =>
    replace h := W.wp_opt h; obtain ⟨v, hv, h⟩ := h
    split at h
    case h_3 => exact h.elim
    · exact wpIn_cond_true (opnd_rel hgl (hk.sim L (Agree.refl _ _)).pin (hk.env L (Agree.refl _ _)) _ _ hv) (hih x nt e st R h L a w n ds Q hk hQ).wp
    · exact wpIn_cond_false (opnd_rel hgl (hk.sim L (Agree.refl _ _)).pin (hk.env L (Agree.refl _ _)) _ _ hv) (hih y nt e st R h L a w n ds Q hk hQ).wp
  case h_5 id c =>
    replace h := W.wp_bind.1 h
    refine wpIn_block ((hih c nt e st _ h L a w n ds _ hk (fun r1 a1 w1 hR hg => ?_)).wp)
    cases hx1 : r1.x with
    | exit j =>
      rw [hx1] at hR
      simp only at hR
      show (if j = id then Q .normal a1 w1 else Q (.exit j) a1 w1)
      cases hj : Nat.beq j id with
      | true =>
        rw [hj, cond_true] at hR
        rw [if_pos (Nat.eq_of_beq_eq_true hj)]
        exact hQ _ a1 w1 hR hg
      | false =>
        rw [hj, cond_false] at hR
        have := hQ r1 a1 w1 hR hg
        rw [hx1] at this
        rw [if_neg (beq_false' hj)]
        exact this
    | normal =>
      rw [hx1] at hR
      have := hQ r1 a1 w1 hR hg
      rw [hx1] at this
      exact this
    | ret =>
      rw [hx1] at hR
      have := hQ r1 a1 w1 hR hg
      rw [hx1] at this
      exact this
  case h_6 c =>
    replace h := W.wp_bind.1 h
    show Code.roundsIn (fw none) n P c Q (k + 1) a w
    rw [roundsIn_succ]
    refine (hih c nt e st _ h L a w n ds _ hk (fun r1 a1 w1 hR hg => ?_)).wp
    cases hx1 : r1.x with
    | normal =>
      rw [hx1] at hR
      obtain ⟨L1, p1, p2, p3, p4⟩ := hg
      exact hih (.loop c) nt r1.e r1.st R hR L1 a1 w1 n _ Q p4 (fun r a2 w2 hR2 hg2 => hQ r a2 w2 hR2 (Goes.comp (mk1 := []) p1 p2 p3 (fun i hi => by cases hi) hg2))
    | exit j =>
      rw [hx1] at hR
      have := hQ r1 a1 w1 hR hg
      rw [hx1] at this
      exact this
    | ret =>
      rw [hx1] at hR
      have := hQ r1 a1 w1 hR hg
      rw [hx1] at this
      exact this
  case h_7 id => exact wpIn_exit (hQ _ a w h stay)
  case h_8 => exact wpIn_label (hQ _ a w h stay)
  case h_9 => exact wpIn_ret (hQ _ a w h stay)
  all_goals exact h.elim
theorem execW_sound (ok : cx.Ok P) (hgl : cx.gl ≤ ρ.gl) {cf : CallF} (hcf : CallSound P ρ cf) : ∀ k, ExecW P ρ k (execW cx cf k)
  | 0 => fun c nt e st R h => h.elim
  | k + 1 => codeW_sound ok hgl hcf (execW_sound ok hgl hcf k)

/-- What a call in all orders comes to. -/
theorem callW_sound (ok : cx.Ok P) (hgl : cx.gl ≤ ρ.gl) {cf : CallF} (hcf : CallSound P ρ cf) {k : Nat} {f : FuncId} {args : List AV} {st : St} {R : AV × St → Prop} (hx : FxOk ρ st.fx) (h : (callW cx cf k f args st).wp ρ R) :
    (∃ fn, P.funcs[f]? = some fn ∧ fn.name ≠ "runtime.NumGoroutine" ∧ fn.body.isNone = false) ∧
    ∀ (L : Nat → Loc) (w : World) (n : Nat) (vals : Array Value), (∀ L', Agree st.nx L L' → Sim L' ρ st.H w) → (∀ L', Agree st.nx L L' → vals = (args.map (conc L' ρ)).toArray) →
      CallsIn Fence.wide n P f vals w fun e w' => ∃ x v st', e = .returned x ∧ R (v, st') ∧ Turns ρ L st w v st' x w' := by
  unfold callW at h
  replace h := W.wp_opt h; obtain ⟨fn, hfn, h⟩ := h
  replace h := W.wp_opt h; obtain ⟨code, hcode, h⟩ := h
  replace h := W.wp_bind.1 h
  have hf := ok.fn f fn hfn
  refine ⟨⟨fn, hf, ok.name f fn hfn, by rw [hcode]; rfl⟩, fun L w n vals hs hv => ?_⟩
  have hlen : vals.size = args.length := by rw [hv L (Agree.refl _ _)]; simp
  refine callsIn_of_wp hf hcode trivial ((execW_sound ok hgl hcf k code _ _ st _ h L _ w n [] _ ⟨fun L' ha t u hu => ?_, hs, hx, ?_, rfl⟩ (fun r a' w' hR hg => ?_)).wp)
  · rw [Tr.get_ofList] at hu
    show (vals ++ Array.replicate (fn.ntmps - vals.size) undef).getD t undef = _
    have hlt : t < args.length := by
      rcases Nat.lt_or_ge t args.length with hh | hh
      · exact hh
      · rw [List.getElem?_eq_none hh] at hu; cases hu
    rw [Array.getD_eq_getD_getElem?, Array.getElem?_append_left (by omega), hv L' ha]
    simp [hu]
  · show (vals ++ Array.replicate (fn.ntmps - vals.size) undef).size = _
    simp [hlen, llen_eq]
  · obtain ⟨L1, g1, g2, g3, g4⟩ := hg
    have key : ∀ {vs : List AV}, (resE cx r.e r.st.H fn.results.toList).at_ ρ = some vs → R (oneOrTuple vs, r.st) →
        (a'.defers = [] ∧ ∃ y, (results fn a'.tmps).run P w' = .ok y w' ∧ (∃ x v st', Ending.returned y = .returned x ∧ R (v, st') ∧ Turns ρ L st w v st' x w')) := by
      intro vs hvs hR
      refine ⟨g4.dfr, conc L1 ρ (oneOrTuple vs), results_sound ok hvs L1 a' w' (g4.env L1 (Agree.refl _ _)) (g4.sim L1 (Agree.refl _ _)), _, _, _, rfl, hR, L1, g1, g2, g3, g4.fx, fun L' hL => ⟨?_, g4.sim L' hL⟩⟩
      have e1 := results_sound ok hvs L1 a' w' (g4.env L1 (Agree.refl _ _)) (g4.sim L1 (Agree.refl _ _))
      rw [results_sound ok hvs L' a' w' (g4.env L' hL) (g4.sim L' hL)] at e1
      simp at e1
      exact e1.symm
    cases hx : r.x with
    | exit i => rw [hx] at hR; exact hR.elim
    | normal =>
      rw [hx] at hR
      replace hR := W.wp_bind.1 hR
      obtain ⟨vs, hvs, hR⟩ := W.wp_ofT hR
      exact key hvs hR
    | ret =>
      rw [hx] at hR
      replace hR := W.wp_bind.1 hR
      obtain ⟨vs, hvs, hR⟩ := W.wp_ofT hR
      exact key hvs hR

/-! ## Where all orders come to the same -/
noncomputable def trSame (a : Tr AV) : Tr AV → Bool :=
  Tr.rec (motive := fun _ => Tr AV → Bool) (fun b => Tr.rec (motive := fun _ => Bool) true (fun _ _ _ _ _ => false) b)
    (fun v _ _ gl gr b => Tr.rec (motive := fun _ => Bool) false
      (fun v' l' r' _ _ => bif (Option.rec (motive := fun _ => Bool) (Option.rec (motive := fun _ => Bool) true (fun _ => false) v') (fun x => Option.rec (motive := fun _ => Bool) false (fun y => AV.same x y) v') v) then (bif gl l' then gr r' else false) else false) b) a
theorem trSame_eq : ∀ (a b : Tr AV), trSame a b = true → a = b
  | .nil, .nil, _ => rfl
  | .nil, .node _ _ _, h => by cases h
  | .node _ _ _, .nil, h => by cases h
  | .node v l r, .node v' l' r', h => by
    have h : (bif (Option.rec (motive := fun _ => Bool) (Option.rec (motive := fun _ => Bool) true (fun _ => false) v') (fun x => Option.rec (motive := fun _ => Bool) false (fun y => AV.same x y) v') v : Bool) then (bif trSame l l' then trSame r r' else false) else false) = true := h
    cases hl : trSame l l' with
    | false => rw [hl] at h; simp at h
    | true =>
      rw [hl] at h
      cases hr : trSame r r' with
      | false => rw [hr] at h; simp at h
      | true =>
        rw [hr] at h
        rw [trSame_eq l l' hl, trSame_eq r r' hr]
        cases v with
        | none => cases v' with
          | none => rfl
          | some y => simp at h
        | some x => cases v' with
          | none => simp at h
          | some y =>
            simp at h
            rw [AV.same_eq _ _ h]
noncomputable def natsSame (a : List Nat) : List Nat → Bool :=
  List.rec (motive := fun _ => List Nat → Bool) (fun b => List.rec (motive := fun _ => Bool) true (fun _ _ _ => false) b)
    (fun x _ ih b => List.rec (motive := fun _ => Bool) false (fun y t _ => bif Nat.beq x y then ih t else false) b) a
noncomputable def entsSame (a : List (AV × AV × Nat)) : List (AV × AV × Nat) → Bool :=
  List.rec (motive := fun _ => List (AV × AV × Nat) → Bool) (fun b => List.rec (motive := fun _ => Bool) true (fun _ _ _ => false) b)
    (fun x _ ih b => List.rec (motive := fun _ => Bool) false (fun y t _ => bif Nat.beq x.2.2 y.2.2 then (bif AV.same x.1 y.1 then (bif AV.same x.2.1 y.2.1 then ih t else false) else false) else false) b) a
theorem entsSame_eq : ∀ (a b : List (AV × AV × Nat)), entsSame a b = true → a = b
  | [], [], _ => rfl
  | [], _ :: _, h => by cases h
  | _ :: _, [], h => by cases h
  | (x1, x2, x3) :: a, (y1, y2, y3) :: b, h => by
    have h : (bif Nat.beq x3 y3 then (bif AV.same x1 y1 then (bif AV.same x2 y2 then entsSame a b else false) else false) else false) = true := h
    cases h1 : Nat.beq x3 y3 <;> rw [h1] at h <;> simp at h
    rw [Nat.eq_of_beq_eq_true h1, AV.same_eq _ _ h.1, AV.same_eq _ _ h.2.1, entsSame_eq a b h.2.2]
/-- Sameness of objects: of rows and maps; iterators are forgotten. -/
noncomputable def objSame (a b : AObj) : Bool :=
  match a, b with
  | .cells t d n el sz, .cells t' d' n' el' sz' =>
    bif Nat.beq n n' then (bif Nat.beq el el' then (bif Nat.beq sz sz' then
      (bif (Option.rec (motive := fun _ => Bool) (Option.rec (motive := fun _ => Bool) true (fun _ => false) d') (fun x => Option.rec (motive := fun _ => Bool) false (fun y => AV.same x y) d') d) then trSame t t' else false) else false) else false) else false
  | .map es ck, .map es' ck' => bif Nat.beq ck ck' then entsSame es es' else false
  | .ro i cs, .ro i' cs' => bif Nat.beq i i' then sames cs cs' else false
  | _, _ => false
theorem objSame_eq {a b : AObj} (h : objSame a b = true) : a = b := by
  unfold objSame at h
  split at h
  · rename_i t d n el sz t' d' n' el' sz'
    simp only [Bool.cond_eq_ite, Bool.if_false_right, Bool.and_eq_true, decide_eq_true_eq] at h
    obtain ⟨h1, h2, h3, h4, h5⟩ := h
    rw [Nat.eq_of_beq_eq_true h1, Nat.eq_of_beq_eq_true h2, Nat.eq_of_beq_eq_true h3, trSame_eq _ _ h5]
    cases d with
    | none => cases d' with
      | none => rfl
      | some y => simp at h4
    | some x => cases d' with
      | none => simp at h4
      | some y => simp at h4; rw [AV.same_eq _ _ h4]
  · simp only [Bool.cond_eq_ite, Bool.if_false_right, Bool.and_eq_true, decide_eq_true_eq] at h
    rw [Nat.eq_of_beq_eq_true h.1, entsSame_eq _ _ h.2]
  · simp only [Bool.cond_eq_ite, Bool.if_false_right, Bool.and_eq_true, decide_eq_true_eq] at h
    rw [Nat.eq_of_beq_eq_true h.1, sames_eq _ _ h.2]
  · cases h
noncomputable def joinO (a b : Option AObj) : Option AObj :=
  Option.rec (motive := fun _ => Option AObj) none (fun x => Option.rec (motive := fun _ => Option AObj) none (fun y => bif objSame x y then some x else none) b) a
theorem joinO_some {a b : Option AObj} {o : AObj} (h : joinO a b = some o) : a = some o ∧ b = some o := by
  cases a with
  | none => cases h
  | some x => cases b with
    | none => cases h
    | some y =>
      have h : (bif objSame x y then some x else none) = some o := h
      cases hs : objSame x y with
      | false => rw [hs] at h; cases h
      | true =>
        rw [hs, cond_true] at h
        cases h
        exact ⟨rfl, by rw [objSame_eq hs]⟩
noncomputable def joinH (a : Tr AObj) : Tr AObj → Tr AObj :=
  Tr.rec (motive := fun _ => Tr AObj → Tr AObj) (fun _ => .nil)
    (fun v _ _ gl gr b => Tr.rec (motive := fun _ => Tr AObj) .nil (fun v' l' r' _ _ => .node (joinO v v') (gl l') (gr r')) b) a
theorem joinH_get : ∀ (a b : Tr AObj) (k : Nat) (o : AObj), (joinH a b).get k = some o → a.get k = some o ∧ b.get k = some o
  | .nil, b, k, o, h => by have h : (Tr.nil : Tr AObj).get k = some o := h; rw [Tr.get_nil] at h; cases h
  | .node _ _ _, .nil, k, o, h => by have h : (Tr.nil : Tr AObj).get k = some o := h; rw [Tr.get_nil] at h; cases h
  | .node v l r, .node v' l' r', k, o, h => by
    have h : (Tr.node (joinO v v') (joinH l l') (joinH r r')).get k = some o := h
    cases k with
    | zero => exact joinO_some h
    | succ j =>
      rw [Tr.get_node_succ] at h
      rw [Tr.get_node_succ, Tr.get_node_succ]
      split at h
      · rename_i hb
        rw [if_pos hb, if_pos hb]
        exact joinH_get r r' _ o h
      · rename_i hb
        rw [if_neg hb, if_neg hb]
        exact joinH_get l l' _ o h
noncomputable def joinE (a b : AV × St) : T (AV × St) :=
  T.chk (AV.same a.1 b.1) 370 (T.chk (Nat.beq a.2.nx b.2.nx) 371 (.ret (a.1, ⟨joinH a.2.H b.2.H, a.2.nx, a.2.fx⟩)))
noncomputable def mergeW (t : W (AV × St)) : T (AV × St) :=
  W.rec (motive := fun _ => T (AV × St)) (fun c => .bad c) (fun a => .ret a) (fun c _ _ x y => .split c x y) (fun _ _ x y => x.bind fun a => y.bind fun b => joinE a b) t
/-- One end says what another one says, and maybe more. -/
def Says (a r : AV × St) : Prop := a.1 = r.1 ∧ a.2.nx = r.2.nx ∧ ∀ id o, r.2.H.get id = some o → a.2.H.get id = some o
theorem mergeW_sound {r : AV × St} : ∀ {t : W (AV × St)}, (mergeW t).at_ ρ = some r → t.wp ρ fun a => Says a r
  | .bad c, h => by cases h
  | .ret a, h => by
    have h : some a = some r := h
    cases h
    exact ⟨rfl, rfl, fun _ _ h => h⟩
  | .split c x y, h => by
    have h : (T.split c (mergeW x) (mergeW y)).at_ ρ = some r := h
    rw [T.at_split] at h
    show (if c.den ρ then x.wp ρ _ else y.wp ρ _)
    split <;> rename_i hc
    · rw [if_pos hc] at h; exact mergeW_sound h
    · rw [if_neg hc] at h; exact mergeW_sound h
  | .both x y, h => by
    have h : ((mergeW x).bind fun a => (mergeW y).bind fun b => joinE a b).at_ ρ = some r := h
    replace h := T.at_bind_some.1 h; obtain ⟨a, ha, h⟩ := h
    replace h := T.at_bind_some.1 h; obtain ⟨b, hb, h⟩ := h
    unfold joinE at h
    replace h := chk_at h; obtain ⟨h1, h⟩ := h
    replace h := chk_at h; obtain ⟨h2, h⟩ := h
    have h : some (a.1, (⟨joinH a.2.H b.2.H, a.2.nx, a.2.fx⟩ : St)) = some r := h
    cases h
    have h1 := AV.same_eq _ _ h1
    have h2 := Nat.eq_of_beq_eq_true h2
    exact ⟨W.wp_mono (mergeW_sound ha) fun c hc => ⟨hc.1, hc.2.1, fun id o ho => hc.2.2 id o (joinH_get _ _ _ _ ho).1⟩,
      W.wp_mono (mergeW_sound hb) fun c hc => ⟨hc.1.trans h1.symm, hc.2.1.trans h2.symm, fun id o ho => hc.2.2 id o (joinH_get _ _ _ _ ho).2⟩⟩
/-- A FUNCTION THAT RANGES OVER MAPS, run in all orders: its summary. -/
noncomputable def ordHook (cx : Ctx) (cf : CallF) (k : Nat) (f : FuncId) : List AV → St → T (AV × St) := fun args st =>
  (mergeW (callW cx cf k f args st)).bind fun p => T.chk (Nat.ble st.nx p.2.nx) 372 (.ret (p.1, ⟨p.2.H, p.2.nx, st.fx⟩))
theorem ordHook_sound (ok : cx.Ok P) (hgl : cx.gl ≤ ρ.gl) {cf : CallF} (hcf : CallSound P ρ cf) {k : Nat} {f : FuncId} : HookSound P ρ f (ordHook cx cf k f) := by
  intro args st v st' hx h
  unfold ordHook at h
  replace h := T.at_bind_some.1 h; obtain ⟨p, hp, h⟩ := h
  replace h := chk_at h; obtain ⟨hnx, h⟩ := h
  have hnx := Nat.le_of_ble_eq_true hnx
  have h : some (p.1, (⟨p.2.H, p.2.nx, st.fx⟩ : St)) = some (v, st') := h
  simp only [Option.some.injEq, Prod.mk.injEq] at h
  obtain ⟨rfl, rfl⟩ := h
  obtain ⟨hfn, hc⟩ := callW_sound ok hgl hcf hx (mergeW_sound hp)
  refine ⟨hfn, ⟨hx, hnx⟩, fun L w n vals hs hv => CallsIn.mono (hc L w n vals hs hv) (fun e w' he => ?_)⟩
  obtain ⟨x, u, st1, rfl, ⟨s1, s2, s3⟩, L1, a1, n1, f1, fx1, r1⟩ := he
  have s1 : u = p.1 := s1
  have s2 : st1.nx = p.2.nx := s2
  subst s1
  refine ⟨x, rfl, L1, a1, hnx, ⟨f1.size, f1.os, f1.tape, f1.output, f1.keep, fun b hb hnb id o ho => f1.owns b hb hnb id o (s3 id o ho)⟩, hx, fun L' hL => ?_⟩
  obtain ⟨q1, q2⟩ := r1 L' (by rw [s2]; exact hL)
  exact ⟨q1, ⟨fun id o ho => q2.at_ id o (s3 id o ho), fun i j oi oj hi hj => q2.inj i j oi oj (s3 i oi hi) (s3 j oj hj), q2.pin⟩⟩
/-! ## Tables of summaries -/
def HksOk (P : Program) (ρ : Env) (t : Tr (List AV → St → T (AV × St))) : Prop := ∀ g k, t.get g = some k → HookSound P ρ g k
theorem HksOk.nil : HksOk P ρ .nil := fun _ _ (h : (Tr.nil : Tr (List AV → St → T (AV × St))).get _ = some _) => by cases h
theorem HksOk.set {t : Tr (List AV → St → T (AV × St))} {f : FuncId} {h : List AV → St → T (AV × St)} (ht : HksOk P ρ t) (hf : HookSound P ρ f h) : HksOk P ρ (t.set f h) := by
  intro g k hg
  rw [Tr.get_set] at hg
  split at hg
  · rename_i e
    subst e
    cases hg
    exact hf
  · exact ht g k hg
theorem HksOk.ctx {t : Tr (List AV → St → T (AV × St))} {en : Nat} (ht : HksOk P ρ t) : HooksOk P ρ (mkCtxE P t en) := ht
theorem callNF_sound (ok : cx.Ok P) (hgl : cx.gl ≤ ρ.gl) (hh : HooksOk P ρ cx) (k : Nat) : CallSound P ρ (callAF cx k) := by
  unfold callAF
  rw [execF_eq]
  exact callN_all ok hh hgl k
end Ab
