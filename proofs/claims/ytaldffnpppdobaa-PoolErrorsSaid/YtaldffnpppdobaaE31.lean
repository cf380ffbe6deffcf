/- E, part 31: code and calls. -/
import Derived.Test.YtaldffnpppdobaaE30
namespace Ab
open Go

variable {P : Program} {cx : Ctx} {ρ : Env}

def exOf : Ex → Exit
  | .normal => .normal
  | .exit id => .exit id
  | .ret => .ret
/-- Code runs; a loop, in so many rounds. -/
def Runs (P : Program) (n k : Nat) (c : Code) (Q : Exit → Act → World → Prop) (a : Act) (w : World) : Prop :=
  match c with
  | .loop c => Code.roundsIn Fence.wide n P c Q k a w
  | c => c.wpIn Fence.wide n P Q a w
theorem Runs.wp {n k : Nat} {c : Code} {Q : Exit → Act → World → Prop} {a : Act} {w : World} (h : Runs P n k c Q a w) : c.wpIn Fence.wide n P Q a w := by
  unfold Runs at h
  split at h
  · exact wpIn_loop_rounds k h
  · exact h
def ExecSound (P : Program) (ρ : Env) (k : Nat) (ih : CodeF) : Prop :=
  ∀ (c : Code) (nt : Nat) (e : Tr AV) (st : St) (r : Res), FxOk ρ st.fx → (ih c nt e st).at_ ρ = some r → Grows ρ st r.st ∧
    ∀ (L : Nat → Loc) (a : Act) (w : World) (n : Nat) (Q : Exit → Act → World → Prop), KS ρ L e nt st a w → (∀ a' w', Goes ρ L st w r.e nt r.st a' w' → Q (exOf r.x) a' w') → Runs P n k c Q a w

/-! ## Results -/
theorem resE_cons (e : Tr AV) (H : Tr AObj) (r : ResultVar) (rs : List ResultVar) : resE cx e H (r :: rs) = (match r with
      | .tmp t => T.opt (e.get t) 320 .ret
      | .cell a t => T.opt (e.get a) 321 fun v => loadE cx H t v : T AV).bind fun v => (resE cx e H rs).bind fun vs => .ret (v :: vs) := rfl
def resS (tmps : Array Value) : ResultVar → Sem Value
  | .tmp t => pure (tmps.getD t undef)
  | .cell a t => do loadVar t (← asAddr (tmps.getD a undef))
theorem resE_sound (ok : cx.Ok P) {e : Tr AV} {H : Tr AObj} : ∀ (rs : List ResultVar) {vs : List AV}, (resE cx e H rs).at_ ρ = some vs → ∀ (L : Nat → Loc) (a : Act) (w : World), ERel L ρ e a → Sim L ρ H w →
    (rs.mapM (resS a.tmps)).run P w = .ok (vs.map (conc L ρ)) w
  | [], vs, h => by
    have h : (T.ret ([] : List AV)).at_ ρ = some vs := h
    replace h := ret1_at h
    subst h
    intro L a w _ _
    simp
  | r :: rs, vs, h => by
    rw [resE_cons] at h
    replace h := T.at_bind_some.1 h
    obtain ⟨v, h1, h⟩ := h
    replace h := T.at_bind_some.1 h
    obtain ⟨us, h2, h⟩ := h
    replace h := ret1_at h
    subst h
    intro L a w he hs
    have ih := resE_sound ok rs h2 L a w he hs
    rw [List.mapM_cons]
    cases r with
    | tmp t =>
      simp only at h1
      replace h1 := T.at_opt_some.1 h1; obtain ⟨u, hu, h1⟩ := h1
      replace h1 := ret1_at h1
      subst h1
      simp only [resS, Sem.run_bind, Sem.run_pure, Result.andThen_ok, he t v hu]
      rw [ih]
      simp
    | cell x t =>
      simp only at h1
      replace h1 := T.at_opt_some.1 h1; obtain ⟨u, hu, h1⟩ := h1
      obtain ⟨ad, had, hrun⟩ := loadE_sound ok h1 L w hs
      simp only [resS, Sem.run_bind, Sem.run_pure, Result.andThen_ok, he x u hu, had, asAddr, hrun]
      rw [ih]
      simp
theorem conc_oneOrTuple (L : Nat → Loc) (vs : List AV) : conc L ρ (oneOrTuple vs) = (if h : (vs.map (conc L ρ)).toArray.size = 1 then (vs.map (conc L ρ)).toArray[0] else .tuple (vs.map (conc L ρ)).toArray) := by
  match vs with
  | [] => simp [oneOrTuple, conc, concs]
  | [v] => simp [oneOrTuple]
  | v :: u :: vs => simp [oneOrTuple, conc, concs_eq]
theorem results_sound (ok : cx.Ok P) {e : Tr AV} {H : Tr AObj} {fn : Func} {vs : List AV} (h : (resE cx e H fn.results.toList).at_ ρ = some vs) (L : Nat → Loc) (a : Act) (w : World) (he : ERel L ρ e a) (hs : Sim L ρ H w) :
    (results fn a.tmps).run P w = .ok (conc L ρ (oneOrTuple vs)) w := by
  have hr := resE_sound ok fn.results.toList h L a w he hs
  have hm : (fn.results.mapM (resS a.tmps)).run P w = .ok (vs.map (conc L ρ)).toArray w := by
    rw [Array.mapM_eq_mapM_toList]
    show ((fn.results.toList.mapM (resS a.tmps)) >>= fun l => pure l.toArray : Sem (Array Value)).run P w = _
    rw [Sem.run_bind, hr]
    rfl
  have he : results fn a.tmps = (fn.results.mapM (resS a.tmps) >>= fun vs => pure (if h : vs.size = 1 then vs[0] else .tuple vs)) := by
    unfold results
    congr 2
  rw [he, Sem.run_bind, hm, conc_oneOrTuple]
  rfl
/-! ## What grows -/
theorem regS_grows (ok : cx.Ok P) {cf : CallF} (hcf : CallSound P ρ cf) {nt : Nat} {ops : List Oper} : ∀ (l : List Oper) {e : Tr AV} {st : St} {e' : Tr AV} {st' : St}, FxOk ρ st.fx → (regS cx cf nt ops l e st).at_ ρ = some (e', st') → Grows ρ st st'
  | [], e, st, e', st', hx, h => by
    have h : (T.ret (e, st)).at_ ρ = some (e', st') := h
    replace h := ret_at h; obtain ⟨rfl, rfl⟩ := h
    exact ⟨hx, Nat.le_refl _⟩
  | o :: l, e, st, e', st', hx, h => by
    have h : (T.opt (wantE ops e o) 313 fun w => Bool.rec (putE nt e o.dst undefA fun e => regS cx cf nt ops l e st)
        ((opE cx cf (opnd cx.gl e) (cls cx o.op) o.op st).bind fun p => putE nt e o.dst p.1 fun e => regS cx cf nt ops l e p.2) w : T (Tr AV × St)).at_ ρ = some (e', st') := h
    replace h := T.at_opt_some.1 h; obtain ⟨b, hb, h⟩ := h
    cases b with
    | false =>
      replace h := putE_at h; obtain ⟨h, hd⟩ := h
      exact regS_grows ok hcf l hx h
    | true =>
      have h : ((opE cx cf (opnd cx.gl e) (cls cx o.op) o.op st).bind fun p => putE nt e o.dst p.1 fun e => regS cx cf nt ops l e p.2).at_ ρ = some (e', st') := h
      replace h := T.at_bind_some.1 h
      obtain ⟨⟨v, st1⟩, h1, h⟩ := h
      replace h := putE_at h; obtain ⟨h, hd⟩ := h
      have g1 := opE_grows ok hcf hx h1
      have g2 := regS_grows ok hcf l g1.1 h
      exact ⟨g2.1, Nat.le_trans g1.2 g2.2⟩
theorem regD_grows (ok : cx.Ok P) {cf : CallF} (hcf : CallSound P ρ cf) {nt : Nat} {ops : List Oper} {l : List Step} {e : Tr AV} {st : St} {hs : List (Tr AObj)} {e' : Tr AV} {st' : St} (hx : FxOk ρ st.fx)
    (h : (regD cx cf nt ops l e st hs).at_ ρ = some (e', st')) : Grows ρ st st' := by
  obtain ⟨E, S, Hs, V, B, rfl, rfl, rfl, rfl, rfl, htr⟩ := regD_trace ok hcf l hx h
  have : ∀ k, k ≤ l.length → Grows ρ (S 0) (S k) := by
    intro k
    induction k with
    | zero => intro _; exact ⟨hx, Nat.le_refl _⟩
    | succ k ih =>
      intro hk
      obtain ⟨s, hs⟩ := at_of_lt (show k < l.length by omega)
      exact ⟨(htr k s hs).fx, Nat.le_trans (ih (by omega)).2 (htr k s hs).nx⟩
  exact this _ (Nat.le_refl _)
theorem Goes.comp {L L1 : Nat → Loc} {st st1 st2 : St} {w w1 w2 : World} {e2 : Tr AV} {nt : Nat} {a2 : Act} (ha : Agree st.nx L L1) (hn : st.nx ≤ st1.nx) (hf : Fr L st.H w L1 st1.H w1) (h : Goes ρ L1 st1 w1 e2 nt st2 a2 w2) : Goes ρ L st w e2 nt st2 a2 w2 := by
  obtain ⟨L2, ha2, hn2, hf2, hk2⟩ := h
  exact ⟨L2, ha.trans (ha2.mono hn), Nat.le_trans hn hn2, hf.trans hf2, hk2⟩

/-! ## Calls -/
theorem callF0_sound (ok : cx.Ok P) {k : Nat} {ih : CodeF} (hih : ExecSound P ρ k ih) : CallSound P ρ (callF0 cx ih) := by
  intro f args st v st' hx h
  unfold callF0 at h
  replace h := T.at_opt_some.1 h; obtain ⟨fn, hfn, h⟩ := h
  replace h := T.at_opt_some.1 h; obtain ⟨code, hcode, h⟩ := h
  replace h := T.at_bind_some.1 h
  obtain ⟨r, hr, h⟩ := h
  have hf := ok.fn f fn hfn
  obtain ⟨hgr, hrun⟩ := hih code _ _ st r hx hr
  have hres : r.x ≠ .exit 0 ∧ (∀ i, r.x ≠ .exit i) ∧ ∃ vs, (resE cx r.e r.st.H fn.results.toList).at_ ρ = some vs ∧ v = oneOrTuple vs ∧ st' = r.st := by
    have fin : (∀ i, r.x ≠ .exit i) → ((resE cx r.e r.st.H fn.results.toList).bind fun vs => T.ret (oneOrTuple vs, r.st)).at_ ρ = some (v, st') →
        r.x ≠ .exit 0 ∧ (∀ i, r.x ≠ .exit i) ∧ ∃ vs, (resE cx r.e r.st.H fn.results.toList).at_ ρ = some vs ∧ v = oneOrTuple vs ∧ st' = r.st := by
      intro hne h
      replace h := T.at_bind_some.1 h
      obtain ⟨vs, hvs, h⟩ := h
      replace h := ret_at h
      exact ⟨hne 0, hne, vs, hvs, h⟩
    cases hx : r.x with
    | exit i => rw [hx] at h; simp [T.at_bad] at h
    | normal => rw [hx] at h; rw [← hx]; exact fin (fun i => by rw [hx]; simp) h
    | ret => rw [hx] at h; rw [← hx]; exact fin (fun i => by rw [hx]; simp) h
  obtain ⟨_, hne, vs, hvs, rfl, rfl⟩ := hres
  refine ⟨⟨fn, hf, ok.name f fn hfn, by rw [hcode]; rfl⟩, hgr, fun L w n vals hs hv => ?_⟩
  have hlen : vals.size = args.length := by rw [hv L (Agree.refl _ _)]; simp
  refine callsIn_of_wp hf hcode trivial ((hrun L _ w n _ ⟨fun L' ha t u hu => ?_, hs, hx, ?_, rfl⟩ (fun a' w' hg => ?_)).wp)
  · rw [Tr.get_ofList] at hu
    show (vals ++ Array.replicate (fn.ntmps - vals.size) undef).getD t undef = _
    have hlt : t < args.length := by
      rcases Nat.lt_or_ge t args.length with hh | hh
      · exact hh
      · rw [List.getElem?_eq_none hh] at hu; cases hu
    rw [Array.getD_eq_getD_getElem?, Array.getElem?_append_left (by omega), hv L' ha]
    simp [hu]
  · show (vals ++ Array.replicate (fn.ntmps - vals.size) undef).size = _
    simp [hlen, llen_eq]
  · obtain ⟨L1, g1, g2, g3, g4⟩ := hg
    have hpost : a'.defers = [] ∧ ∃ y, (results fn a'.tmps).run P w' = .ok y w' ∧ (∃ x, Ending.returned y = .returned x ∧ Turns ρ L st w (oneOrTuple vs) r.st x w') := by
      refine ⟨g4.dfr, conc L1 ρ (oneOrTuple vs), results_sound ok hvs L1 a' w' (g4.env L1 (Agree.refl _ _)) (g4.sim L1 (Agree.refl _ _)), _, rfl, L1, g1, g2, g3, g4.fx, fun L' hL => ⟨?_, g4.sim L' hL⟩⟩
      have e1 := results_sound ok hvs L1 a' w' (g4.env L1 (Agree.refl _ _)) (g4.sim L1 (Agree.refl _ _))
      rw [results_sound ok hvs L' a' w' (g4.env L' hL) (g4.sim L' hL)] at e1
      simp at e1
      exact e1.symm
    cases hx : r.x with
    | exit i => exact absurd hx (hne i)
    | normal => exact hpost
    | ret => exact hpost

theorem callF_sound (ok : cx.Ok P) (hh : HooksOk P ρ cx) {k : Nat} {ih : CodeF} (hih : ExecSound P ρ k ih) : CallSound P ρ (callF cx ih) := by
  intro f args st v st' hx h
  unfold callF at h
  cases hf : cx.hk.get f with
  | none => rw [hf] at h; exact callF0_sound ok hih f args st v st' hx h
  | some k => rw [hf] at h; exact hh f k hf args st v st' hx h

/-! ## Code -/
theorem codeE_sound (ok : cx.Ok P) (hh : HooksOk P ρ cx) (hgl : cx.gl = 0) {k : Nat} {ih : CodeF} (hih : ExecSound P ρ k ih) : ExecSound P ρ (k + 1) (codeE cx ih) := by
  have hcf := callF_sound ok hh hih
  intro c nt e st r hx h
  have here : ∀ {x : Ex}, r = ⟨x, e, st⟩ → Grows ρ st r.st := fun hr => by subst hr; exact ⟨hx, Nat.le_refl _⟩
  have stay : ∀ {L : Nat → Loc} {a : Act} {w : World}, KS ρ L e nt st a w → Goes ρ L st w e nt st a w := fun hk => ⟨_, Agree.refl _ _, Nat.le_refl _, Fr.refl _ _ _, hk⟩
  unfold codeE at h
  split at h
  case h_1 =>
    replace h := ret1_at h; subst h
    exact ⟨⟨hx, Nat.le_refl _⟩, fun L a w n Q hk hQ => wpIn_skip (hQ a w (stay hk))⟩
  case h_2 id ops draw =>
    replace h := T.at_bind_some.1 h
    obtain ⟨⟨e1, st1⟩, h1, h⟩ := h
    replace h := ret1_at h; subst h
    cases draw with
    | false =>
      rw [cond_false] at h1
      refine ⟨regS_grows ok hcf ops.toList hx h1, fun L a w n Q hk hQ => wpIn_region ?_⟩
      rw [List.range_eq_range']
      have := regS_sound (n := n) (ops := ops) (Q := Q) ok hgl hcf ops.toList 0 (fun k o hk => by rw [Nat.zero_add]; simpa using hk) e st e1 st1 h1 L a w hk (fun a' w' hg => hQ a' w' hg)
      simpa using this
    | true =>
      rw [cond_true] at h1
      replace h1 := T.at_opt_some.1 h1; obtain ⟨l, hl, h1⟩ := h1
      exact ⟨regD_grows ok hcf hx h1, fun L a w n Q hk hQ => regD_sound ok hgl hcf hl h1 hk (fun a' w' hg => hQ a' w' hg)⟩
  case h_3 x y =>
    replace h := T.at_bind_some.1 h
    obtain ⟨r1, h1, h⟩ := h
    obtain ⟨g1, k1⟩ := hih x nt e st r1 hx h1
    cases hx1 : r1.x with
    | normal =>
      rw [hx1] at h
      obtain ⟨g2, k2⟩ := hih y nt r1.e r1.st r g1.1 h
      refine ⟨⟨g2.1, Nat.le_trans g1.2 g2.2⟩, fun L a w n Q hk hQ => wpIn_seq ((k1 L a w n _ hk (fun a1 w1 hg => ?_)).wp)⟩
      rw [hx1]
      obtain ⟨L1, p1, p2, p3, p4⟩ := hg
      exact (k2 L1 a1 w1 n Q p4 (fun a2 w2 hg2 => hQ a2 w2 (Goes.comp p1 p2 p3 hg2))).wp
    | exit id =>
      rw [hx1] at h
      replace h := ret1_at h; subst h
      refine ⟨g1, fun L a w n Q hk hQ => wpIn_seq ((k1 L a w n _ hk (fun a1 w1 hg => ?_)).wp)⟩
      have := hQ a1 w1 hg
      rw [hx1] at this ⊢
      exact this
    | ret =>
      rw [hx1] at h
      replace h := ret1_at h; subst h
      refine ⟨g1, fun L a w n Q hk hQ => wpIn_seq ((k1 L a w n _ hk (fun a1 w1 hg => ?_)).wp)⟩
      have := hQ a1 w1 hg
      rw [hx1] at this ⊢
      exact this
  case h_4 c x y =>
    replace h := T.at_opt_some.1 h; obtain ⟨v, hv, h⟩ := h
    split at h
    case h_3 => simp [T.at_bad] at h
    · obtain ⟨g1, k1⟩ := hih x nt e st r hx h
      exact ⟨g1, fun L a w n Q hk hQ => wpIn_cond_true (opnd_rel hgl (hk.env L (Agree.refl _ _)) _ _ hv) (k1 L a w n Q hk hQ).wp⟩
    · obtain ⟨g1, k1⟩ := hih y nt e st r hx h
      exact ⟨g1, fun L a w n Q hk hQ => wpIn_cond_false (opnd_rel hgl (hk.env L (Agree.refl _ _)) _ _ hv) (k1 L a w n Q hk hQ).wp⟩
  case h_5 id c =>
    replace h := T.at_bind_some.1 h
    obtain ⟨r1, h1, h⟩ := h
    obtain ⟨g1, k1⟩ := hih c nt e st r1 hx h1
    cases hx1 : r1.x with
    | exit j =>
      rw [hx1] at h
      simp only at h
      cases hj : Nat.beq j id with
      | true =>
        rw [hj, cond_true] at h
        replace h := ret1_at h; subst h
        refine ⟨g1, fun L a w n Q hk hQ => wpIn_block ((k1 L a w n _ hk (fun a1 w1 hg => ?_)).wp)⟩
        rw [hx1]
        show (if j = id then Q .normal a1 w1 else Q (.exit j) a1 w1)
        rw [if_pos (Nat.eq_of_beq_eq_true hj)]
        exact hQ a1 w1 hg
      | false =>
        rw [hj, cond_false] at h
        replace h := ret1_at h; subst h
        refine ⟨g1, fun L a w n Q hk hQ => wpIn_block ((k1 L a w n _ hk (fun a1 w1 hg => ?_)).wp)⟩
        have := hQ a1 w1 hg
        rw [hx1] at this ⊢
        show (if j = id then Q .normal a1 w1 else Q (.exit j) a1 w1)
        rw [if_neg (beq_false' hj)]
        exact this
    | normal =>
      rw [hx1] at h
      replace h := ret1_at h; subst h
      refine ⟨g1, fun L a w n Q hk hQ => wpIn_block ((k1 L a w n _ hk (fun a1 w1 hg => ?_)).wp)⟩
      have := hQ a1 w1 hg
      rw [hx1] at this ⊢
      exact this
    | ret =>
      rw [hx1] at h
      replace h := ret1_at h; subst h
      refine ⟨g1, fun L a w n Q hk hQ => wpIn_block ((k1 L a w n _ hk (fun a1 w1 hg => ?_)).wp)⟩
      have := hQ a1 w1 hg
      rw [hx1] at this ⊢
      exact this
  case h_6 c =>
    replace h := T.at_bind_some.1 h
    obtain ⟨r1, h1, h⟩ := h
    obtain ⟨g1, k1⟩ := hih c nt e st r1 hx h1
    cases hx1 : r1.x with
    | normal =>
      rw [hx1] at h
      obtain ⟨g2, k2⟩ := hih (.loop c) nt r1.e r1.st r g1.1 h
      refine ⟨⟨g2.1, Nat.le_trans g1.2 g2.2⟩, fun L a w n Q hk hQ => ?_⟩
      show Code.roundsIn Fence.wide n P c Q (k + 1) a w
      rw [roundsIn_succ]
      refine (k1 L a w n _ hk (fun a1 w1 hg => ?_)).wp
      rw [hx1]
      obtain ⟨L1, p1, p2, p3, p4⟩ := hg
      exact k2 L1 a1 w1 n Q p4 (fun a2 w2 hg2 => hQ a2 w2 (Goes.comp p1 p2 p3 hg2))
    | exit j =>
      rw [hx1] at h
      replace h := ret1_at h; subst h
      refine ⟨g1, fun L a w n Q hk hQ => ?_⟩
      show Code.roundsIn Fence.wide n P c Q (k + 1) a w
      rw [roundsIn_succ]
      refine (k1 L a w n _ hk (fun a1 w1 hg => ?_)).wp
      have := hQ a1 w1 hg
      rw [hx1] at this ⊢
      exact this
    | ret =>
      rw [hx1] at h
      replace h := ret1_at h; subst h
      refine ⟨g1, fun L a w n Q hk hQ => ?_⟩
      show Code.roundsIn Fence.wide n P c Q (k + 1) a w
      rw [roundsIn_succ]
      refine (k1 L a w n _ hk (fun a1 w1 hg => ?_)).wp
      have := hQ a1 w1 hg
      rw [hx1] at this ⊢
      exact this
  case h_7 id =>
    replace h := ret1_at h; subst h
    exact ⟨⟨hx, Nat.le_refl _⟩, fun L a w n Q hk hQ => wpIn_exit (hQ a w (stay hk))⟩
  case h_8 =>
    replace h := ret1_at h; subst h
    exact ⟨⟨hx, Nat.le_refl _⟩, fun L a w n Q hk hQ => wpIn_label (hQ a w (stay hk))⟩
  case h_9 =>
    replace h := ret1_at h; subst h
    exact ⟨⟨hx, Nat.le_refl _⟩, fun L a w n Q hk hQ => wpIn_ret (hQ a w (stay hk))⟩
  all_goals simp [T.at_bad] at h
/-- THE EXECUTOR. -/
theorem execN_sound (ok : cx.Ok P) (hh : HooksOk P ρ cx) (hgl : cx.gl = 0) : ∀ k, ExecSound P ρ k (execN cx k)
  | 0 => by
    intro c nt e st r hx h
    have h : (T.bad 340 : T Res).at_ ρ = some r := h
    simp [T.at_bad] at h
  | k + 1 => codeE_sound ok hh hgl (execN_sound ok hh hgl k)
theorem callN_sound (ok : cx.Ok P) (hh : HooksOk P ρ cx) (hgl : cx.gl = 0) (k : Nat) : CallSound P ρ (callN cx k) := callF_sound ok hh (execN_sound ok hh hgl k)
end Ab
