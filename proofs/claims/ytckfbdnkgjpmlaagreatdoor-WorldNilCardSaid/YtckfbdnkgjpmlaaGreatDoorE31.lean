/- E, part 31: code and calls; loops over functions. -/
import Derived.Test.YtckfbdnkgjpmlaaGreatDoorE30
import Derived.RangeFuncIn
import Derived.RangeFuncLeaves
import Derived.RangeFuncRecord
namespace Ab
open Go

variable {P : Program} {cx : Ctx} {ρ : Env}

def exOf : Ex → Exit
  | .normal => .normal
  | .exit id => .exit id
  | .ret => .ret
/-- Code runs; a loop, in so many rounds. -/
def Runs (P : Program) (fq : Option Nat) (n k : Nat) (c : Code) (Q : Exit → Act → World → Prop) (a : Act) (w : World) : Prop :=
  match c with
  | .loop c => Code.roundsIn (fw fq) n P c Q k a w
  | c => c.wpIn (fw fq) n P Q a w
theorem Runs.wp {fq : Option Nat} {n k : Nat} {c : Code} {Q : Exit → Act → World → Prop} {a : Act} {w : World} (h : Runs P fq n k c Q a w) : c.wpIn (fw fq) n P Q a w := by
  unfold Runs at h
  split at h
  · exact wpIn_loop_rounds k h
  · exact h
/-- What a mark speaks of is there. -/
def MkOk (n : Nat) : Mk → Prop
  | .blk i => i < n
  | .dfr _ args => idsLt n args = true
theorem idsLt_cons {n : Nat} {v : AV} {l : List AV} : idsLt n (v :: l) = (bif idLt n v then idsLt n l else false) := rfl
theorem band_true' {a b : Bool} (h : (bif a then b else false) = true) : a = true ∧ b = true := by cases a <;> cases b <;> simp_all
theorem idLt_mono {n m : Nat} (hm : n ≤ m) {v : AV} (h : idLt n v = true) : idLt m v = true := by
  have this : ∀ {i : Nat}, Nat.ble (Nat.succ i) n = true → Nat.ble (Nat.succ i) m = true := fun {i} hi => Nat.ble_eq_true_of_le (Nat.le_trans (Nat.le_of_ble_eq_true hi) hm)
  cases v with
  | ptr id off => exact this h
  | slice id a b c d e => exact this h
  | map id => exact this h
  | _ => exact h
theorem idLt_conc {n : Nat} {L L' : Nat → Loc} (ha : Agree n L L') {v : AV} (h : idLt n v = true) : conc L ρ v = conc L' ρ v := by
  have this : ∀ {i : Nat}, Nat.ble (Nat.succ i) n = true → L' i = L i := fun {i} hi => ha i (Nat.le_of_ble_eq_true hi)
  cases v with
  | ptr id off => simp only [conc, this h]
  | slice id a b c d e => simp only [conc, this h]
  | map id => simp only [conc, this h]
  | bool b => rfl
  | int k t => rfl
  | str s => rfl
  | nilp => rfl
  | nils => rfl
  | nilm => rfl
  | nili => rfl
  | _ => cases h
theorem idsLt_mono {n m : Nat} (hm : n ≤ m) : ∀ {l : List AV}, idsLt n l = true → idsLt m l = true
  | [], _ => rfl
  | v :: l, h => by
    rw [idsLt_cons] at h ⊢
    obtain ⟨h1, h2⟩ := band_true' h
    rw [idsLt_mono hm h2, idLt_mono hm h1]
    rfl
theorem idsLt_conc {n : Nat} {L L' : Nat → Loc} (ha : Agree n L L') : ∀ {l : List AV}, idsLt n l = true → l.map (conc L ρ) = l.map (conc L' ρ)
  | [], _ => rfl
  | v :: l, h => by
    rw [idsLt_cons] at h
    obtain ⟨h1, h2⟩ := band_true' h
    rw [List.map_cons, List.map_cons, idsLt_conc ha h2, idLt_conc ha h1]
theorem MkOk.mono {n m : Nat} (hm : n ≤ m) {k : Mk} (h : MkOk n k) : MkOk m k := by
  cases k with
  | blk i => exact Nat.lt_of_lt_of_le h hm
  | dfr f args => exact idsLt_mono hm h
theorem markOf_agree {n : Nat} {L L' : Nat → Loc} (ha : Agree n L L') {k : Mk} (h : MkOk n k) : markOf ρ L k = markOf ρ L' k := by
  cases k with
  | blk i => simp only [markOf, ha i h]
  | dfr f args => simp only [markOf, idsLt_conc ha h]
def ExecSound (P : Program) (ρ : Env) (k : Nat) (ih : CodeF) : Prop :=
  ∀ (rd : Bool) (c : Code) (nt : Nat) (e : Tr AV) (st : St) (r : Res), FxOk ρ st.fx → (ih rd c nt e st).at_ ρ = some r → (Grows ρ st r.st ∧ ∀ i ∈ r.mks, MkOk r.st.nx i) ∧
    ∀ (fq : Option Nat), (rd = false → fq = none) → ∀ (L : Nat → Loc) (a : Act) (w : World) (n : Nat) (ds : List Deferred) (Q : Exit → Act → World → Prop), KS ρ L e nt ds st a w →
      (∀ a' w', Goes ρ L st w r.e nt r.mks ds r.st a' w' → Q (exOf r.x) a' w') → Runs P fq n k c Q a w

/-! ## Results -/
theorem resE_cons (e : Tr AV) (H : Tr AObj) (r : ResultVar) (rs : List ResultVar) : resE cx e H (r :: rs) = (match r with
      | .tmp t => T.opt (e.get t) 320 .ret
      | .cell a t => T.opt (e.get a) 321 fun v => loadE cx H t v : T AV).bind fun v => (resE cx e H rs).bind fun vs => .ret (v :: vs) := rfl
def resS (tmps : Array Value) : ResultVar → Sem Value
  | .tmp t => pure (tmps.getD t undef)
  | .cell a t => do loadVar t (← asAddr (tmps.getD a undef))
theorem resE_sound (ok : cx.Ok P) {e : Tr AV} {H : Tr AObj} : ∀ (rs : List ResultVar) {vs : List AV}, (resE cx e H rs).at_ ρ = some vs → ∀ (L : Nat → Loc) (a : Act) (w : World), ERel L ρ e a → Sim L ρ H w →
    (rs.mapM (resS a.tmps)).run P w = .ok (vs.map (conc L ρ)) w
  | [], vs, h => by
    have h : (T.ret ([] : List AV)).at_ ρ = some vs := h
    replace h := ret1_at h
    subst h
    intro L a w _ _
    simp
  | r :: rs, vs, h => by
    rw [resE_cons] at h
    replace h := T.at_bind_some.1 h
    obtain ⟨v, h1, h⟩ := h
    replace h := T.at_bind_some.1 h
    obtain ⟨us, h2, h⟩ := h
    replace h := ret1_at h
    subst h
    intro L a w he hs
    have ih := resE_sound ok rs h2 L a w he hs
    rw [List.mapM_cons]
    cases r with
    | tmp t =>
      simp only at h1
      replace h1 := T.at_opt_some.1 h1; obtain ⟨u, hu, h1⟩ := h1
      replace h1 := ret1_at h1
      subst h1
      simp only [resS, Sem.run_bind, Sem.run_pure, Result.andThen_ok, he t v hu]
      rw [ih]
      simp
    | cell x t =>
      simp only at h1
      replace h1 := T.at_opt_some.1 h1; obtain ⟨u, hu, h1⟩ := h1
      obtain ⟨ad, had, hrun⟩ := loadE_sound ok h1 L w hs
      simp only [resS, Sem.run_bind, Sem.run_pure, Result.andThen_ok, he x u hu, had, asAddr, hrun]
      rw [ih]
      simp
theorem conc_oneOrTuple (L : Nat → Loc) (vs : List AV) : conc L ρ (oneOrTuple vs) = (if h : (vs.map (conc L ρ)).toArray.size = 1 then (vs.map (conc L ρ)).toArray[0] else .tuple (vs.map (conc L ρ)).toArray) := by
  match vs with
  | [] => simp [oneOrTuple, conc, concs]
  | [v] => simp [oneOrTuple]
  | v :: u :: vs => simp [oneOrTuple, conc, concs_eq]
theorem results_sound (ok : cx.Ok P) {e : Tr AV} {H : Tr AObj} {fn : Func} {vs : List AV} (h : (resE cx e H fn.results.toList).at_ ρ = some vs) (L : Nat → Loc) (a : Act) (w : World) (he : ERel L ρ e a) (hs : Sim L ρ H w) :
    (results fn a.tmps).run P w = .ok (conc L ρ (oneOrTuple vs)) w := by
  have hr := resE_sound ok fn.results.toList h L a w he hs
  have hm : (fn.results.mapM (resS a.tmps)).run P w = .ok (vs.map (conc L ρ)).toArray w := by
    rw [Array.mapM_eq_mapM_toList]
    show ((fn.results.toList.mapM (resS a.tmps)) >>= fun l => pure l.toArray : Sem (Array Value)).run P w = _
    rw [Sem.run_bind, hr]
    rfl
  have he : results fn a.tmps = (fn.results.mapM (resS a.tmps) >>= fun vs => pure (if h : vs.size = 1 then vs[0] else .tuple vs)) := by
    unfold results
    congr 2
  rw [he, Sem.run_bind, hm, conc_oneOrTuple]
  rfl
/-! ## What grows -/
theorem regS_grows (ok : cx.Ok P) {cf : CallF} (hcf : CallSound P ρ cf) {nt : Nat} {ops : List Oper} : ∀ (l : List Oper) {e : Tr AV} {st : St} {e' : Tr AV} {st' : St}, FxOk ρ st.fx → (regS cx cf nt ops l e st).at_ ρ = some (e', st') → Grows ρ st st'
  | [], e, st, e', st', hx, h => by
    have h : (T.ret (e, st)).at_ ρ = some (e', st') := h
    replace h := ret_at h; obtain ⟨rfl, rfl⟩ := h
    exact ⟨hx, Nat.le_refl _⟩
  | o :: l, e, st, e', st', hx, h => by
    have h : (T.opt (wantE ops e o) 313 fun w => Bool.rec (putE nt e o.dst undefA fun e => regS cx cf nt ops l e st)
        ((opE cx cf (opnd cx.gl e) (cls cx o.op) o.op st).bind fun p => putE nt e o.dst p.1 fun e => regS cx cf nt ops l e p.2) w : T (Tr AV × St)).at_ ρ = some (e', st') := h
    replace h := T.at_opt_some.1 h; obtain ⟨b, hb, h⟩ := h
    cases b with
    | false =>
      replace h := putE_at h; obtain ⟨h, hd⟩ := h
      exact regS_grows ok hcf l hx h
    | true =>
      have h : ((opE cx cf (opnd cx.gl e) (cls cx o.op) o.op st).bind fun p => putE nt e o.dst p.1 fun e => regS cx cf nt ops l e p.2).at_ ρ = some (e', st') := h
      replace h := T.at_bind_some.1 h
      obtain ⟨⟨v, st1⟩, h1, h⟩ := h
      replace h := putE_at h; obtain ⟨h, hd⟩ := h
      have g1 := opE_grows ok hcf hx h1
      have g2 := regS_grows ok hcf l g1.1 h
      exact ⟨g2.1, Nat.le_trans g1.2 g2.2⟩
theorem regD_grows (ok : cx.Ok P) {cf : CallF} (hcf : CallSound P ρ cf) {nt : Nat} {ops : List Oper} {l : List Step} {e : Tr AV} {st : St} {hs : List (Tr AObj)} {e' : Tr AV} {st' : St} (hx : FxOk ρ st.fx)
    (h : (regD cx cf nt ops l e st hs).at_ ρ = some (e', st')) : Grows ρ st st' := by
  obtain ⟨E, S, Hs, V, B, rfl, rfl, rfl, rfl, rfl, htr⟩ := regD_trace ok hcf l hx h
  have : ∀ k, k ≤ l.length → Grows ρ (S 0) (S k) := by
    intro k
    induction k with
    | zero => intro _; exact ⟨hx, Nat.le_refl _⟩
    | succ k ih =>
      intro hk
      obtain ⟨s, hs⟩ := at_of_lt (show k < l.length by omega)
      exact ⟨(htr k s hs).fx, Nat.le_trans (ih (by omega)).2 (htr k s hs).nx⟩
  exact this _ (Nat.le_refl _)
theorem marks_nil (L : Nat → Loc) (ds : List Deferred) : marks ρ L [] ++ ds = ds := rfl
theorem Goes.comp {L L1 : Nat → Loc} {st st1 st2 : St} {w w1 w2 : World} {e2 : Tr AV} {nt : Nat} {mk1 mk2 : List Mk} {ds : List Deferred} {a2 : Act} (ha : Agree st.nx L L1) (hn : st.nx ≤ st1.nx) (hf : Fr L st.H w L1 st1.H w1) (hm : ∀ i ∈ mk1, MkOk st1.nx i)
    (h : Goes ρ L1 st1 w1 e2 nt mk2 (marks ρ L1 mk1 ++ ds) st2 a2 w2) : Goes ρ L st w e2 nt (mk2 ++ mk1) ds st2 a2 w2 := by
  obtain ⟨L2, ha2, hn2, hf2, hk2⟩ := h
  refine ⟨L2, ha.trans (ha2.mono hn), Nat.le_trans hn hn2, hf.trans hf2, ?_⟩
  have e1 : marks ρ L1 mk1 = marks ρ L2 mk1 := List.map_congr_left fun i hi => markOf_agree ha2 (hm i hi)
  have : marks ρ L2 (mk2 ++ mk1) ++ ds = marks ρ L2 mk2 ++ (marks ρ L1 mk1 ++ ds) := by
    rw [e1]; simp [marks]
  rw [this]
  exact hk2

/-! ## Marks are taken up, deferred calls run -/
/-- What a deferred call comes to. -/
def DefSound (P : Program) (ρ : Env) (cd : FuncId → List AV → St → T (AV × St)) : Prop :=
  ∀ (f : FuncId) (args : List AV) (st : St) (v : AV) (st' : St), FxOk ρ st.fx → (cd f args st).at_ ρ = some (v, st') →
    (∃ fn, P.funcs[f]? = some fn ∧ fn.name ≠ "runtime.NumGoroutine" ∧ fn.body.isNone = false) ∧ (FxOk ρ st'.fx ∧ st.nx ≤ st'.nx) ∧
    ∀ (L : Nat → Loc) (w : World) (n : Nat) (vals : Array Value) (u : FrameMode), (∀ L', Agree st.nx L L' → Sim L' ρ st.H w) → (∀ L', Agree st.nx L L' → vals = (args.map (conc L' ρ)).toArray) →
      CallsDIn Fence.wide n P f vals u w fun e u' w' => u' = u ∧ ∃ x, e = .returned x ∧ Turns ρ L st w v st' x w'
theorem dropE_sound {cd : FuncId → List AV → St → T (AV × St)} (hcd : DefSound P ρ cd) : ∀ (mk : List Mk) {st st2 : St}, FxOk ρ st.fx → (∀ m ∈ mk, MkOk st.nx m) → (dropE cd mk st).at_ ρ = some st2 → (FxOk ρ st2.fx ∧ st.nx ≤ st2.nx) ∧
    ∀ {fn : Func} {tmps : Array Value} {R : Ending → World → Prop} {n : Nat} (L : Nat → Loc) (w : World), (∀ L', Agree st.nx L L' → Sim L' ρ st.H w) →
      (∀ (L2 : Nat → Loc) (w2 : World), Agree st.nx L L2 → Fr L st.H w L2 st2.H w2 → (∀ L', Agree st2.nx L2 L' → Sim L' ρ st2.H w2) → LeavesInM Fence.wide n P fn tmps R [] .returning w2) →
      LeavesInM Fence.wide n P fn tmps R (marks ρ L mk) .returning w
  | [], st, st2, hx, hmk, h => by
    have h : (T.ret st).at_ ρ = some st2 := h
    replace h := ret1_at h; subst h
    exact ⟨⟨hx, Nat.le_refl _⟩, fun L w hs hl => hl L w (Agree.refl _ _) (Fr.refl _ _ _) hs⟩
  | .blk i :: mk, st, st2, hx, hmk, h => by
    have h : (T.opt (st.H.get i) 420 fun o => match o with
      | .dfr => T.chk (Nat.ble (Nat.succ i) st.nx) 421 (dropE cd mk ⟨st.H.upd i none, st.nx, st.fx⟩)
      | _ => .bad 422 : T St).at_ ρ = some st2 := h
    replace h := T.at_opt_some.1 h; obtain ⟨o, ho, h⟩ := h
    split at h
    case h_2 => simp [T.at_bad] at h
    replace h := chk_at h; obtain ⟨hi, h⟩ := h
    have hi := Nat.le_of_ble_eq_true hi
    obtain ⟨e1, k⟩ := dropE_sound hcd mk (st := ⟨st.H.upd i none, st.nx, st.fx⟩) hx (fun m hm => hmk m (List.mem_cons_of_mem _ hm)) h
    refine ⟨e1, fun L w hs hl => ?_⟩
    have hsim := hs L (Agree.refl _ _)
    have hb : w.heap[(L i).b]? = some (.deferred (some [])) := hsim.at_ i _ ho
    have hput : WPut w (L i).b (.deferred none) (w.putObj (L i).b (.deferred none)) := WPut.set hb
    have gets : ∀ j oj, (st.H.upd i none).get j = some oj → j ≠ i ∧ st.H.get j = some oj := by
      intro j oj hj
      rw [Tr.get_upd] at hj
      split at hj
      · cases hj
      · rename_i hne; exact ⟨hne, hj⟩
    have hs' : ∀ L', Agree st.nx L L' → Sim L' ρ (st.H.upd i none) (w.putObj (L i).b (.deferred none)) := fun L' ha => by
      have hsim' := hs L' ha
      refine ⟨fun j oj hj => ?_, fun j j' oj oj' hj hj' hb => hsim'.inj j j' oj oj' (gets j oj hj).2 (gets j' oj' hj').2 hb, hsim'.pin⟩
      obtain ⟨hne, hj⟩ := gets j oj hj
      refine (hsim'.at_ j oj hj).keep (hput.other _ fun e => hne (hsim'.inj j i oj _ hj ho ?_))
      rw [e, ha i hi]
    have f1 : Fr L st.H w L (st.H.upd i none) (w.putObj (L i).b (.deferred none)) :=
      ⟨by rw [hput.size]; exact Nat.le_refl _, hput.os, hput.tape, hput.output, fun b _ hnb => hput.other b (Ne.symm (hnb i _ ho)), fun b _ hnb j oj hj => hnb j oj (gets j oj hj).2⟩
    exact ⟨by simp, .inl ⟨(L i).b, _, rfl, run_takeDeferred hb, k L _ hs' (fun L2 w2 a2 f2 s2 => hl L2 w2 a2 (f1.trans f2) s2)⟩⟩
  | .dfr f args :: mk, st, st2, hx, hmk, h => by
    have h : ((cd f args st).bind fun p => dropE cd mk p.2).at_ ρ = some st2 := h
    replace h := T.at_bind_some.1 h; obtain ⟨⟨v, st1⟩, h1, h⟩ := h
    obtain ⟨⟨fn0, hf0, hname, hbody⟩, ⟨hx1, hn1⟩, hc⟩ := hcd f args st v st1 hx h1
    obtain ⟨⟨e1, e2⟩, k⟩ := dropE_sound hcd mk hx1 (fun m hm => (hmk m (List.mem_cons_of_mem _ hm)).mono hn1) h
    refine ⟨⟨e1, Nat.le_trans hn1 e2⟩, fun L w hs hl => ?_⟩
    have hok : idsLt st.nx args = true := hmk (.dfr f args) List.mem_cons_self
    refine ⟨by simp, .inr ⟨fun hd => ?_, .func f, #[], f, (args.map (conc L ρ)).toArray ++ #[], rfl, run_callFunc hf0 hname hbody _ w, fun g _ => trivial, ?_⟩⟩
    · cases hd
    · rw [Array.append_empty]
      refine CallsDIn.mono (hc L w (_ - 1) (args.map (conc L ρ)).toArray .returning hs (fun L' ha => by rw [idsLt_conc ha hok])) (fun e u' w' he => ?_)
      obtain ⟨rfl, x, rfl, L1, a1, n1, f1, _, r1⟩ := he
      show LeavesInM Fence.wide _ P _ _ _ (marks ρ L mk) (Go.settle .returning) w'
      have em : marks ρ L mk = marks ρ L1 mk := List.map_congr_left fun m hm => markOf_agree a1 (hmk m (List.mem_cons_of_mem _ hm))
      rw [em]
      exact k L1 w' (fun L' ha => (r1 L' ha).2) (fun L2 w2 a2 f2 s2 => hl L2 w2 (a1.trans (a2.mono n1)) (f1.trans f2) s2)

/-! ## Calls -/
theorem callD_sound (ok : cx.Ok P) {k : Nat} {ih : CodeF} (hih : ExecSound P ρ k ih) : DefSound P ρ (callD cx ih) := by
  intro f args st v st' hx h
  unfold callD at h
  replace h := T.at_opt_some.1 h; obtain ⟨fn, hfn, h⟩ := h
  replace h := T.at_opt_some.1 h; obtain ⟨code, hcode, h⟩ := h
  replace h := T.at_bind_some.1 h
  obtain ⟨r, hr, h⟩ := h
  have hf := ok.fn f fn hfn
  obtain ⟨⟨hgr, hmk⟩, hrun⟩ := hih false code _ _ st r hx hr
  have hres : (∀ i, r.x ≠ .exit i) ∧ r.mks = [] ∧ ∃ vs, (resE cx r.e r.st.H fn.results.toList).at_ ρ = some vs ∧ v = oneOrTuple vs ∧ st' = r.st := by
    split at h
    · simp [T.at_bad] at h
    · rename_i hm hne
      replace h := T.at_bind_some.1 h
      obtain ⟨vs, hvs, h⟩ := h
      replace h := ret_at h
      exact ⟨fun i e => hne i e, hm, vs, hvs, h⟩
    · simp [T.at_bad] at h
  obtain ⟨hne, hm, vs, hvs, rfl, rfl⟩ := hres
  refine ⟨⟨fn, hf, ok.name f fn hfn, by rw [hcode]; rfl⟩, ⟨hgr.1, hgr.2⟩, fun L w n vals u hs hv => ?_⟩
  have hlen : vals.size = args.length := by rw [hv L (Agree.refl _ _)]; simp
  refine callsDIn_of_wp (R := fun e w' => ∃ x, e = .returned x ∧ Turns ρ L st w (oneOrTuple vs) r.st x w') hf hcode trivial ((hrun none (fun _ => rfl) L _ w n [] _ ⟨fun L' ha t u hu => ?_, hs, hx, ?_, rfl⟩ (fun a' w' hg => ?_)).wp)
  · rw [Tr.get_ofList] at hu
    show (vals ++ Array.replicate (fn.ntmps - vals.size) undef).getD t undef = _
    have hlt : t < args.length := by
      rcases Nat.lt_or_ge t args.length with hh | hh
      · exact hh
      · rw [List.getElem?_eq_none hh] at hu; cases hu
    rw [Array.getD_eq_getD_getElem?, Array.getElem?_append_left (by omega), hv L' ha]
    simp [hu]
  · show (vals ++ Array.replicate (fn.ntmps - vals.size) undef).size = _
    simp [hlen, llen_eq]
  · obtain ⟨L1, g1, g2, g3, g4⟩ := hg
    have hpost : a'.defers = [] ∧ ∃ v, (results fn a'.tmps).run P w' = .ok v w' ∧ ∃ x, Ending.returned v = .returned x ∧ Turns ρ L st w (oneOrTuple vs) r.st x w' := by
      refine ⟨by rw [g4.dfr, hm]; rfl, ?_⟩
      have e0 := results_sound ok hvs L1 a' w' (g4.env L1 (Agree.refl _ _)) (g4.sim L1 (Agree.refl _ _))
      refine ⟨_, e0, _, rfl, L1, g1, g2, g3, g4.fx, fun L' hL => ⟨?_, g4.sim L' hL⟩⟩
      have e1 := e0
      rw [results_sound ok hvs L' a' w' (g4.env L' hL) (g4.sim L' hL)] at e1
      simp at e1
      exact e1.symm
    cases hx : r.x with
    | exit i => exact absurd hx (hne i)
    | normal => exact hpost
    | ret => exact hpost
theorem callF0_sound (ok : cx.Ok P) {k : Nat} {ih : CodeF} (hih : ExecSound P ρ k ih) : CallFSound P ρ (callF0 cx ih) := by
  intro f args st v st' hx h
  unfold callF0 at h
  replace h := T.at_opt_some.1 h; obtain ⟨fn, hfn, h⟩ := h
  replace h := T.at_opt_some.1 h; obtain ⟨code, hcode, h⟩ := h
  replace h := T.at_bind_some.1 h
  obtain ⟨r, hr, h⟩ := h
  have hf := ok.fn f fn hfn
  obtain ⟨⟨hgr, hmk⟩, hrun⟩ := hih false code _ _ st r hx hr
  have hres : (∀ i, r.x ≠ .exit i) ∧ ∃ st2 vs, (dropE (callD cx ih) r.mks r.st).at_ ρ = some st2 ∧ (resE cx r.e st2.H fn.results.toList).at_ ρ = some vs ∧ v = oneOrTuple vs ∧ st' = st2 := by
    have fin : (∀ i, r.x ≠ .exit i) → ((dropE (callD cx ih) r.mks r.st).bind fun st2 => (resE cx r.e st2.H fn.results.toList).bind fun vs => T.ret (oneOrTuple vs, st2)).at_ ρ = some (v, st') →
        (∀ i, r.x ≠ .exit i) ∧ ∃ st2 vs, (dropE (callD cx ih) r.mks r.st).at_ ρ = some st2 ∧ (resE cx r.e st2.H fn.results.toList).at_ ρ = some vs ∧ v = oneOrTuple vs ∧ st' = st2 := by
      intro hne h
      replace h := T.at_bind_some.1 h
      obtain ⟨st2, h2, h⟩ := h
      replace h := T.at_bind_some.1 h
      obtain ⟨vs, hvs, h⟩ := h
      replace h := ret_at h
      exact ⟨hne, st2, vs, h2, hvs, h⟩
    cases hx : r.x with
    | exit i => rw [hx] at h; simp [T.at_bad] at h
    | normal => rw [hx] at h; rw [← hx]; exact fin (fun i => by rw [hx]; simp) h
    | ret => rw [hx] at h; rw [← hx]; exact fin (fun i => by rw [hx]; simp) h
  obtain ⟨hne, st2, vs, hdr, hvs, rfl, rfl⟩ := hres
  obtain ⟨⟨d1, d2⟩, kd⟩ := dropE_sound (callD_sound ok hih) r.mks hgr.1 hmk hdr
  refine ⟨⟨fn, hf, ok.name f fn hfn, by rw [hcode]; rfl⟩, ⟨d1, Nat.le_trans hgr.2 d2⟩, fun L w n vals hs hv => ?_⟩
  have hlen : vals.size = args.length := by rw [hv L (Agree.refl _ _)]; simp
  refine callsIn_of_wp_marks hf hcode trivial ((hrun none (fun _ => rfl) L _ w n [] _ ⟨fun L' ha t u hu => ?_, hs, hx, ?_, rfl⟩ (fun a' w' hg => ?_)).wp)
  · rw [Tr.get_ofList] at hu
    show (vals ++ Array.replicate (fn.ntmps - vals.size) undef).getD t undef = _
    have hlt : t < args.length := by
      rcases Nat.lt_or_ge t args.length with hh | hh
      · exact hh
      · rw [List.getElem?_eq_none hh] at hu; cases hu
    rw [Array.getD_eq_getD_getElem?, Array.getElem?_append_left (by omega), hv L' ha]
    simp [hu]
  · show (vals ++ Array.replicate (fn.ntmps - vals.size) undef).size = _
    simp [hlen, llen_eq]
  · obtain ⟨L1, g1, g2, g3, g4⟩ := hg
    have hpost : LeavesInM Fence.wide n P fn a'.tmps (fun e w' => ∃ x, e = .returned x ∧ Turns ρ L st w (oneOrTuple vs) st' x w') a'.defers .returning w' := by
      rw [g4.dfr, List.append_nil]
      refine kd L1 w' g4.sim (fun L2 w2 a2 f2 s2 => ?_)
      have e0 := results_sound ok hvs L2 a' w2 (g4.env L2 a2) (s2 L2 (Agree.refl _ _))
      refine ⟨_, e0, _, rfl, L2, g1.trans (a2.mono g2), Nat.le_trans g2 d2, g3.trans f2, d1, fun L' hL => ?_⟩
      refine ⟨?_, s2 L' hL⟩
      have e1 := e0
      rw [results_sound ok hvs L' a' w2 (g4.env L' (a2.trans (hL.mono d2))) (s2 L' hL)] at e1
      simp at e1
      exact e1.symm
    cases hx : r.x with
    | exit i => exact absurd hx (hne i)
    | normal => exact hpost
    | ret => exact hpost

/-! ## Rounds -/
theorem setL_rel {L : Nat → Loc} : ∀ (ps : List Tmp) (args : List AV) (e : Tr AV) (T : Array Value), ps.length = args.length → (∀ p ∈ ps, p < T.size) → (∀ t v, e.get t = some v → T.getD t undef = conc L ρ v) →
    ∀ t v, (setL ps args e).get t = some v → (((ps.zip (args.map (conc L ρ))).foldl (fun T p => T.setIfInBounds p.1 p.2) T).getD t undef = conc L ρ v)
  | [], args, e, T, _, _, h => h
  | p :: ps, [], e, T, hl, _, h => by simp at hl
  | p :: ps, v0 :: args, e, T, hl, hp, h => by
    have ih := setL_rel ps args (e.set p v0) (T.setIfInBounds p (conc L ρ v0)) (by simpa using hl) (fun q hq => by rw [Array.size_setIfInBounds]; exact hp q (by simp [hq])) (fun t v hv => by
      rw [getD_set]
      rw [Tr.get_set] at hv
      by_cases ht : t = p
      · rw [if_pos ht] at hv
        rw [if_pos ⟨ht.symm, hp p (by simp)⟩]
        cases hv; rfl
      · rw [if_neg ht] at hv
        rw [if_neg (fun hh => ht hh.1.symm)]
        exact h t v hv)
    exact ih
theorem setL_size (l : List (Tmp × Value)) : ∀ (T : Array Value), (l.foldl (fun T p => T.setIfInBounds p.1 p.2) T).size = T.size := by
  induction l with
  | nil => intro T; rfl
  | cons p l ih => intro T; rw [List.foldl_cons, ih, Array.size_setIfInBounds]
theorem allLt_iff {n : Nat} : ∀ l, allLt n l = true → ∀ x ∈ l, x < n
  | [], _ => fun x hx => by cases hx
  | y :: l, h => by
    have h : (bif Nat.ble (Nat.succ y) n then allLt n l else false) = true := h
    cases hm : Nat.ble (Nat.succ y) n with
    | false => rw [hm] at h; cases h
    | true =>
      rw [hm, cond_true] at h
      intro x hx
      rcases List.mem_cons.1 hx with rfl | hx
      · exact Nat.le_of_ble_eq_true hm
      · exact allLt_iff l h x hx
theorem run_getLoop {w : World} {l : Nat} {r : Loop} (h : w.heap[l]? = some (.loop r)) : (Instr.getLoop l).run P w = .ok r w := by
  simp only [Instr.getLoop, Sem.run_bind, run_getObj h rfl, Result.andThen_ok]
  rfl
/-- A loop's record is put anew. -/
theorem loop_put {L : Nat → Loc} {st : St} {w : World} {id : Nat} {s : LoopState} {pd : Option Code} {fn : FuncId} {e : Tr AV} {nt : Nat} {ps : List Tmp} {as_ bo : Code} {d : Nat} (hs : ∀ L', Agree st.nx L L' → Sim L' ρ st.H w) (hx : FxOk ρ st.fx)
    (ho : st.H.get id = some (.loop s pd fn e nt ps as_ bo d)) (hid : id < st.nx) (s' : LoopState) (pd' : Option Code) (v : AV) {x : Value} (hv : ∀ L', Agree st.nx L L' → x = conc L' ρ v) {r : Loop} (hr : w.heap[(L id).b]? = some (.loop r)) :
    Turns ρ L st w v (st.put id (.loop s' pd' fn e nt ps as_ bo d)) x (w.putObj (L id).b (.loop { r with state := s', pending := pd' })) := by
  refine Turns.put (c := .loop { r with state := s', pending := pd' }) hs hx ho (fun L' ha => by rw [ha id hid]) (WPut.set hr) hv (fun L' ha => ?_)
  obtain ⟨r', hr', q1, q2, q3, q4, q5, q6, q7⟩ := (hs L' ha).at_ id _ ho
  rw [ha id hid, hr] at hr'
  simp only [Option.some.injEq, Obj.loop.injEq] at hr'
  subst hr'
  rw [ha id hid]
  exact ⟨{ r with state := s', pending := pd' }, (WPut.set (o' := .loop { r with state := s', pending := pd' }) hr).at_, rfl, rfl, q3, q4, q5, q6, q7⟩
theorem yieldF_sound {k : Nat} {ih : CodeF} (hih : ExecSound P ρ k ih) : YieldSound P ρ (yieldF ih) := by
  intro id args st v st' hx h
  unfold yieldF at h
  replace h := chk_at h; obtain ⟨hid, h⟩ := h
  have hid := Nat.le_of_ble_eq_true hid
  replace h := T.at_opt_some.1 h; obtain ⟨o, ho, h⟩ := h
  split at h
  case h_2 => simp [T.at_bad] at h
  rename_i fn0 e0 nt ps assign body d0
  replace h := chk_at h; obtain ⟨hlen, h⟩ := h
  replace h := chk_at h; obtain ⟨hps, h⟩ := h
  replace h := T.at_bind_some.1 h; obtain ⟨r1, h1, h⟩ := h
  split at h
  case h_2 => simp [T.at_bad] at h
  rename_i hx1 hm1
  replace h := T.at_opt_some.1 h; obtain ⟨o1, ho1, h⟩ := h
  split at h
  case h_2 => simp [T.at_bad] at h
  rename_i fn1 e1 nt1 ps1 as1 bo1 d1
  replace h := T.at_bind_some.1 h; obtain ⟨r2, h2, h⟩ := h
  replace h := T.at_opt_some.1 h; obtain ⟨o2, ho2, h⟩ := h
  split at h
  case h_2 => simp [T.at_bad] at h
  rename_i s2 p2 fn2 e2 nt2 ps2 as2 bo2 d2 hm2
  have hlen : args.length = ps.length := by have := Nat.eq_of_beq_eq_true hlen; rwa [llen_eq, llen_eq] at this
  have hps := allLt_iff _ hps
  obtain ⟨⟨g1, _⟩, k1⟩ := hih true assign nt _ st r1 hx h1
  obtain ⟨⟨g2, _⟩, k2⟩ := hih true body nt r1.e (r1.st.put id (.loop .busy none fn1 e1 nt1 ps1 as1 bo1 d1)) r2 g1.1 h2
  have hfin : ∃ pd : Option Code, v = .bool pd.isNone ∧ st' = r2.st.put id (.loop (if pd.isNone then .ready else .done) pd fn2 e2 nt2 ps2 as2 bo2 d2) ∧
      ∀ (l : Nat) (R : Ending → World → Prop) (a : Act) (w : World), (∃ v w', (Instr.endRound l pd).run P w = .ok v w' ∧ R (.returned v) w') → roundPost P l R (exOf r2.x) a w := by
    split at h
    · rename_i hx2
      replace h := ret_at h; obtain ⟨rfl, rfl⟩ := h
      exact ⟨none, rfl, rfl, fun l R a w hh => by rw [hx2]; exact hh⟩
    · rename_i j hx2
      replace h := ret_at h; obtain ⟨rfl, rfl⟩ := h
      exact ⟨some (.exit j), rfl, rfl, fun l R a w hh => by rw [hx2]; exact hh⟩
    · rename_i hx2
      replace h := ret_at h; obtain ⟨rfl, rfl⟩ := h
      exact ⟨some .ret, rfl, rfl, fun l R a w hh => by rw [hx2]; exact hh⟩
  obtain ⟨pd, rfl, rfl, hpost⟩ := hfin
  have hn1 : id < r1.st.nx := Nat.lt_of_lt_of_le hid g1.2
  have hn2 : id < r2.st.nx := Nat.lt_of_lt_of_le hn1 g2.2
  refine ⟨⟨g2.1, Nat.le_trans g1.2 g2.2⟩, fun L w n vals hs hv => ?_⟩
  obtain ⟨rec, hrec, s1, s2', s3, s4, s5, s6, s7⟩ := (hs L (Agree.refl _ _)).at_ id _ ho
  have hvals : vals.size = rec.params.size := by rw [hv L (Agree.refl _ _)]; simp [hlen, ← s5]
  have hrun : (Instr.yield (L id).b vals).run P w = .ok (.round (L id).b rec.fn ((ps.zip vals.toList).foldl (fun T p => T.setIfInBounds p.1 p.2) rec.tmps) rec.assign rec.body) w := by
    have hne : (vals.size != rec.params.size) = false := by simp [hvals]
    have hz : (rec.params.zip vals).foldl (fun T p => T.setIfInBounds p.1 p.2) rec.tmps = (ps.zip vals.toList).foldl (fun T p => T.setIfInBounds p.1 p.2) rec.tmps := by
      rw [← Array.foldl_toList, Array.toList_zip, s5]
    simp only [Instr.yield, Sem.run_bind, run_getLoop hrec, Result.andThen_ok, hvals, ne_eq, not_true_eq_false, if_false]
    rw [← hz]
    rfl
  refine ⟨rec.fn, _, rec.assign, rec.body, hrun, roundIn_of_wpIn trivial ?_⟩
  rw [s6, s7]
  have hk1 : KS ρ L (setL ps args e0) nt [] st { tmps := (ps.zip vals.toList).foldl (fun T p => T.setIfInBounds p.1 p.2) rec.tmps, defers := [] } w := by
    refine ⟨fun L' ha => ?_, hs, hx, by rw [setL_size]; exact s3, rfl⟩
    obtain ⟨rec', hrec', _, _, _, q4, _⟩ := (hs L' ha).at_ id _ ho
    rw [ha id hid, hrec] at hrec'
    simp only [Option.some.injEq, Obj.loop.injEq] at hrec'
    subst hrec'
    intro t u hu
    have := setL_rel ps args e0 rec.tmps hlen.symm (fun p hp => by rw [s3]; exact hps p hp) q4 t u hu
    rw [hv L' ha]
    exact this
  refine (k1 (some (L id).b) (fun h => by cases h) L _ w n [] _ hk1 (fun a1 w1 hg1 => ?_)).wp
  rw [hx1]
  rw [hm1] at hg1
  obtain ⟨L1, a1', n1', f1', K1⟩ := hg1
  have K1 : KS ρ L1 r1.e nt [] r1.st a1 w1 := K1
  obtain ⟨rec1, hrec1, t1, t2, t3, t4, t5, t6, t7⟩ := (K1.sim L1 (Agree.refl _ _)).at_ id _ ho1
  have hbl1 : (L1 id).b = (L id).b := by rw [a1' id hid]
  rw [hbl1] at hrec1
  refine ⟨w1.putObj (L id).b (.loop { rec1 with state := .busy }), ?_, ?_⟩
  · simp only [Instr.beginRound, Sem.run_bind, run_getLoop hrec1, Result.andThen_ok, run_setObj hrec1 rfl, t1]
    rfl
  have T1 := loop_put (x := undef) K1.sim K1.fx ho1 hn1 .busy none undefA (fun L' _ => (conc_undefA L').symm ▸ rfl) (r := rec1) (by rw [hbl1]; exact hrec1)
  rw [hbl1, show ({ rec1 with state := LoopState.busy, pending := none } : Loop) = { rec1 with state := .busy } by rw [← t2]] at T1
  have G1 := Goes.of_turns (d := none) K1 (fun t h => by cases h) T1
  obtain ⟨L2, a2', n2', f2', K2⟩ := G1
  have K2 : KS ρ L2 r1.e nt [] (r1.st.put id (.loop .busy none fn1 e1 nt1 ps1 as1 bo1 d1)) a1 (w1.putObj (L id).b (.loop { rec1 with state := .busy })) := K2
  refine (k2 (some (L id).b) (fun h => by cases h) L2 _ _ n [] _ K2 (fun a2 w3 hg2 => ?_)).wp
  rw [hm2] at hg2
  obtain ⟨L3, a3', n3', f3', K3⟩ := hg2
  have hbl3 : (L3 id).b = (L id).b := by rw [a3' id hn1, a2' id hn1, a1' id hid]
  obtain ⟨rec3, hrec3, _⟩ := (K3.sim L3 (Agree.refl _ _)).at_ id _ ho2
  rw [hbl3] at hrec3
  refine hpost _ _ _ _ ⟨.bool pd.isNone, w3.putObj (L id).b (.loop { rec3 with state := (if pd.isNone then .ready else .done), pending := pd }), ?_, _, rfl, ?_⟩
  · simp only [Instr.endRound, Sem.run_bind, run_getLoop hrec3, Result.andThen_ok, run_setObj hrec3 rfl]
    rfl
  · have T3 := loop_put (x := .bool pd.isNone) K3.sim K3.fx ho2 hn2 (if pd.isNone then .ready else .done) pd (.bool pd.isNone) (fun L' _ => rfl) (r := rec3) (by rw [hbl3]; exact hrec3)
    rw [hbl3] at T3
    obtain ⟨L4, a4', n4', f4', x4, r4⟩ := T3
    have n2'' : r1.st.nx ≤ r2.st.nx := n3'
    exact ⟨L4, a1'.trans ((a2'.trans (a3'.trans (a4'.mono n3'))).mono n1'), Nat.le_trans n1' (Nat.le_trans n2'' n4'), ((f1'.trans f2').trans f3').trans f4', x4, r4⟩

theorem callF_sound (ok : cx.Ok P) (hh : HooksOk P ρ cx) {k : Nat} {ih : CodeF} (hih : ExecSound P ρ k ih) : CallSound P ρ (callF cx ih) := by
  refine ⟨fun f args st v st' hx h => ?_, fun id args st v st' hx h => yieldF_sound hih id args st v st' hx h⟩
  have h : (Option.rec (motive := fun _ => T (AV × St)) (callF0 cx ih f args st) (fun h => h args st) (cx.hk.get f) : T (AV × St)).at_ ρ = some (v, st') := h
  cases hf : cx.hk.get f with
  | none => rw [hf] at h; exact callF0_sound ok hih f args st v st' hx h
  | some k => rw [hf] at h; exact hh f k hf args st v st' hx h

/-! ## Loops over functions -/
theorem rangeF_sound (ok : cx.Ok P) (hh : HooksOk P ρ cx) (hgl : cx.gl ≤ ρ.gl) {k : Nat} {ih : CodeF} (hih : ExecSound P ρ k ih) {g : Operand} {ps : Array Tmp} {assign body : Code} {nt : Nat} {e : Tr AV} {st : St} {r : Res} (hx : FxOk ρ st.fx)
    (h : (rangeF cx ih g ps.toList assign body nt e st).at_ ρ = some r) : (Grows ρ st r.st ∧ ∀ i ∈ r.mks, MkOk r.st.nx i) ∧
    ∀ (L : Nat → Loc) (a : Act) (w : World) (n : Nat) (ds : List Deferred) (Q : Exit → Act → World → Prop), KS ρ L e nt ds st a w → (∀ a' w', Goes ρ L st w r.e nt r.mks ds r.st a' w' → Q (exOf r.x) a' w') →
      (Code.rangeFunc g ps assign body).wpIn (fw none) n P Q a w := by
  unfold rangeF at h
  replace h := T.at_opt_some.1 h; obtain ⟨v, hv, h⟩ := h
  split at h
  case h_2 => simp [T.at_bad] at h
  rename_i f first captured
  replace h := T.at_bind_some.1 h; obtain ⟨p, hp, h⟩ := h
  replace h := T.at_opt_some.1 h; obtain ⟨o, ho, h⟩ := h
  have hfin : ∃ (s : LoopState) (pd : Option Code) (x : Ex) (fn2 : FuncId) (e2 : Tr AV) (nt2 : Nat) (ps2 : List Tmp) (as2 bo2 : Code) (d2 : Nat), o = .loop s pd fn2 e2 nt2 ps2 as2 bo2 d2 ∧ (s == .busy) = false ∧ r = ⟨x, e, ⟨p.2.H.upd (st.nx + 1) none, p.2.nx, p.2.fx⟩, [.blk st.nx]⟩ ∧
      ∀ (n : Nat) (Q : Exit → Act → World → Prop) (a : Act) (w : World), Q (exOf x) a w → (match pd with | none => Q .normal a w | some c => c.wpIn (fw none) n P Q a w) := by
    split at h
    · replace h := ret1_at h; subst h
      exact ⟨_, _, _, _, _, _, _, _, _, _, rfl, rfl, rfl, fun n Q a w hq => hq⟩
    · replace h := ret1_at h; subst h
      exact ⟨_, _, _, _, _, _, _, _, _, _, rfl, rfl, rfl, fun n Q a w hq => wpIn_ret hq⟩
    · replace h := ret1_at h; subst h
      exact ⟨_, _, _, _, _, _, _, _, _, _, rfl, rfl, rfl, fun n Q a w hq => wpIn_exit hq⟩
    · simp [T.at_bad] at h
  obtain ⟨s, pd, x, fn2, e2, nt2, ps2, as2, bo2, d2, rfl, hsb, rfl, hjump⟩ := hfin
  obtain ⟨⟨fnf, hf, hname, hbody⟩, ⟨gx, gn⟩, hc⟩ := (callF_sound ok hh hih).1 f _ _ p.1 p.2 (show FxOk ρ ((st.new .dfr).new (.loop .ready none 0 e nt ps.toList assign body 0)).fx from hx) hp
  have gn : st.nx + 2 ≤ p.2.nx := gn
  refine ⟨⟨⟨gx, by show st.nx ≤ p.2.nx; omega⟩, fun i hi => by rw [List.mem_singleton.1 hi]; show st.nx < p.2.nx; omega⟩, fun L a w n ds Q hk hQ => ?_⟩
  refine wpIn_rangeFunc (fun fn hF => ?_)
  let w1 : World := { w with heap := w.heap.push (.deferred (some [])) }
  let rc : Loop := { state := .ready, pending := none, fn, tmps := a.tmps, params := ps, assign, body, defers := w.heap.size }
  let w2 : World := { w1 with heap := w1.heap.push (.loop rc) }
  have sz1 : w1.heap.size = w.heap.size + 1 := by simp [w1]
  have T1 : Turns ρ L st w (.ptr st.nx 0) (st.new .dfr) (.pointer (some ⟨w.heap.size, 0, none⟩)) w1 :=
    Turns.new (k := 0) hk.sim hk.fx (WNew.push w _) (fun L' _ hn => by simp [conc, hn]) (fun L' _ hn => by show w1.heap[w.heap.size]? = _; simp [w1])
  obtain ⟨L1, a1, n1, f1, x1, r1⟩ := T1
  have b1 : (L1 st.nx).b = w.heap.size := by
    have := (r1 L1 (Agree.refl _ _)).1
    simp only [conc, Value.pointer.injEq, Option.some.injEq, Addr.mk.injEq] at this
    exact this.1.symm
  have env1 : ∀ L', Agree (st.nx + 1) L1 L' → ERel L' ρ e a := fun L' ha => hk.env L' (a1.trans (ha.mono (Nat.le_succ _)))
  have T2 : Turns ρ L1 (st.new .dfr) w1 (.ptr (st.nx + 1) 0) ((st.new .dfr).new (.loop .ready none 0 e nt ps.toList assign body 0)) (.pointer (some ⟨w1.heap.size, 0, none⟩)) w2 :=
    Turns.new (k := 0) (fun L' ha => (r1 L' ha).2) x1 (WNew.push w1 _) (fun L' _ hn => by
      have hn : L' (st.nx + 1) = ⟨w1.heap.size, 0, 0⟩ := hn
      simp [conc, hn]) (fun L' ha _ => ⟨rc, by show w2.heap[w1.heap.size]? = _; simp [w2], rfl, rfl, hk.size, fun t u hu => env1 L' ha t u hu, rfl, rfl, rfl⟩)
  obtain ⟨L2, a2, n2, f2, x2, r2⟩ := T2
  have a2 : Agree (st.nx + 1) L1 L2 := a2
  have b2 : (L2 (st.nx + 1)).b = w.heap.size + 1 := by
    have := (r2 L2 (Agree.refl _ _)).1
    simp only [conc, Value.pointer.injEq, Option.some.injEq, Addr.mk.injEq] at this
    rw [← this.1, sz1]
  have hev := opnd_rel hgl (hk.sim L (Agree.refl _ _)).pin (hk.env L (Agree.refl _ _)) _ _ hv
  have hev2 : ∀ L', Agree (st.nx + 2) L2 L' → conc L ρ (.func f first captured) = conc L' ρ (.func f first captured) := fun L' ha => by
    rw [← hev]
    exact opnd_rel hgl (hk.sim L' (a1.trans ((a2.trans (ha.mono (Nat.le_succ _))).mono (Nat.le_succ _)))).pin (hk.env L' (a1.trans ((a2.trans (ha.mono (Nat.le_succ _))).mono (Nat.le_succ _)))) _ _ hv
  have hcall := hc L2 w2 (n - 1) ((((first.map (conc L ρ)).toArray ++ #[Value.func (.yield (w.heap.size + 1)) #[] #[]])) ++ (captured.map (conc L ρ)).toArray) (fun L' ha => (r2 L' ha).2) (fun L' ha => by
    have ha : Agree (st.nx + 2) L2 L' := ha
    have e2 := hev2 L' ha
    simp only [conc, concs_eq, Value.func.injEq, true_and] at e2
    rw [e2.1, e2.2, lapp_eq, List.map_append, List.map_cons]
    have : (L' (st.nx + 1)).b = w.heap.size + 1 := by rw [ha _ (by omega), b2]
    simp [conc, this])
  refine ⟨w.heap.size + 1, [{ target := .collected w.heap.size, args := #[] }], w2, { target := .fn (.func f) (captured.map (conc L ρ)).toArray, args := (first.map (conc L ρ)).toArray ++ #[Value.func (.yield (w.heap.size + 1)) #[] #[]] }, w2, f, _, w2, ?_, ?_, fun _ _ => trivial, ?_, fun hd => by simp [fw, Fence.wide] at hd, callsIn_fw (CallsIn.mono hcall (fun e' w3 he => ?_))⟩
  · show (Instr.enterLoop fn a.tmps ps assign body none).run P w = _
    simp only [Instr.enterLoop, Sem.run_bind, run_newObj, Result.andThen_ok, Sem.run_pure]
    rw [show ({ w with heap := w.heap.push (.deferred (some [])) } : World).heap.size = w.heap.size + 1 by simp]
  · have hm : Array.map a.eval #[Operand.const (Value.func (Fn.yield (w.heap.size + 1)) #[] #[])] = #[Value.func (Fn.yield (w.heap.size + 1)) #[] #[]] := by
      rw [List.map_toArray]; rfl
    simp only [resolve, hev, conc, concs_eq, Deferred.ofValue, Sem.run_pure, hm]
  · simp only [invoke]
    exact run_callFunc hf hname hbody _ w2
  · obtain ⟨y, rfl, L3, a3, n3, f3, x3, r3⟩ := he
    have a3 : Agree (st.nx + 2) L2 L3 := a3
    have b3 : (L3 (st.nx + 1)).b = w.heap.size + 1 := by rw [a3 _ (by omega), b2]
    have b3' : (L3 st.nx).b = w.heap.size := by rw [a3 _ (by omega), a2 _ (by omega), b1]
    obtain ⟨rec, hrec, s1, s2, _⟩ := (r3 L3 (Agree.refl _ _)).2.at_ (st.nx + 1) _ ho
    rw [b3] at hrec
    refine ⟨rec.pending, w3.putObj (w.heap.size + 1) (.loop { rec with state := .exhausted }), ?_, ?_⟩
    · simp only [Instr.endLoop, Sem.run_bind, run_getLoop hrec, Result.andThen_ok, s1, hsb, Bool.false_eq_true, if_false, run_setObj hrec rfl]
      rfl
    · subst s2
      refine hjump n Q _ _ (hQ _ _ ?_)
      have hput : WPut w3 (w.heap.size + 1) (.loop { rec with state := .exhausted }) (w3.putObj (w.heap.size + 1) (.loop { rec with state := .exhausted })) := WPut.set hrec
      have gets : ∀ j oj, (p.2.H.upd (st.nx + 1) none).get j = some oj → j ≠ st.nx + 1 ∧ p.2.H.get j = some oj := by
        intro j oj hj
        rw [Tr.get_upd] at hj
        split at hj
        · cases hj
        · rename_i hne; exact ⟨hne, hj⟩
      have f4 : Fr L3 p.2.H w3 L3 (p.2.H.upd (st.nx + 1) none) (w3.putObj (w.heap.size + 1) (.loop { rec with state := .exhausted })) :=
        ⟨by rw [hput.size]; exact Nat.le_refl _, hput.os, hput.tape, hput.output, fun b _ hnb => hput.other b (Ne.symm (by rw [← b3]; exact hnb _ _ ho)), fun b _ hnb j oj hj => hnb j oj (gets j oj hj).2⟩
      have n3 : st.nx + 2 ≤ p.2.nx := n3
      refine ⟨L3, a1.trans ((a2.trans (a3.mono (Nat.le_succ _))).mono (Nat.le_succ _)), by show st.nx ≤ p.2.nx; omega, ((f1.trans f2).trans f3).trans f4, ⟨fun L' ha => ?_, fun L' ha => ?_, x3, hk.size, ?_⟩⟩
      · have ha : Agree p.2.nx L3 L' := ha
        exact env1 L' (a2.trans ((a3.trans (ha.mono n3)).mono (Nat.le_succ _)))
      · have ha : Agree p.2.nx L3 L' := ha
        have hsim := (r3 L' ha).2
        refine ⟨fun j oj hj => ?_, fun j j' oj oj' hj hj' hb => hsim.inj j j' oj oj' (gets j oj hj).2 (gets j' oj' hj').2 hb, hsim.pin⟩
        obtain ⟨hne, hj⟩ := gets j oj hj
        refine (hsim.at_ j oj hj).keep (hput.other _ fun e => hne (hsim.inj j (st.nx + 1) oj _ hj ho ?_))
        rw [e, ha _ (by omega), b3]
      · show _ ++ a.defers = marks ρ L3 [.blk st.nx] ++ ds
        rw [hk.dfr]
        simp [marks, markOf, b3']

/-! ## Code -/
theorem deferAt_some : ∀ {l : List Oper} {q : List Oper × FuncId × List Operand}, deferAt l = some q → ∃ (o : Oper) (c : Call), l = q.1 ++ [o] ∧ o.op = .defer c ∧ o.guard = none ∧ o.dst = none ∧ c.callee = .value (.func q.2.1) ∧ c.args.toList = q.2.2
  | [], q, h => by cases h
  | [o], q, h => by
    have h : (match o.op, o.guard, o.dst with
        | .defer c, none, none => (match c.callee with
          | .value (.func f) => some ([], f, c.args.toList)
          | _ => none)
        | _, _, _ => none : Option (List Oper × FuncId × List Operand)) = some q := h
    split at h
    · rename_i c h1 h2 h3
      split at h
      · rename_i f hc
        cases h
        exact ⟨o, c, rfl, h1, h2, h3, hc, rfl⟩
      · cases h
    · cases h
  | o :: o' :: t, q, h => by
    have h : ((deferAt (o' :: t)).map fun p => (o :: p.1, p.2)) = some q := h
    simp only [Option.map_eq_some_iff] at h
    obtain ⟨p, hp, rfl⟩ := h
    obtain ⟨o1, c, e, r⟩ := deferAt_some hp
    exact ⟨o1, c, by rw [e]; rfl, r⟩
theorem wide_defer {o : Oper} {c : Call} {f : FuncId} {n : Nat} {a : Act} {w : World} {vals : Array Value} {next : Act → World → Prop} {Q : Exit → Act → World → Prop} (ho : o.op = .defer c) (hc : c.callee = .value (.func f)) (hv : c.args.map a.eval = vals)
    (hn : next ({ a with defers := { target := .fn (.func f) #[], args := vals } :: a.defers }.put o.dst undef) w) : o.wpIn (fw none) n P a w next Q := by
  refine ⟨fun g _ => trivial, ?_⟩
  have hr : (execOp a.eval o).run P w = .ok (.defer { target := .fn (.func f) #[], args := vals }) w := by
    unfold execOp
    rw [ho]
    simp only [resolve, hc, hv, Act.eval, Deferred.ofValue, Sem.run_bind, Sem.run_pure, Result.andThen_ok]
    simp
  show o.uponIn (fw none) n P a next Q ((o.semAt none a.eval).run P w)
  have hs : o.semAt none a.eval = execOp a.eval o := rfl
  rw [hs, hr]
  exact hn
theorem codeE_sound (ok : cx.Ok P) (hh : HooksOk P ρ cx) (hgl : cx.gl ≤ ρ.gl) {k : Nat} {ih : CodeF} (hih : ExecSound P ρ k ih) : ExecSound P ρ (k + 1) (codeE cx ih) := by
  have hcf := callF_sound ok hh hih
  intro rd c nt e st r hx h
  have stay : ∀ {L : Nat → Loc} {a : Act} {w : World} {ds : List Deferred}, KS ρ L e nt ds st a w → Goes ρ L st w e nt [] ds st a w := fun hk => ⟨_, Agree.refl _ _, Nat.le_refl _, Fr.refl _ _ _, hk⟩
  have nomk : ∀ (n : Nat) (i : Mk), i ∈ ([] : List Mk) → MkOk n i := fun n i h => by cases h
  unfold codeE at h
  split at h
  case h_1 =>
    replace h := ret1_at h; subst h
    exact ⟨⟨⟨hx, Nat.le_refl _⟩, nomk _⟩, fun fq hfq L a w n ds Q hk hQ => wpIn_skip (hQ a w (stay hk))⟩
  case h_2 id ops draw =>
    cases draw with
    | false =>
      rw [cond_false] at h
      split at h
      · replace h := T.at_bind_some.1 h
        obtain ⟨⟨e1, st1⟩, h1, h⟩ := h
        replace h := ret1_at h; subst h
        refine ⟨⟨regS_grows ok hcf ops.toList hx h1, nomk _⟩, fun fq hfq L a w n ds Q hk hQ => wpIn_region ?_⟩
        rw [List.range_eq_range']
        have := regS_sound (fq := fq) (n := n) (ops := ops) (Q := Q) ok hgl hcf ops.toList 0 (fun k o hk => by rw [Nat.zero_add]; simpa using hk) e st e1 st1 h1 L a w hk (fun a' w' hg => hQ a' w' hg)
        simpa using this
      · rename_i q hq
        cases rd with
        | true => rw [cond_true] at h; simp [T.at_bad] at h
        | false =>
          rw [cond_false] at h
          replace h := T.at_bind_some.1 h
          obtain ⟨⟨e1, st1⟩, h1, h⟩ := h
          replace h := T.at_opt_some.1 h; obtain ⟨args, hargs, h⟩ := h
          replace h := chk_at h; obtain ⟨hids, h⟩ := h
          replace h := ret1_at h; subst h
          have hg1 := regS_grows ok hcf q.1 hx h1
          refine ⟨⟨hg1, fun m hm => by rw [List.mem_singleton.1 hm]; exact hids⟩, fun fq hfq L a w n ds Q hk hQ => wpIn_region ?_⟩
          obtain rfl := hfq rfl
          obtain ⟨o, c, e0, ho, hg0, hd0, hc0, hc1⟩ := deferAt_some hq
          rw [List.range_eq_range', show ops.size = ops.toList.length by simp, e0, List.length_append, List.length_singleton, List.range'_concat]
          refine regS_then (fq := none) (n := n) (ops := ops) (Q := Q) ok hgl hcf q.1 0 (fun k o' hk' => ?_) e st e1 st1 h1 L a w hk _ (fun a1 w1 hgo => ?_)
          · rw [Nat.zero_add]
            have : ops.toList[k]? = some o' := by rw [e0, List.getElem?_append_left (List.getElem?_eq_some_iff.1 hk').1]; exact hk'
            simpa using this
          · have hop : ops[0 + 1 * q.1.length]? = some o := by
              have : ops.toList[q.1.length]? = some o := by rw [e0]; simp
              simpa using this
            obtain ⟨L1, p1, p2, p3, p4⟩ := hgo
            have hw : Region.wanted o (yielded ops a1.tmps) = true := by unfold Region.wanted; rw [hg0]
            simp only [wpOpsIn, hop, hw, if_true]
            have hmap : c.args.map a1.eval = (args.map (conc L1 ρ)).toArray := by
              apply Array.toList_inj.1
              rw [Array.toList_map, hc1, loptM hargs (fun x v _ hv => opnd_rel hgl (p4.sim L1 (Agree.refl _ _)).pin (p4.env L1 (Agree.refl _ _)) x v hv)]
            refine wide_defer ho hc0 hmap ?_
            rw [hd0]
            refine hQ _ _ ⟨L1, p1, p2, p3, ⟨fun L' ha t u hu => p4.env L' ha t u hu, p4.sim, p4.fx, p4.size, ?_⟩⟩
            show _ :: a1.defers = _
            rw [p4.dfr]
            rfl
    | true =>
      rw [cond_true] at h
      replace h := T.at_bind_some.1 h
      obtain ⟨⟨e1, st1⟩, h1, h⟩ := h
      replace h := ret1_at h; subst h
      replace h1 := T.at_opt_some.1 h1; obtain ⟨l, hl, h1⟩ := h1
      exact ⟨⟨regD_grows ok hcf hx h1, nomk _⟩, fun fq hfq L a w n ds Q hk hQ => regD_sound ok hgl hcf hl h1 hk (fun a' w' hg => hQ a' w' hg)⟩
  case h_3 x y =>
    replace h := T.at_bind_some.1 h
    obtain ⟨r1, h1, h⟩ := h
    obtain ⟨g1, k1⟩ := hih rd x nt e st r1 hx h1
    cases hx1 : r1.x with
    | normal =>
      rw [hx1] at h
      replace h := T.at_bind_some.1 h
      obtain ⟨q, h2, h⟩ := h
      replace h := ret1_at h; subst h
      obtain ⟨⟨g2, m2⟩, k2⟩ := hih rd y nt r1.e r1.st q g1.1.1 h2
      refine ⟨⟨⟨g2.1, Nat.le_trans g1.1.2 g2.2⟩, fun i hi => ?_⟩, fun fq hfq L a w n ds Q hk hQ => wpIn_seq ((k1 fq hfq L a w n ds _ hk (fun a1 w1 hg => ?_)).wp)⟩
      · rw [lapp_eq] at hi
        rcases List.mem_append.1 hi with hi | hi
        · exact m2 i hi
        · exact (g1.2 i hi).mono g2.2
      rw [hx1]
      obtain ⟨L1, p1, p2, p3, p4⟩ := hg
      exact (k2 fq hfq L1 a1 w1 n _ Q p4 (fun a2 w2 hg2 => hQ a2 w2 (by rw [lapp_eq]; exact Goes.comp p1 p2 p3 g1.2 hg2))).wp
    | exit id =>
      rw [hx1] at h
      replace h := ret1_at h; subst h
      refine ⟨g1, fun fq hfq L a w n ds Q hk hQ => wpIn_seq ((k1 fq hfq L a w n ds _ hk (fun a1 w1 hg => ?_)).wp)⟩
      have := hQ a1 w1 hg
      rw [hx1] at this ⊢
      exact this
    | ret =>
      rw [hx1] at h
      replace h := ret1_at h; subst h
      refine ⟨g1, fun fq hfq L a w n ds Q hk hQ => wpIn_seq ((k1 fq hfq L a w n ds _ hk (fun a1 w1 hg => ?_)).wp)⟩
      have := hQ a1 w1 hg
      rw [hx1] at this ⊢
      exact this
  case h_4 c x y =>
    replace h := T.at_opt_some.1 h; obtain ⟨v, hv, h⟩ := h
    split at h
    case h_3 => simp [T.at_bad] at h
    · obtain ⟨g1, k1⟩ := hih rd x nt e st r hx h
      exact ⟨g1, fun fq hfq L a w n ds Q hk hQ => wpIn_cond_true (opnd_rel hgl (hk.sim L (Agree.refl _ _)).pin (hk.env L (Agree.refl _ _)) _ _ hv) (k1 fq hfq L a w n ds Q hk hQ).wp⟩
    · obtain ⟨g1, k1⟩ := hih rd y nt e st r hx h
      exact ⟨g1, fun fq hfq L a w n ds Q hk hQ => wpIn_cond_false (opnd_rel hgl (hk.sim L (Agree.refl _ _)).pin (hk.env L (Agree.refl _ _)) _ _ hv) (k1 fq hfq L a w n ds Q hk hQ).wp⟩
  case h_5 id c =>
    replace h := T.at_bind_some.1 h
    obtain ⟨r1, h1, h⟩ := h
    obtain ⟨g1, k1⟩ := hih rd c nt e st r1 hx h1
    cases hx1 : r1.x with
    | exit j =>
      rw [hx1] at h
      simp only at h
      cases hj : Nat.beq j id with
      | true =>
        rw [hj, cond_true] at h
        replace h := ret1_at h; subst h
        refine ⟨g1, fun fq hfq L a w n ds Q hk hQ => wpIn_block ((k1 fq hfq L a w n ds _ hk (fun a1 w1 hg => ?_)).wp)⟩
        rw [hx1]
        show (if j = id then Q .normal a1 w1 else Q (.exit j) a1 w1)
        rw [if_pos (Nat.eq_of_beq_eq_true hj)]
        exact hQ a1 w1 hg
      | false =>
        rw [hj, cond_false] at h
        replace h := ret1_at h; subst h
        refine ⟨g1, fun fq hfq L a w n ds Q hk hQ => wpIn_block ((k1 fq hfq L a w n ds _ hk (fun a1 w1 hg => ?_)).wp)⟩
        have := hQ a1 w1 hg
        rw [hx1] at this ⊢
        show (if j = id then Q .normal a1 w1 else Q (.exit j) a1 w1)
        rw [if_neg (beq_false' hj)]
        exact this
    | normal =>
      rw [hx1] at h
      replace h := ret1_at h; subst h
      refine ⟨g1, fun fq hfq L a w n ds Q hk hQ => wpIn_block ((k1 fq hfq L a w n ds _ hk (fun a1 w1 hg => ?_)).wp)⟩
      have := hQ a1 w1 hg
      rw [hx1] at this ⊢
      exact this
    | ret =>
      rw [hx1] at h
      replace h := ret1_at h; subst h
      refine ⟨g1, fun fq hfq L a w n ds Q hk hQ => wpIn_block ((k1 fq hfq L a w n ds _ hk (fun a1 w1 hg => ?_)).wp)⟩
      have := hQ a1 w1 hg
      rw [hx1] at this ⊢
      exact this
  case h_6 c =>
    replace h := T.at_bind_some.1 h
    obtain ⟨r1, h1, h⟩ := h
    obtain ⟨g1, k1⟩ := hih rd c nt e st r1 hx h1
    cases hx1 : r1.x with
    | normal =>
      rw [hx1] at h
      replace h := T.at_bind_some.1 h
      obtain ⟨q, h2, h⟩ := h
      replace h := ret1_at h; subst h
      obtain ⟨⟨g2, m2⟩, k2⟩ := hih rd (.loop c) nt r1.e r1.st q g1.1.1 h2
      refine ⟨⟨⟨g2.1, Nat.le_trans g1.1.2 g2.2⟩, fun i hi => ?_⟩, fun fq hfq L a w n ds Q hk hQ => ?_⟩
      · rw [lapp_eq] at hi
        rcases List.mem_append.1 hi with hi | hi
        · exact m2 i hi
        · exact (g1.2 i hi).mono g2.2
      show Code.roundsIn (fw fq) n P c Q (k + 1) a w
      rw [roundsIn_succ]
      refine (k1 fq hfq L a w n ds _ hk (fun a1 w1 hg => ?_)).wp
      rw [hx1]
      obtain ⟨L1, p1, p2, p3, p4⟩ := hg
      exact k2 fq hfq L1 a1 w1 n _ Q p4 (fun a2 w2 hg2 => hQ a2 w2 (by rw [lapp_eq]; exact Goes.comp p1 p2 p3 g1.2 hg2))
    | exit j =>
      rw [hx1] at h
      replace h := ret1_at h; subst h
      refine ⟨g1, fun fq hfq L a w n ds Q hk hQ => ?_⟩
      show Code.roundsIn (fw fq) n P c Q (k + 1) a w
      rw [roundsIn_succ]
      refine (k1 fq hfq L a w n ds _ hk (fun a1 w1 hg => ?_)).wp
      have := hQ a1 w1 hg
      rw [hx1] at this ⊢
      exact this
    | ret =>
      rw [hx1] at h
      replace h := ret1_at h; subst h
      refine ⟨g1, fun fq hfq L a w n ds Q hk hQ => ?_⟩
      show Code.roundsIn (fw fq) n P c Q (k + 1) a w
      rw [roundsIn_succ]
      refine (k1 fq hfq L a w n ds _ hk (fun a1 w1 hg => ?_)).wp
      have := hQ a1 w1 hg
      rw [hx1] at this ⊢
      exact this
  case h_7 id =>
    replace h := ret1_at h; subst h
    exact ⟨⟨⟨hx, Nat.le_refl _⟩, nomk _⟩, fun fq hfq L a w n ds Q hk hQ => wpIn_exit (hQ a w (stay hk))⟩
  case h_8 =>
    replace h := ret1_at h; subst h
    exact ⟨⟨⟨hx, Nat.le_refl _⟩, nomk _⟩, fun fq hfq L a w n ds Q hk hQ => wpIn_label (hQ a w (stay hk))⟩
  case h_9 =>
    replace h := ret1_at h; subst h
    exact ⟨⟨⟨hx, Nat.le_refl _⟩, nomk _⟩, fun fq hfq L a w n ds Q hk hQ => wpIn_ret (hQ a w (stay hk))⟩
  case h_10 g ps assign body =>
    cases rd with
    | true => rw [cond_true] at h; simp [T.at_bad] at h
    | false =>
      rw [cond_false] at h
      obtain ⟨hg, hk⟩ := rangeF_sound ok hh hgl hih hx h
      exact ⟨hg, fun fq hfq L a w n ds Q hk' hQ => by rw [hfq rfl]; exact hk L a w n ds Q hk' hQ⟩
  all_goals simp [T.at_bad] at h
/-- THE EXECUTOR. -/
theorem execN_sound (ok : cx.Ok P) (hh : HooksOk P ρ cx) (hgl : cx.gl ≤ ρ.gl) : ∀ k, ExecSound P ρ k (execN cx k)
  | 0 => by
    intro rd c nt e st r hx h
    have h : (T.bad 340 : T Res).at_ ρ = some r := h
    simp [T.at_bad] at h
  | k + 1 => codeE_sound ok hh hgl (execN_sound ok hh hgl k)
theorem callN_sound (ok : cx.Ok P) (hh : HooksOk P ρ cx) (hgl : cx.gl ≤ ρ.gl) (k : Nat) : CallFSound P ρ (callN cx k) := (callF_sound ok hh (execN_sound ok hh hgl k)).1
theorem callN_all (ok : cx.Ok P) (hh : HooksOk P ρ cx) (hgl : cx.gl ≤ ρ.gl) (k : Nat) : CallSound P ρ (callF cx (execN cx k)) := callF_sound ok hh (execN_sound ok hh hgl k)
end Ab
