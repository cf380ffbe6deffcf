/- E, part 20: calls; one operation; a region in the text's order. -/
import Derived.Test.YtckfbdnkgjpmlaaGreatDoorE19
import Derived.OrdersIn
import Derived.LoopNIn
namespace Ab
open Go

variable {P : Program} {cx : Ctx} {ρ : Env}

/-- What a call of one function comes to, as a summary says. -/
def HookSound (P : Program) (ρ : Env) (f : FuncId) (h : List AV → St → T (AV × St)) : Prop :=
  ∀ (args : List AV) (st : St) (v : AV) (st' : St), FxOk ρ st.fx → (h args st).at_ ρ = some (v, st') →
    (∃ fn, P.funcs[f]? = some fn ∧ fn.name ≠ "runtime.NumGoroutine" ∧ fn.body.isNone = false) ∧ (FxOk ρ st'.fx ∧ st.nx ≤ st'.nx) ∧
    ∀ (L : Nat → Loc) (w : World) (n : Nat) (vals : Array Value), (∀ L', Agree st.nx L L' → Sim L' ρ st.H w) → (∀ L', Agree st.nx L L' → vals = (args.map (conc L' ρ)).toArray) →
      CallsIn Fence.wide n P f vals w fun e w' => ∃ x, e = .returned x ∧ Turns ρ L st w v st' x w'
/-- Each summary has its proof. -/
def HooksOk (P : Program) (ρ : Env) (cx : Ctx) : Prop := ∀ f h, cx.hk.get f = some h → HookSound P ρ f h
/-- What a call comes to, as E says. -/
def CallFSound (P : Program) (ρ : Env) (cf : FuncId → List AV → St → T (AV × St)) : Prop :=
  ∀ (f : FuncId) (args : List AV) (st : St) (v : AV) (st' : St), FxOk ρ st.fx → (cf f args st).at_ ρ = some (v, st') →
    (∃ fn, P.funcs[f]? = some fn ∧ fn.name ≠ "runtime.NumGoroutine" ∧ fn.body.isNone = false) ∧ (FxOk ρ st'.fx ∧ st.nx ≤ st'.nx) ∧
    ∀ (L : Nat → Loc) (w : World) (n : Nat) (vals : Array Value), (∀ L', Agree st.nx L L' → Sim L' ρ st.H w) → (∀ L', Agree st.nx L L' → vals = (args.map (conc L' ρ)).toArray) →
      CallsIn Fence.wide n P f vals w fun e w' => ∃ x, e = .returned x ∧ Turns ρ L st w v st' x w'
/-- What a round comes to, as E says. -/
def YieldSound (P : Program) (ρ : Env) (yf : Nat → List AV → St → T (AV × St)) : Prop :=
  ∀ (id : Nat) (args : List AV) (st : St) (v : AV) (st' : St), FxOk ρ st.fx → (yf id args st).at_ ρ = some (v, st') → (FxOk ρ st'.fx ∧ st.nx ≤ st'.nx) ∧
    ∀ (L : Nat → Loc) (w : World) (n : Nat) (vals : Array Value), (∀ L', Agree st.nx L L' → Sim L' ρ st.H w) → (∀ L', Agree st.nx L L' → vals = (args.map (conc L' ρ)).toArray) →
      ∃ fn tmps assign body, (Instr.yield (L id).b vals).run P w = .ok (.round (L id).b fn tmps assign body) w ∧
        RoundIn Fence.wide n P (L id).b fn tmps assign body w fun e w' => ∃ x, e = .returned x ∧ Turns ρ L st w v st' x w'
def CallSound (P : Program) (ρ : Env) (cf : CallF) : Prop := CallFSound P ρ (fun f => cf (.fn f)) ∧ YieldSound P ρ (fun id => cf (.yl id))

theorem loptM {g : Operand → Option AV} {a : Operand → Value} {l : List Operand} {r : List AV} (h : lopt g l = some r) {L : Nat → Loc} (hg : ∀ x v, x ∈ l → g x = some v → a x = conc L ρ v) : l.map a = r.map (conc L ρ) := by
  obtain ⟨h1, h2⟩ := lopt_some h
  apply List.ext_getElem?
  intro i
  rw [List.getElem?_map, List.getElem?_map]
  cases hi : l[i]? with
  | none => rw [List.getElem?_eq_none (by rw [h1]; exact List.getElem?_eq_none_iff.1 hi)]; rfl
  | some x =>
    obtain ⟨y, hy, hr⟩ := h2 i x hi
    rw [hr]
    exact congrArg some (hg x y (List.mem_of_getElem? hi) hy)
theorem run_callFunc {f : FuncId} {fn : Func} (hf : P.funcs[f]? = some fn) (hn : fn.name ≠ "runtime.NumGoroutine") (hb : fn.body.isNone = false) (vals : Array Value) (w : World) :
    (callFunc f vals).run P w = .ok (.enter f vals) w := by
  unfold callFunc
  simp only [Sem.run_bind, run_program, Result.andThen_ok, hf]
  rw [if_neg (by simpa using hn), if_neg (by simp [hb])]
  rfl

/-- The fence that asks nothing: out of a round, or in one. -/
def fw (fq : Option Nat) : Fence := { Fence.wide with round := fq }
theorem fw_none : fw none = Fence.wide := rfl
theorem fw_some (l : Nat) : fw (some l) = Fence.wide.inRound l := rfl
theorem callsIn_fw {fq : Option Nat} {n : Nat} {f : FuncId} {vals : Array Value} {w : World} {R : Ending → World → Prop} (h : CallsIn Fence.wide n P f vals w R) : CallsIn (fw fq) n P f vals w R := by
  cases fq with
  | none => exact h
  | some l => exact h
theorem wide_enter {fq : Option Nat} {n : Nat} {a : Act} {o : Oper} {next : Act → World → Prop} {Q : Exit → Act → World → Prop} {w w' : World} {f : FuncId} {vals : Array Value} (hd : ∀ c, o.op ≠ .defer c) (hr : (execOp a.eval o).run P w = .ok (.enter f vals) w')
    (h : CallsIn Fence.wide (n - 1) P f vals w' fun
      | .returned v, w'' => next (a.put o.dst v) w''
      | .panicked chain, w'' => Q (.panic chain) a w''
      | .outgrown, _ => LetsOut Q) : o.wpIn (fw fq) n P a w next Q := by
  refine ⟨fun _ _ => trivial, ?_⟩
  show o.uponIn (fw fq) n P a next Q ((o.semAt (fw fq).round a.eval).run P w)
  rw [Oper.semAt_eq _ _ _ hd, hr, Oper.uponIn_enter]
  exact ⟨fun hd => by simp [fw, Fence.wide] at hd, callsIn_fw h⟩
theorem wide_value {fq : Option Nat} {n : Nat} {a : Act} {o : Oper} {next : Act → World → Prop} {Q : Exit → Act → World → Prop} {w w' : World} {r : Next} {x : Value} (hd : ∀ c, o.op ≠ .defer c) (hr : (execOp a.eval o).run P w = .ok r w') (hv : r = .value x ∨ (r = .skip ∧ x = undef))
    (h : next (a.put o.dst x) w') : o.wpIn (fw fq) n P a w next Q := by
  refine ⟨fun _ _ => trivial, ?_⟩
  show o.uponIn (fw fq) n P a next Q ((o.semAt (fw fq).round a.eval).run P w)
  rw [Oper.semAt_eq _ _ _ hd, hr]
  rcases hv with rfl | ⟨rfl, rfl⟩
  · rw [Oper.uponIn_value]; exact h
  · rw [Oper.uponIn_skip]; exact h
theorem wide_round {fq : Option Nat} {n : Nat} {a : Act} {o : Oper} {next : Act → World → Prop} {Q : Exit → Act → World → Prop} {w w' : World} {l : Nat} {f : FuncId} {tmps : Array Value} {assign body : Code} {R : Value → World → Prop}
    (hd : ∀ c, o.op ≠ .defer c) (hr : (execOp a.eval o).run P w = .ok (.round l f tmps assign body) w') (h : RoundIn Fence.wide (n - 1) P l f tmps assign body w' fun e w'' => ∃ x, e = .returned x ∧ R x w'')
    (hn : ∀ x w'', R x w'' → next (a.put o.dst x) w'') : o.wpIn (fw fq) n P a w next Q := by
  refine ⟨fun _ _ => trivial, ?_⟩
  show o.uponIn (fw fq) n P a next Q ((o.semAt (fw fq).round a.eval).run P w)
  rw [Oper.semAt_eq _ _ _ hd, hr, Oper.uponIn_round]
  refine ⟨fun hd => by simp [fw, Fence.wide] at hd, RoundIn.mono (R := fun e w'' => ∃ x, e = .returned x ∧ R x w'') h ?_⟩
  rintro e w'' ⟨x, rfl, hR⟩
  exact hn x w'' hR
theorem pureE_notDefer {g : Operand → Option AV} {op : Op} {fx : Facts} {r : AV × Facts} (h : (pureE cx g op fx).at_ ρ = some r) : ∀ c, op ≠ .defer c := by
  intro c e; subst e; simp [pureE, T.at_bad] at h
theorem readE_notDefer {g : Operand → Option AV} {op : Op} {H : Tr AObj} {fx : Facts} {r : AV × Facts} (h : (readE cx g op H fx).at_ ρ = some r) : ∀ c, op ≠ .defer c := by
  intro c e; subst e; simp [readE, T.at_bad] at h
theorem allocE_notDefer {g : Operand → Option AV} {op : Op} {fx : Facts} {r : AObj × (Nat → AV)} (h : (allocE cx g op fx).at_ ρ = some r) : ∀ c, op ≠ .defer c := by
  intro c e; subst e; simp [allocE, T.at_bad] at h
theorem opE_notDefer {cf : CallF} {g : Operand → Option AV} {cl : Nat} {op : Op} {st st' : St} {v : AV} (h : (opE cx cf g cl op st).at_ ρ = some (v, st')) : ∀ c, op ≠ .defer c := by
  intro c e
  subst e
  unfold opE at h
  split at h
  · simp [pureE, T.bind_bad, T.at_bad] at h
  · simp [readE, T.bind_bad, T.at_bad] at h
  · simp [allocE, T.bind_bad, T.at_bad] at h
  · simp [writeE, T.at_bad] at h
  · simp [T.at_bad] at h
  · simp [T.at_bad] at h

/-- A method of an interface value. -/
theorem meth_call (ok : cx.Ok P) {cf : CallF} {t : TypeId} {name : String} {m : FuncId × Bool} {ti : TI} {rv : AV} {args : List AV} {st st' : St} {v : AV} (hm : methE cx t name = some m) (ht : cx.tt.get t = some ti)
    (h : (match ti.desc, m.2 with
        | .pointer _, true => cf (.fn m.1) (rv :: args) st
        | .pointer _, false => .bad 303
        | _, true => .bad 304
        | _, false => cf (.fn m.1) (rv :: args) st : T (AV × St)).at_ ρ = some (v, st')) :
    (cf (.fn m.1) (rv :: args) st).at_ ρ = some (v, st') ∧ ∀ (L : Nat → Loc) (w : World) (vals : Array Value), (callMethod (.iface t (conc L ρ rv)) name vals).run P w = (callFunc m.1 (#[conc L ρ rv] ++ vals)).run P w := by
  obtain ⟨me, hme, hpath, hfunc⟩ := methE_find hm ht
  have hd := ok.desc _ _ ht
  have hcall : (cf (.fn m.1) (rv :: args) st).at_ ρ = some (v, st') ∧ ∀ L w, (receiverAt t (.val (conc L ρ rv)) m.2 (if me.path.isEmpty then some ((name.splitOn ".").getLastD name) else none)).run P w = .ok (conc L ρ rv) w := by
    split at h
    · rename_i x e1 e2
      refine ⟨h, fun L w => ?_⟩
      unfold receiverAt
      simp only [Sem.run_bind, run_underlying hd, Result.andThen_ok, e1, e2, Place.get]
      rfl
    · simp [T.at_bad] at h
    · simp [T.at_bad] at h
    · rename_i x1 x2 hne e1
      refine ⟨h, fun L w => ?_⟩
      unfold receiverAt
      simp only [Sem.run_bind, run_underlying hd, Result.andThen_ok, hne]
      cases hdd : ti.desc <;> first | rfl | exact (e1 _ hdd).elim
  refine ⟨hcall.1, fun L w vals => ?_⟩
  have hmet : (method (P.types.size + Made.depth) t (conc L ρ rv) name).run P w = .ok (m.1, conc L ρ rv) w := by
    rw [show P.types.size + Made.depth = (P.types.size + 99) + 1 from rfl]
    unfold method
    simp only [Sem.run_bind, ok.run_info ht, Result.andThen_ok, hme, hpath, follow, Sem.run_pure, hfunc, hcall.2]
  unfold callMethod
  simp only [Sem.run_bind, run_program, Result.andThen_ok, hmet]
theorem ext_one (x : Value) (l : Array Value) : (#[x] ++ l)[0]? = some x ∧ (#[x] ++ l).extract 1 (#[x] ++ l).size = l := by
  refine ⟨by rw [Array.getElem?_append_left (by simp)]; rfl, ?_⟩
  apply Array.toList_inj.1
  simp
theorem callE_sound {fq : Option Nat} (ok : cx.Ok P) {cf : CallF} (hcf : CallSound P ρ cf) {g : Operand → Option AV} {c : Call} {st st' : St} {v : AV} (hx : FxOk ρ st.fx) (h : (callE cx cf g c st).at_ ρ = some (v, st')) (L : Nat → Loc) (w : World)
    (hs : ∀ L', Agree st.nx L L' → Sim L' ρ st.H w) (a : Act) (hg : ∀ L', Agree st.nx L L' → GRel L' ρ g a.eval) (o : Oper) (ho : o.op = .call c) {n : Nat} {next : Act → World → Prop} {Q : Exit → Act → World → Prop}
    (hn : ∀ x w', Turns ρ L st w v st' x w' → next (a.put o.dst x) w') : o.wpIn (fw fq) n P a w next Q := by
  unfold callE at h
  replace h := T.at_opt_some.1 h; obtain ⟨args, hargs, h⟩ := h
  have hmap : ∀ L', Agree st.nx L L' → c.args.map a.eval = (args.map (conc L' ρ)).toArray := fun L' ha => by
    apply Array.toList_inj.1
    rw [Array.toList_map, loptM hargs (fun x v _ hv => hg L' ha x v hv)]
  have fin : ∀ {f : FuncId} {av : List AV} {vals : Array Value}, (cf (.fn f) av st).at_ ρ = some (v, st') → (∀ L', Agree st.nx L L' → vals = (av.map (conc L' ρ)).toArray) →
      (∀ r, (callFunc f vals).run P w = r → (execOp a.eval o).run P w = r) → o.wpIn (fw fq) n P a w next Q := by
    intro f av vals hcall hv hrun
    obtain ⟨⟨fn, hf, hname, hbody⟩, _, hcall⟩ := hcf.1 f av st v st' hx hcall
    refine wide_enter (fun c e => by rw [ho] at e; cases e) (hrun _ (run_callFunc hf hname hbody vals w)) ?_
    refine CallsIn.mono (hcall L w (n - 1) vals hs hv) (fun e w' he => ?_)
    obtain ⟨x, rfl, ht⟩ := he
    exact hn x w' ht
  split at h
  case h_3 => simp [T.at_bad] at h
  case h_1 fv hc =>
    replace h := gE_at.1 h; obtain ⟨u, hu, h⟩ := h
    split at h
    case h_4 => simp [T.at_bad] at h
    case h_3 =>
      rename_i id
      have hd : ∀ c, o.op ≠ .defer c := fun c e => by rw [ho] at e; cases e
      obtain ⟨_, hy⟩ := hcf.2 id args st v st' hx h
      obtain ⟨fn, tmps, assign, body, hrun, hround⟩ := hy L w (n - 1) (c.args.map a.eval) hs hmap
      have hr : (execOp a.eval o).run P w = .ok (.round (L id).b fn tmps assign body) w := by
        unfold execOp
        rw [ho]
        simp only [resolve, hc, hg L (Agree.refl _ _) _ _ hu, conc, Deferred.ofValue, Sem.run_bind, Sem.run_pure, Result.andThen_ok, invoke]
        rw [show (#[] ++ Array.map a.eval c.args : Array Value) = Array.map a.eval c.args by simp]
        exact hrun
      exact wide_round hd hr hround (fun x w' ht => hn x w' ht)
    · rename_i f first captured
      refine fin h (vals := ((first.map (conc L ρ)).toArray ++ c.args.map a.eval) ++ (captured.map (conc L ρ)).toArray) (fun L' ha => ?_) (fun r hr => ?_)
      · have e1 := hg L (Agree.refl _ _) _ _ hu
        have e2 := hg L' ha _ _ hu
        rw [e1] at e2
        simp only [conc, concs_eq, Value.func.injEq, true_and] at e2
        rw [e2.1, e2.2, hmap L' ha]
        simp [lapp_eq]
      · unfold execOp
        rw [ho]
        simp only [resolve, hc, hg L (Agree.refl _ _) _ _ hu, conc, concs_eq, Deferred.ofValue, Sem.run_bind, Sem.run_pure, Result.andThen_ok, invoke]
        exact hr
    · rename_i name t rv' first captured
      replace h := T.at_opt_some.1 h; obtain ⟨m, hm, h⟩ := h
      replace h := tyE_at.1 h; obtain ⟨ti, ht, h⟩ := h
      obtain ⟨hcall, hrun⟩ := meth_call ok hm ht h
      refine fin hcall (vals := #[conc L ρ rv'] ++ ((first.map (conc L ρ)).toArray ++ c.args.map a.eval)) (fun L' ha => ?_) (fun r hr => ?_)
      · have e1 := hg L (Agree.refl _ _) _ _ hu
        have e2 := hg L' ha _ _ hu
        rw [e1] at e2
        simp only [conc, concs_eq, List.map_cons, Value.func.injEq, true_and] at e2
        have e3 := Array.toList_inj.2 e2.1
        simp only [List.cons.injEq, Value.iface.injEq, true_and] at e3
        rw [e3.1, e3.2, hmap L' ha]
        simp [lapp_eq]
      · unfold execOp
        rw [ho]
        have hargs' : ((conc L ρ (.iface t rv') :: first.map (conc L ρ)).toArray ++ c.args.map a.eval) = #[Value.iface t (conc L ρ rv')] ++ ((first.map (conc L ρ)).toArray ++ c.args.map a.eval) := by
          apply Array.toList_inj.1
          simp [conc]
        simp only [resolve, hc, hg L (Agree.refl _ _) _ _ hu, conc, concs_eq, List.map_cons, Deferred.ofValue, Sem.run_bind, Sem.run_pure, Result.andThen_ok, invoke]
        have hargs2 : ((Value.iface t (conc L ρ rv') :: first.map (conc L ρ)).toArray ++ c.args.map a.eval) = #[Value.iface t (conc L ρ rv')] ++ ((first.map (conc L ρ)).toArray ++ c.args.map a.eval) := by
          apply Array.toList_inj.1
          simp
        rw [hargs2]
        obtain ⟨q1, q2⟩ := ext_one (Value.iface t (conc L ρ rv')) ((first.map (conc L ρ)).toArray ++ c.args.map a.eval)
        simp only [q1, q2]
        rw [hrun]
        exact hr
  case h_2 rv name hc =>
    replace h := gE_at.1 h; obtain ⟨u, hu, h⟩ := h
    split at h
    case h_2 => simp [T.at_bad] at h
    rename_i t rv'
    replace h := T.at_opt_some.1 h; obtain ⟨m, hm, h⟩ := h
    replace h := tyE_at.1 h; obtain ⟨ti, ht, h⟩ := h
    obtain ⟨hcall, hrun⟩ := meth_call ok hm ht h
    refine fin hcall (vals := #[conc L ρ rv'] ++ c.args.map a.eval) (fun L' ha => ?_) (fun r hr => ?_)
    · have e1 := hg L (Agree.refl _ _) _ _ hu
      have e2 := hg L' ha _ _ hu
      rw [e1] at e2
      simp only [conc, Value.iface.injEq, true_and] at e2
      rw [e2, hmap L' ha]
      simp
    · unfold execOp
      rw [ho]
      simp only [resolve, hc, hg L (Agree.refl _ _) _ _ hu, conc, Sem.run_bind, Sem.run_pure, Result.andThen_ok, invoke]
      obtain ⟨q1, q2⟩ := ext_one (Value.iface t (conc L ρ rv')) (c.args.map a.eval)
      simp only [q1, q2]
      rw [hrun]
      exact hr
/-- ONE OPERATION, on the heap as it is. -/
theorem opE_sound {fq : Option Nat} (ok : cx.Ok P) {cf : CallF} (hcf : CallSound P ρ cf) {g : Operand → Option AV} {cl : Nat} {op : Op} {st st' : St} {v : AV} (hx : FxOk ρ st.fx) (h : (opE cx cf g cl op st).at_ ρ = some (v, st')) (L : Nat → Loc) (w : World)
    (hs : ∀ L', Agree st.nx L L' → Sim L' ρ st.H w) (a : Act) (hg : ∀ L', Agree st.nx L L' → GRel L' ρ g a.eval) (o : Oper) (ho : o.op = op) {n : Nat} {next : Act → World → Prop} {Q : Exit → Act → World → Prop}
    (hn : ∀ x w', Turns ρ L st w v st' x w' → next (a.put o.dst x) w') : o.wpIn (fw fq) n P a w next Q := by
  have hg0 := hg L (Agree.refl _ _)
  have hd : ∀ c, o.op ≠ .defer c := by rw [ho]; exact opE_notDefer h
  unfold opE at h
  split at h
  case h_1 =>
    replace h := T.at_bind_some.1 h
    obtain ⟨⟨v1, fx1⟩, h1, h⟩ := h
    replace h := ret_at h; obtain ⟨rfl, rfl⟩ := h
    obtain ⟨hx1, hr⟩ := pureE_sound ok hx h1
    refine wide_value hd (hr L w a.eval o ho hg0) (.inl rfl) (hn _ _ (Turns.same hs (fun L' ha => ?_) hx1 rfl rfl rfl rfl))
    have e1 := hr L w a.eval o ho hg0
    rw [hr L' w a.eval o ho (hg L' ha)] at e1
    simp at e1
    exact e1.symm
  case h_2 =>
    replace h := T.at_bind_some.1 h
    obtain ⟨⟨v1, fx1⟩, h1, h⟩ := h
    replace h := ret_at h; obtain ⟨rfl, rfl⟩ := h
    obtain ⟨hx1, hr⟩ := readE_sound ok hx h1
    refine wide_value hd (hr L w a.eval o ho hg0 (hs L (Agree.refl _ _))) (.inl rfl) (hn _ _ (Turns.same hs (fun L' ha => ?_) hx1 rfl rfl rfl rfl))
    have e1 := hr L w a.eval o ho hg0 (hs L (Agree.refl _ _))
    rw [hr L' w a.eval o ho (hg L' ha) (hs L' ha)] at e1
    simp at e1
    exact e1.symm
  case h_3 =>
    replace h := T.at_bind_some.1 h
    obtain ⟨⟨ao, f⟩, h1, h⟩ := h
    replace h := ret_at h; obtain ⟨rfl, rfl⟩ := h
    obtain ⟨x, w', hr, ht⟩ := allocE_sound ok hx h1 L w hs a.eval hg o ho
    exact wide_value hd hr (.inl rfl) (hn _ _ ht)
  case h_4 =>
    obtain ⟨r, x, w', hr, hv, ht⟩ := writeE_sound ok hx h L w hs a.eval hg o ho
    exact wide_value hd hr hv (hn _ _ ht)
  case h_5 =>
    split at h
    · exact callE_sound ok hcf hx h L w hs a hg o ho hn
    · simp [T.at_bad] at h
  case h_6 => simp [T.at_bad] at h

/-! ## A region in the text's order -/
theorem opnd_global {gl : Nat} (hgl : gl ≤ ρ.gl) {L : Nat → Loc} (hp : Pin L ρ) {g : Nat} {e : Tr AV} {v : AV} (hv : opnd gl e (.global g) = some v) : (.pointer (some ⟨g, 0, none⟩) : Value) = conc L ρ v := by
  have hv : (bif Nat.ble (Nat.succ g) gl then some (.ptr g 0) else none : Option AV) = some v := hv
  cases hb : Nat.ble (Nat.succ g) gl with
  | false => rw [hb] at hv; cases hv
  | true =>
    rw [hb] at hv
    simp only [cond_true, Option.some.injEq] at hv
    subst hv
    have := hp g (Nat.lt_of_lt_of_le (Nat.le_of_ble_eq_true hb) hgl)
    show _ = Value.pointer (some ⟨(L g).b, (L g).o + 0, none⟩)
    rw [this.1, this.2]
theorem opnd_rel (hgl : cx.gl ≤ ρ.gl) {L : Nat → Loc} (hp : Pin L ρ) {e : Tr AV} {a : Act} (h : ERel L ρ e a) : GRel L ρ (opnd cx.gl e) a.eval := by
  intro x v hv
  cases x with
  | tmp t => exact h t v hv
  | const c => exact (conc_ofV L ρ hv).symm
  | func f => simp [opnd] at hv; subst hv; rfl
  | global g => exact opnd_global hgl hp hv
end Ab
