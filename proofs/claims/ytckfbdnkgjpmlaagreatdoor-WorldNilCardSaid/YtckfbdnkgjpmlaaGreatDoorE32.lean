/- E, part 32: the tables of a program; a call of a law. -/
import Derived.Test.YtckfbdnkgjpmlaaGreatDoorE31
import Derived.ProofKit
namespace Ab
open Go Go.RowKit

theorem mkTT_get (P : Program) : ∀ (l : List TypeInfo) (k : Nat) (t : Tr TI), (∀ j, k ≤ j → t.get j = none) → ∀ j,
    (List.rec (motive := fun _ => Nat → Tr TI → Tr TI) (fun _ t => t) (fun i _ ih k t => ih (Nat.succ k) (t.upd k (mkTI P i k))) l k t : Tr TI).get j = if j < k then t.get j else (l[j - k]?).bind fun i => mkTI P i j
  | [], k, t, h, j => by
    show t.get j = _
    split
    · rfl
    · rw [h j (by omega)]; simp
  | i :: l, k, t, h, j => by
    show (List.rec (motive := fun _ => Nat → Tr TI → Tr TI) (fun _ t => t) (fun i _ ih k t => ih (Nat.succ k) (t.upd k (mkTI P i k))) l (k + 1) (t.upd k (mkTI P i k)) : Tr TI).get j = _
    rw [mkTT_get P l (k + 1) _ (fun j hj => by rw [Tr.get_upd, if_neg (by omega)]; exact h j (by omega)) j]
    by_cases h1 : j < k
    · rw [if_pos (by omega), if_pos h1, Tr.get_upd, if_neg (by omega)]
    · by_cases h2 : j = k
      · subst h2
        rw [if_pos (by omega), if_neg h1, Tr.get_upd, if_pos rfl]
        simp
      · rw [if_neg (by omega), if_neg h1]
        obtain ⟨m, rfl⟩ : ∃ m, j = k + 1 + m := ⟨j - (k + 1), by omega⟩
        rw [show k + 1 + m - (k + 1) = m by omega, show k + 1 + m - k = m + 1 by omega]
        rfl
theorem mkTT_some {P : Program} {t : TypeId} {ti : TI} (h : (mkTT P).get t = some ti) : ∃ i, P.types[t]? = some i ∧ mkTI P i t = some ti := by
  have := mkTT_get P P.types.toList 0 .nil (fun _ _ => rfl) t
  rw [show (mkTT P).get t = _ from this] at h
  simp only [Nat.not_lt_zero, if_false, Nat.sub_zero] at h
  cases hi : P.types.toList[t]? with
  | none => rw [hi] at h; cases h
  | some i =>
    rw [hi] at h
    exact ⟨i, by simpa using hi, h⟩
theorem mkCtxH_ok {P : Program} (hn : (P.funcs.toList.all fun f => !(f.name == "runtime.NumGoroutine")) = true) (hm : P.follows .mixedOrders = true) (hk : Tr (List AV → St → T (AV × St))) : (mkCtxH P hk).Ok P := by
  have ht : ∀ {t ti}, (mkCtxH P hk).tt.get t = some ti → ∃ i d, P.types[t]? = some i ∧ P.underlying t = some d ∧ ti = ⟨i, d, i.zero.bind ofV, descAgg d, kindsT P 8 t, !P.eqGuardType P.depth t⟩ := by
    intro t ti h
    obtain ⟨i, hi, h⟩ := mkTT_some h
    unfold mkTI at h
    cases hu : P.underlying t with
    | none => rw [hu] at h; cases h
    | some d =>
      rw [hu] at h
      simp only [Option.some.injEq] at h
      exact ⟨i, d, hi, rfl, h.symm⟩
  have hf : ∀ f fn, (mkCtxH P hk).ft.get f = some fn → P.funcs.toList[f]? = some fn := fun f fn h => by
    have h : (Tr.ofList P.funcs.toList).get f = some fn := h
    rw [Tr.get_ofList] at h
    exact h
  refine ⟨fun f fn h => by simpa using hf f fn h, fun f fn h => ?_, fun t ti h => ?_, fun t ti h => ?_, fun t ti z h hz => ?_, fun t ti h => ?_, fun t ti h => ?_, fun t ti h => ?_, hm⟩
  · rw [List.all_eq_true] at hn
    have := hn fn (List.mem_of_getElem? (hf f fn h))
    simpa using this
  · obtain ⟨i, d, h1, h2, rfl⟩ := ht h
    have hlt : t < P.types.size := by
      rcases Nat.lt_or_ge t P.types.size with hh | hh
      · exact hh
      · rw [Array.getElem?_eq_none hh] at h1; cases h1
    show P.info? t = some i
    unfold Tables.info?
    rw [if_pos hlt]
    exact h1
  · obtain ⟨i, d, h1, h2, rfl⟩ := ht h
    exact h2
  · obtain ⟨i, d, h1, h2, rfl⟩ := ht h
    simp only [Option.bind_eq_some_iff] at hz
    exact hz
  · obtain ⟨i, d, h1, h2, rfl⟩ := ht h; rfl
  · obtain ⟨i, d, h1, h2, rfl⟩ := ht h; rfl
  · obtain ⟨i, d, h1, h2, rfl⟩ := ht h; rfl

/-- What a summary's leaves say at an environment. -/
def Sum.atS (ρ : Env) : Sum → Prop
  | .yes => True
  | .split c t f => if c.den ρ = true then Sum.atS ρ t else Sum.atS ρ f
  | _ => False
theorem summ_at {ρ : Env} : ∀ (t : T (AV × St)), Sum.atS ρ (summ t) → ∃ st', t.at_ ρ = some (.bool true, st')
  | .bad c, h => h.elim
  | .ret (v, st), h => by
    have h : Sum.atS ρ (match (generalizing := false) v with | .bool true => .yes | .bool false => .no | _ => .other) := h
    split at h
    · exact ⟨st, rfl⟩
    · exact h.elim
    · exact h.elim
  | .split c x y, h => by
    have h : Sum.atS ρ (.split c (summ x) (summ y)) := h
    simp only [Sum.atS] at h
    rw [T.at_split]
    split at h
    · rename_i hc
      rw [if_pos hc]
      exact summ_at x h
    · rename_i hc
      rw [if_neg hc]
      exact summ_at y h

theorem mkCtxE_ok {P : Program} (h : (mkCtx P).Ok P) (hk : Tr (List AV → St → T (AV × St))) (en : Nat) : (mkCtxE P hk en).Ok P :=
  ⟨h.fn, h.name, h.info, h.desc, h.zero, h.agg, h.kinds, h.guard, h.mixed⟩
theorem mkCtx_ok {P : Program} (hn : (P.funcs.toList.all fun f => !(f.name == "runtime.NumGoroutine")) = true) (hm : P.follows .mixedOrders = true) : (mkCtx P).Ok P := mkCtxH_ok hn hm .nil
theorem hooksOk_nil {P : Program} {ρ : Env} : HooksOk P ρ (mkCtx P) := fun f h (hf : (Tr.nil : Tr (List AV → St → T (AV × St))).get f = some h) => by cases hf

/-- A state of which nothing is known but facts. -/
noncomputable def St.with_ (fx : Facts) : St := ⟨.nil, 0, fx⟩
theorem sim_nil {L : Nat → Loc} {ρ : Env} {w : World} (h0 : ρ.gl = 0) : Sim L ρ .nil w :=
  Sim.mk (fun id o (ho : (Tr.nil : Tr AObj).get id = some o) => by cases ho) (fun i j oi oj (hi : (Tr.nil : Tr AObj).get i = some oi) => by cases hi) (fun g hg => by rw [h0] at hg; cases hg)
/-- A call where nothing is known of the heap: what E says it comes to; old memory is left alone. -/
theorem call_calls {P : Program} {cx : Ctx} (ok : cx.Ok P) (hgl : cx.gl = 0) (ρ : Env) (h0 : ρ.gl = 0) (hh : HooksOk P ρ cx) {f : FuncId} {args : List AV} {vals : Array Value} {k : Nat} {fx : Facts} (hx : FxOk ρ fx) (hv : ∀ L, vals = (args.map (conc L ρ)).toArray)
    {b : Bool} {st' : St} (h : (callN cx k f args (St.with_ fx)).at_ ρ = some (.bool b, st')) (n : Nat) (w : World) :
    CallsIn Fence.wide n P f vals w fun e w' => e = .returned (.bool b) ∧ Below w.heap.size w w' := by
  obtain ⟨_, _, hc⟩ := callN_sound (ρ := ρ) ok hh (by rw [hgl]; exact Nat.zero_le _) k f args (St.with_ fx) (.bool b) st' hx h
  have hc := hc (fun _ => ⟨0, 0, 0⟩) w n vals (fun L' _ => sim_nil h0) (fun L' _ => hv L')
  refine CallsIn.mono hc (fun e w' he => ?_)
  obtain ⟨x, rfl, L1, _, _, hf, _, hx⟩ := he
  refine ⟨by rw [(hx L1 (Agree.refl _ _)).1]; rfl, ⟨hf.os, hf.tape, hf.output, hf.size, fun b hb => hf.keep b hb (fun id o (ho : (Tr.nil : Tr AObj).get id = some o) => by cases ho)⟩⟩
/-- A LAW THAT ANSWERS TRUE: its call, in whatever world. -/
theorem law_callsH {P : Program} {cx : Ctx} (ok : cx.Ok P) (hgl : cx.gl = 0) {f : FuncId} {args : List AV} {vals : Array Value} {k : Nat} {fx : Facts} (ρ : Env) (hh : HooksOk P ρ cx) (hx : FxOk ρ fx) (hv : ∀ L, vals = (args.map (conc L ρ)).toArray) (h0 : ρ.gl = 0)
    (h : Sum.atS ρ (summ (callN cx k f args (St.with_ fx)))) (w : World) :
    Calls P f vals w fun e w' => ∃ v, e = .returned v ∧ v = .bool true ∧ Below w.heap.size w w' := by
  obtain ⟨st', h⟩ := summ_at _ h
  exact callsIn_wide.1 (CallsIn.mono (call_calls ok hgl ρ h0 hh hx hv h 0 w) fun e w' he => ⟨_, he.1, rfl, he.2⟩)
theorem law_calls {P : Program} (ok : (mkCtx P).Ok P) {f : FuncId} {args : List AV} {vals : Array Value} {k : Nat} (ρ : Env) (hv : ∀ L, vals = (args.map (conc L ρ)).toArray) (h0 : ρ.gl = 0) (h : Sum.atS ρ (summ (callN (mkCtx P) k f args St.init))) (w : World) :
    Calls P f vals w fun e w' => ∃ v, e = .returned v ∧ v = .bool true ∧ Below w.heap.size w w' :=
  law_callsH ok rfl ρ hooksOk_nil (fun p hp => by cases hp) hv h0 h w
/-- A FUNCTION WITHOUT PARAMETERS THAT ANSWERS TRUE WHEREVER: its summary. -/
noncomputable def trueHook : List AV → St → T (AV × St) := fun args st => match args with
  | [] => .ret (.bool true, st)
  | _ => .bad 350
theorem trueHook_sound {P : Program} {cx : Ctx} (ok : cx.Ok P) (hgl : cx.gl = 0) {f : FuncId} {k : Nat} (ρ0 : Env) (h0 : ρ0.gl = 0) (hh : HooksOk P ρ0 cx) {ρ : Env} (h : Sum.atS ρ0 (summ (callN cx k f [] (St.with_ [])))) : HookSound P ρ f trueHook := by
  intro args st v st' hx hr
  obtain ⟨st1, h⟩ := summ_at _ h
  cases args with
  | cons a l => cases hr
  | nil =>
    have hr : some ((AV.bool true, st) : AV × St) = some (v, st') := hr
    simp only [Option.some.injEq, Prod.mk.injEq] at hr
    obtain ⟨rfl, rfl⟩ := hr
    refine ⟨(callN_sound (ρ := ρ0) ok hh (by rw [hgl]; exact Nat.zero_le _) k f [] (St.with_ []) (.bool true) st1 (fun p hp => by cases hp) h).1, ⟨hx, Nat.le_refl _⟩, fun L w n vals hs hv => ?_⟩
    refine CallsIn.mono (call_calls ok hgl ρ0 h0 hh (fun p hp => by cases hp) (fun L' => by rw [hv L (Agree.refl _ _)]; rfl) h n w) (fun e w' he => ?_)
    obtain ⟨rfl, hb⟩ := he
    have hlt : ∀ L', Agree st.nx L L' → ∀ id o, st.H.get id = some o → (L' id).b < w.heap.size := fun L' ha id o ho => by
      obtain ⟨y, hy⟩ := ((hs L' ha).at_ id o ho).block
      exact lt_of_some hy
    exact ⟨_, rfl, L, Agree.refl _ _, Nat.le_refl _, ⟨hb.size, hb.os, hb.tape, hb.output, fun b hb' _ => hb.block b hb', fun b _ hn => hn⟩, hx,
      fun L' ha => ⟨rfl, ⟨fun id o ho => ((hs L' ha).at_ id o ho).keep (hb.block _ (hlt L' ha id o ho)), (hs L' ha).inj, (hs L' ha).pin⟩⟩⟩
end Ab
