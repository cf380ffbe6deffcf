/- E, part 41: a function that answers a truth of its arguments and leaves all alone: its summary asks one symbol. -/
import Derived.Test.YtckfbdnkgjpmlaaGreatDoorE40
namespace Ab
open Go Go.RowKit

/-- All of a summary's leaves are truths. -/
noncomputable def Sum.allBool (s : Sum) : Bool := Sum.rec (motive := fun _ => Bool) (fun _ => false) true true false (fun _ _ _ x y => bif x then y else false) s
theorem summ_bool {ρ : Env} : ∀ (t : T (AV × St)), (summ t).allBool = true → ∃ b st', t.at_ ρ = some (.bool b, st')
  | .bad c, h => by cases h
  | .ret (v, st), h => by
    have h : Sum.allBool (match (generalizing := false) v with | .bool true => .yes | .bool false => .no | _ => .other) = true := h
    split at h
    · exact ⟨true, st, rfl⟩
    · exact ⟨false, st, rfl⟩
    · cases h
  | .split c x y, h => by
    have h : (bif (summ x).allBool then (summ y).allBool else false) = true := h
    obtain ⟨h1, h2⟩ := band_true h
    rw [T.at_split]
    split
    · exact summ_bool x h1
    · exact summ_bool y h2
/-- A call that answers a truth, the same wherever. -/
theorem tell_calls {P : Program} {cx : Ctx} (ok : cx.Ok P) (hgl : cx.gl = 0) (ρ : Env) (hh : HooksOk P ρ cx) {f : FuncId} {args : List AV} {vals : Array Value} {k : Nat} (hv : ∀ L, vals = (args.map (conc L ρ)).toArray)
    (h : (summ (callNF cx k f args (St.with_ []))).allBool = true) (h0 : ρ.gl = 0 := by rfl) :
    ∃ b, (∃ fn, P.funcs[f]? = some fn ∧ fn.name ≠ "runtime.NumGoroutine" ∧ fn.body.isNone = false) ∧ ∀ n w, CallsIn Fence.wide n P f vals w fun e w' => e = .returned (.bool b) ∧ Below w.heap.size w w' := by
  obtain ⟨b, st', hb⟩ := summ_bool (ρ := ρ) _ h
  rw [callNF_eq] at hb
  exact ⟨b, (callN_sound (ρ := ρ) ok hh (by rw [hgl]; exact Nat.zero_le _) k f args (St.with_ []) (.bool b) st' (fun p hp => by cases hp) hb).1, fun n w => call_calls ok hgl ρ h0 hh (fun p hp => by cases hp) hv hb n w⟩
/-- The summary. -/
noncomputable def tellHook (args0 : List AV) (i : Nat) : List AV → St → T (AV × St) := fun args st =>
  T.chk (sames args args0) 355 ((dec (.eq (.v i) (.c 1)) st.fx).bind fun p => .ret (.bool p.1, ⟨st.H, st.nx, p.2⟩))
theorem tellHook_sound {P : Program} {ρ : Env} {f : FuncId} {args0 : List AV} {i : Nat} {vals : Array Value} {b : Bool} (hfn : ∃ fn, P.funcs[f]? = some fn ∧ fn.name ≠ "runtime.NumGoroutine" ∧ fn.body.isNone = false)
    (hc : ∀ n w, CallsIn Fence.wide n P f vals w fun e w' => e = .returned (.bool b) ∧ Below w.heap.size w w') (hv : ∀ L, vals = (args0.map (conc L ρ)).toArray) (hi : ρ.num i = if b then 1 else 0) : HookSound P ρ f (tellHook args0 i) := by
  intro args st v st' hx h
  unfold tellHook at h
  replace h := chk_at h; obtain ⟨h1, h⟩ := h
  replace h := T.at_bind_some.1 h; obtain ⟨p, hp, h⟩ := h
  have h1 := sames_eq _ _ h1
  subst h1
  have h : some ((AV.bool p.1, (⟨st.H, st.nx, p.2⟩ : St)) : AV × St) = some (v, st') := h
  simp only [Option.some.injEq, Prod.mk.injEq] at h
  obtain ⟨rfl, rfl⟩ := h
  obtain ⟨hd, hx'⟩ := dec_at (b := p.1) (fx' := p.2) hx hp
  have hb : p.1 = b := by
    rw [← hd]
    show ((Tm.den ρ (.v i)) == (Tm.den ρ (.c 1))) = b
    show (ρ.num i == 1) = b
    rw [hi]
    cases b <;> rfl
  refine ⟨hfn, ⟨hx', Nat.le_refl _⟩, fun L w n vals' hs hv' => ?_⟩
  have e : vals' = vals := (hv' L (Agree.refl _ _)).trans (hv L).symm
  subst e
  refine CallsIn.mono (hc n w) (fun e w' he => ?_)
  obtain ⟨rfl, hbl⟩ := he
  have lt : ∀ L', Agree st.nx L L' → ∀ id o, st.H.get id = some o → (L' id).b < w.heap.size := fun L' ha id o ho => by
    obtain ⟨y, hy⟩ := ((hs L' ha).at_ id o ho).block
    exact lt_of_some hy
  exact ⟨_, rfl, L, Agree.refl _ _, Nat.le_refl _, ⟨hbl.size, hbl.os, hbl.tape, hbl.output, fun b hb' _ => hbl.block b hb', fun b _ hn => hn⟩, hx',
    fun L' ha => ⟨by rw [hb]; rfl, ⟨fun id o ho => ((hs L' ha).at_ id o ho).keep (hbl.block _ (lt L' ha id o ho)), (hs L' ha).inj, (hs L' ha).pin⟩⟩⟩
theorem HksOk.ctxG {P : Program} {ρ : Env} {t : Tr (List AV → St → T (AV × St))} {en gl : Nat} (ht : HksOk P ρ t) : HooksOk P ρ (mkCtxG P t en gl) := ht
end Ab
