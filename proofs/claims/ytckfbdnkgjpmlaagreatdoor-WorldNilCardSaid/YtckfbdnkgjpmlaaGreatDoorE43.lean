/- E, part 43: sorted keys, by one of some closures; any other call is run. Leaves on paths that contradict themselves. -/
import Derived.Test.YtckfbdnkgjpmlaaGreatDoorE42
namespace Ab
open Go Go.RowKit

noncomputable def memG (x : Nat) (l : List Nat) : Bool := List.rec (motive := fun _ => Bool) false (fun y _ ih => bif Nat.beq x y then true else ih) l
theorem memG_at {x : Nat} : ∀ {l : List Nat}, memG x l = true → x ∈ l
  | [], h => by cases h
  | y :: l, h => by
    have h : (bif Nat.beq x y then true else memG x l) = true := h
    cases hb : Nat.beq x y with
    | true => rw [Nat.eq_of_beq_eq_true hb]; exact List.mem_cons_self
    | false => rw [hb] at h; exact List.mem_cons_of_mem _ (memG_at h)
/-- The library's sorted keys of a map, where it is one of some closures that gives the keys; else the call is run. -/
noncomputable def sortedOr (gs : List FuncId) (el : TypeId) (cf : CallF) (f : FuncId) : List AV → St → T (AV × St) := fun args st => match args with
  | [.func g [] [.ptr id 0]] => bif memG g gs then sortedHook g el [.func g [] [.ptr id 0]] st else cf (.fn f) [.func g [] [.ptr id 0]] st
  | args => cf (.fn f) args st
theorem sortedOr_sound {P : Program} {ρ : Env} {gs : List FuncId} {el : TypeId} {cf : CallF} (hcf : CallSound P ρ cf) {f : FuncId} (hS : ∀ g ∈ gs, KeysSorted P f g el) (hfn : ∃ fn, P.funcs[f]? = some fn ∧ fn.name ≠ "runtime.NumGoroutine" ∧ fn.body.isNone = false) :
    HookSound P ρ f (sortedOr gs el cf f) := by
  intro args st v st' hx h
  unfold sortedOr at h
  split at h
  · rename_i g id
    cases hm : memG g gs with
    | true => rw [hm, cond_true] at h; exact sortedHook_sound (hS g (memG_at hm)) hfn _ st v st' hx h
    | false => rw [hm, cond_false] at h; exact hcf.1 f _ st v st' hx h
  · exact hcf.1 f _ st v st' hx h

/-- Of some atoms all are known to be so. -/
noncomputable def allSo (l : List (Atom × Bool)) (fx : Facts) : Bool :=
  List.rec (motive := fun _ => Bool) true (fun p _ ih => Option.rec (motive := fun _ => Bool) false (fun b => bif Bool.rec (Bool.rec true false p.2) p.2 b then ih else false) (known p.1 fx)) l
theorem allSo_at {ρ : Env} {fx : Facts} (hx : FxOk ρ fx) : ∀ {l : List (Atom × Bool)}, allSo l fx = true → ∀ p ∈ l, p.1.den ρ = p.2
  | [], _ => fun p h => by cases h
  | q :: l, h => by
    have h : (Option.rec (motive := fun _ => Bool) false (fun b => bif Bool.rec (Bool.rec true false q.2) q.2 b then allSo l fx else false) (known q.1 fx) : Bool) = true := h
    cases hk : known q.1 fx with
    | none => rw [hk] at h; cases h
    | some b =>
      rw [hk] at h
      have h : (bif (Bool.rec (Bool.rec true false q.2) q.2 b : Bool) then allSo l fx else false) = true := h
      obtain ⟨h1, h2⟩ := band_true h
      have hb : b = q.2 := by
        cases b <;> cases hq : q.2 <;> rw [hq] at h1 <;> first | rfl | cases h1
      intro p hp
      rcases List.mem_cons.1 hp with rfl | hp
      · rw [known_some hx hk, hb]
      · exact allSo_at hx h2 p hp
/-- All leaves are 'yes', but for those of paths on which all of some facts hold. -/
noncomputable def Sum.allUnless (l : List (Atom × Bool)) (s : Sum) : Facts → Bool :=
  Sum.rec (motive := fun _ => Facts → Bool) (fun _ fx => allSo l fx) (fun _ => true) (fun fx => allSo l fx) (fun fx => allSo l fx)
    (fun c _ _ x y fx => bif x ((c, true) :: fx) then y ((c, false) :: fx) else false) s
theorem Sum.allUnless_at {ρ : Env} {l : List (Atom × Bool)} (hl : ¬ ∀ p ∈ l, p.1.den ρ = p.2) : ∀ {s : Sum} {fx : Facts}, FxOk ρ fx → s.allUnless l fx = true → Sum.atS ρ s
  | .bad _, fx, hx, h => (hl (allSo_at hx h)).elim
  | .yes, _, _, _ => trivial
  | .no, fx, hx, h => (hl (allSo_at hx h)).elim
  | .other, fx, hx, h => (hl (allSo_at hx h)).elim
  | .split c t f, fx, hx, h => by
    have h : (bif t.allUnless l ((c, true) :: fx) then f.allUnless l ((c, false) :: fx) else false) = true := h
    obtain ⟨h1, h2⟩ := band_true h
    unfold Sum.atS
    split
    · rename_i hc
      exact Sum.allUnless_at hl (hx.cons hc) h1
    · rename_i hc
      exact Sum.allUnless_at hl (hx.cons (by simpa using hc)) h2
theorem law_globUnless {P : Program} {cx : Ctx} (ok : cx.Ok P) (ρ : Env) (hgl : cx.gl = ρ.gl) {gs : List (Nat × AObj)} (hlt : ∀ p ∈ gs, p.1 < ρ.gl) (hf : flatG gs = true)
    (hh : HooksOk P ρ cx) {f : FuncId} {args : List AV} {vals : Array Value} {k : Nat} {fx : Facts} (hx : FxOk ρ fx) (hv : ∀ L, Pin L ρ → vals = (args.map (conc L ρ)).toArray)
    {l : List (Atom × Bool)} (hl : ¬ ∀ p ∈ l, p.1.den ρ = p.2) (h : (summ (keepT gs (callNF cx k f args (St.glob gs ρ.gl fx)))).allUnless l [] = true) {w : World} (hw : GAt ρ gs w) :
    Calls P f vals w fun e w' => ∃ v, e = .returned v ∧ v = .bool true ∧ Below w.heap.size w w' := by
  have h := Sum.allUnless_at hl (ρ := ρ) (fun _ hp => by cases hp) h
  obtain ⟨st', h⟩ := summ_at _ h
  rw [callNF_eq] at h
  exact callsIn_wide.1 (CallsIn.mono (call_glob ok ρ hgl hlt hf hh hx hv h 0 hw) fun e w' he => ⟨_, he.1, rfl, he.2.below hf hw⟩)
end Ab
