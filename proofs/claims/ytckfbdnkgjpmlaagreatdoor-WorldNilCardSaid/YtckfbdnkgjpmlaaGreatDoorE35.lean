/- E, part 35: leaves on paths that nothing walks; a call of a law by the turned code. -/
import Derived.Test.YtckfbdnkgjpmlaaGreatDoorE34
namespace Ab
open Go Go.RowKit

/-- Of some atoms all are known to be false. -/
noncomputable def allFalse (l : List Atom) (fx : Facts) : Bool :=
  List.rec (motive := fun _ => Bool) true (fun A _ ih => Option.rec (motive := fun _ => Bool) false (fun b => bif b then false else ih) (known A fx)) l
theorem allFalse_at {ρ : Env} {fx : Facts} (hx : FxOk ρ fx) : ∀ {l : List Atom}, allFalse l fx = true → ∀ A ∈ l, A.den ρ = false
  | [], _ => fun A h => by cases h
  | B :: l, h => by
    have h : (Option.rec (motive := fun _ => Bool) false (fun b => bif b then false else allFalse l fx) (known B fx) : Bool) = true := h
    cases hk : known B fx with
    | none => rw [hk] at h; cases h
    | some b =>
      rw [hk] at h
      have h : (bif b then false else allFalse l fx) = true := h
      cases b with
      | true => cases h
      | false =>
        rw [cond_false] at h
        intro A hA
        rcases List.mem_cons.1 hA with rfl | hA
        · exact known_some hx hk
        · exact allFalse_at hx h A hA
/-- All leaves are 'yes', but for those of paths on which all of some atoms are false. -/
noncomputable def Sum.allBut (l : List Atom) (s : Sum) : Facts → Bool :=
  Sum.rec (motive := fun _ => Facts → Bool) (fun _ fx => allFalse l fx) (fun _ => true) (fun fx => allFalse l fx) (fun fx => allFalse l fx)
    (fun c _ _ x y fx => bif x ((c, true) :: fx) then y ((c, false) :: fx) else false) s
theorem Sum.allBut_at {ρ : Env} {l : List Atom} (hl : ¬ ∀ A ∈ l, A.den ρ = false) : ∀ {s : Sum} {fx : Facts}, FxOk ρ fx → s.allBut l fx = true → Sum.atS ρ s
  | .bad _, fx, hx, h => (hl (allFalse_at hx h)).elim
  | .yes, _, _, _ => trivial
  | .no, fx, hx, h => (hl (allFalse_at hx h)).elim
  | .other, fx, hx, h => (hl (allFalse_at hx h)).elim
  | .split c t f, fx, hx, h => by
    have h : (bif t.allBut l ((c, true) :: fx) then f.allBut l ((c, false) :: fx) else false) = true := h
    cases ht : t.allBut l ((c, true) :: fx) with
    | false => rw [ht] at h; cases h
    | true =>
      rw [ht, cond_true] at h
      unfold Sum.atS
      split
      · rename_i hc
        exact Sum.allBut_at hl (hx.cons hc) ht
      · rename_i hc
        exact Sum.allBut_at hl (hx.cons (by simpa using hc)) h
/-- A LAW THAT ANSWERS TRUE, by the turned code. -/
theorem law_callsF {P : Program} {cx : Ctx} (ok : cx.Ok P) (hgl : cx.gl = 0) {f : FuncId} {args : List AV} {vals : Array Value} {k : Nat} {fx : Facts} (ρ : Env) (hh : HooksOk P ρ cx) (hx : FxOk ρ fx) (hv : ∀ L, vals = (args.map (conc L ρ)).toArray) (h0 : ρ.gl = 0 := by rfl)
    (h : Sum.atS ρ (summ (callNF cx k f args (St.with_ fx)))) (w : World) :
    Calls P f vals w fun e w' => ∃ v, e = .returned v ∧ v = .bool true ∧ Below w.heap.size w w' :=
  law_callsH ok hgl ρ hh hx hv h0 (by rw [← callNF_eq]; exact h) w
theorem trueHook_soundF {P : Program} {cx : Ctx} (ok : cx.Ok P) (hgl : cx.gl = 0) {f : FuncId} {k : Nat} (ρ0 : Env) (h0 : ρ0.gl = 0) (hh : HooksOk P ρ0 cx) {ρ : Env} (h : Sum.atS ρ0 (summ (callNF cx k f [] (St.with_ [])))) : HookSound P ρ f trueHook :=
  trueHook_sound (k := k) ok hgl ρ0 h0 hh (by rw [← callNF_eq]; exact h)
theorem trueHook_ok {P : Program} {cx : Ctx} (ok : cx.Ok P) (hgl : cx.gl = 0) {f : FuncId} {k : Nat} (ρ0 : Env) (hh : HooksOk P ρ0 cx) {ρ : Env} (h : (summ (callNF cx k f [] (St.with_ []))).allYes = true) (h0 : ρ0.gl = 0 := by rfl) : HookSound P ρ f trueHook :=
  trueHook_soundF ok hgl ρ0 h0 hh (Sum.allYes_at h)
theorem law_allYes {P : Program} {cx : Ctx} (ok : cx.Ok P) (hgl : cx.gl = 0) {f : FuncId} {args : List AV} {vals : Array Value} {k : Nat} {fx : Facts} (ρ : Env) (hh : HooksOk P ρ cx) (hx : FxOk ρ fx) (hv : ∀ L, vals = (args.map (conc L ρ)).toArray) (h0 : ρ.gl = 0 := by rfl)
    (h : (summ (callNF cx k f args (St.with_ fx))).allYes = true) (w : World) : Calls P f vals w fun e w' => ∃ v, e = .returned v ∧ v = .bool true ∧ Below w.heap.size w w' :=
  law_callsF ok hgl ρ hh hx hv h0 (Sum.allYes_at h) w
theorem law_allBut {P : Program} {cx : Ctx} (ok : cx.Ok P) (hgl : cx.gl = 0) {f : FuncId} {args : List AV} {vals : Array Value} {k : Nat} {fx : Facts} (ρ : Env) (hh : HooksOk P ρ cx) (hx : FxOk ρ fx) (hv : ∀ L, vals = (args.map (conc L ρ)).toArray) (h0 : ρ.gl = 0 := by rfl)
    {l : List Atom} (hl : ¬ ∀ A ∈ l, A.den ρ = false) (h : (summ (callNF cx k f args (St.with_ fx))).allBut l [] = true) (w : World) : Calls P f vals w fun e w' => ∃ v, e = .returned v ∧ v = .bool true ∧ Below w.heap.size w w' :=
  law_callsF ok hgl ρ hh hx hv h0 (Sum.allBut_at hl (fun _ hp => by cases hp) h) w
theorem hooksOk_set {P : Program} {ρ : Env} {gl : Ctx} {t : Tr (List AV → St → T (AV × St))} {f : FuncId} {h : List AV → St → T (AV × St)} (ht : ∀ g k, t.get g = some k → HookSound P ρ g k) (hf : HookSound P ρ f h) (e : gl.hk = t.set f h) : HooksOk P ρ gl := by
  intro g k hg
  rw [e, Tr.get_set] at hg
  split at hg
  · rename_i e
    subst e
    cases hg
    exact hf
  · exact ht g k hg
theorem hooksOk_one {P : Program} {ρ : Env} {f : FuncId} {h : List AV → St → T (AV × St)} {en : Nat} (hf : HookSound P ρ f h) : HooksOk P ρ (mkCtxE P (Tr.set .nil f h) en) :=
  hooksOk_set (t := .nil) (fun _ _ (h : (Tr.nil : Tr (List AV → St → T (AV × St))).get _ = some _) => by cases h) hf rfl
theorem mkCtx_gl (P : Program) : (mkCtx P).gl = 0 := rfl
theorem mkCtxE_gl (P : Program) (hk : Tr (List AV → St → T (AV × St))) (en : Nat) : (mkCtxE P hk en).gl = 0 := rfl
end Ab
