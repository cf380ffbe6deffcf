/- E, part 40: package variables: they lie in their blocks, and a call leaves them as they were. -/
import Derived.Test.YtckfbdnkgjpmlaaGreatDoorE39
namespace Ab
open Go Go.RowKit

noncomputable def mkCtxG (P : Program) (hk : Tr (List AV → St → T (AV × St))) (en gl : Nat) : Ctx := ⟨Tr.ofList P.funcs.toList, mkTT P, gl, hk, en⟩
theorem mkCtxG_ok {P : Program} (h : (mkCtx P).Ok P) (hk : Tr (List AV → St → T (AV × St))) (en gl : Nat) : (mkCtxG P hk en gl).Ok P :=
  ⟨h.fn, h.name, h.info, h.desc, h.zero, h.agg, h.kinds, h.guard, h.mixed⟩

/-- A value without places. -/
noncomputable def AV.flat (v : AV) : Bool := match v with
  | .bool _ => true
  | .int _ _ => true
  | .str _ => true
  | _ => false
theorem conc_flat {v : AV} (h : v.flat = true) (L L' : Nat → Loc) (ρ : Env) : conc L ρ v = conc L' ρ v := by
  cases v <;> first | rfl | cases h
noncomputable def allFlat (l : List AV) : Bool := List.rec (motive := fun _ => Bool) true (fun v _ ih => bif v.flat then ih else false) l
theorem band_true {a b : Bool} (h : (bif a then b else false) = true) : a = true ∧ b = true := by cases a <;> cases b <;> simp_all
theorem allFlat_conc (L L' : Nat → Loc) (ρ : Env) : ∀ {l : List AV}, allFlat l = true → l.map (conc L ρ) = l.map (conc L' ρ)
  | [], _ => rfl
  | v :: l, h => by
    have h : (bif v.flat then allFlat l else false) = true := h
    obtain ⟨h1, h2⟩ := band_true h
    rw [List.map_cons, List.map_cons, conc_flat h1 L L' ρ, allFlat_conc L L' ρ h2]
/-- The same block that is read alone, of flat cells. -/
noncomputable def flatSame (o o' : AObj) : Bool := match o, o' with
  | .ro i cs, .ro i' cs' => bif Nat.beq i i' then (bif sames cs' cs then allFlat cs else false) else false
  | _, _ => false
theorem flatSame_at {o o' : AObj} (h : flatSame o o' = true) {L L' : Nat → Loc} {ρ : Env} {w : World} {l l' : Loc} (hb : l.b = l'.b) (hz : l'.o = 0) (ho : ObjAt L ρ w l o') : ObjAt L' ρ w l' o := by
  unfold flatSame at h
  split at h
  · obtain ⟨h0, h3⟩ := band_true h
    obtain ⟨h1, h2⟩ := band_true h3
    have h1 := sames_eq _ _ h1
    have h0 := Nat.eq_of_beq_eq_true h0
    clear h h3
    subst h1; subst h0
    obtain ⟨a0, a1⟩ := ho
    exact ⟨hz, by rw [← hb, a1, allFlat_conc L L' ρ h2]⟩
  · cases h
theorem flatSame_back {o o' : AObj} (h : flatSame o o' = true) {L L' : Nat → Loc} {ρ : Env} {w : World} {l l' : Loc} (hb : l.b = l'.b) (hz : l'.o = 0) (ho : ObjAt L ρ w l o) : ObjAt L' ρ w l' o' := by
  unfold flatSame at h
  split at h
  · obtain ⟨h0, h3⟩ := band_true h
    obtain ⟨h1, h2⟩ := band_true h3
    have h1 := sames_eq _ _ h1
    have h0 := Nat.eq_of_beq_eq_true h0
    clear h h3
    subst h1; subst h0
    obtain ⟨a0, a1⟩ := ho
    exact ⟨hz, by rw [← hb, a1, allFlat_conc L L' ρ h2]⟩
  · cases h

/-- Some objects are as they were. -/
noncomputable def keepsG (gs : List (Nat × AObj)) (H : Tr AObj) : Bool :=
  List.rec (motive := fun _ => Bool) true (fun p _ ih => match H.get p.1 with
    | some o => bif flatSame p.2 o then ih else false
    | none => false) gs
theorem keepsG_at {H : Tr AObj} : ∀ {gs : List (Nat × AObj)}, keepsG gs H = true → ∀ p ∈ gs, ∃ o, H.get p.1 = some o ∧ flatSame p.2 o = true
  | [], _, p, hp => by cases hp
  | q :: gs, h, p, hp => by
    have h : (match H.get q.1 with
      | some o => bif flatSame q.2 o then keepsG gs H else false
      | none => false) = true := h
    split at h
    · rename_i o ho
      obtain ⟨h1, h2⟩ := band_true h
      rcases List.mem_cons.1 hp with rfl | hp
      · exact ⟨o, ho, h1⟩
      · exact keepsG_at h2 p hp
    · cases h
/-- The heap of some objects. -/
noncomputable def heapG (gs : List (Nat × AObj)) : Tr AObj := List.rec (motive := fun _ => Tr AObj) .nil (fun p _ ih => ih.set p.1 p.2) gs
theorem heapG_get : ∀ {gs : List (Nat × AObj)} {id : Nat} {o : AObj}, (heapG gs).get id = some o → (id, o) ∈ gs
  | [], id, o, h => by cases (h : (Tr.nil : Tr AObj).get id = some o)
  | q :: gs, id, o, h => by
    have h : ((heapG gs).set q.1 q.2).get id = some o := h
    rw [Tr.get_set] at h
    split at h
    · rename_i e
      cases h
      subst e
      exact List.mem_cons_self
    · exact List.mem_cons_of_mem _ (heapG_get h)
/-- A state of which package variables alone are known, and facts. -/
noncomputable def St.glob (gs : List (Nat × AObj)) (gl : Nat) (fx : Facts) : St := ⟨heapG gs, gl, fx⟩
/-- A call, and package variables are as they were. -/
noncomputable def keepT (gs : List (Nat × AObj)) (x : T (AV × St)) : T (AV × St) := x.bind fun p => T.chk (keepsG gs p.2.H) 353 (.ret p)
theorem keepT_at {ρ : Env} {gs : List (Nat × AObj)} {x : T (AV × St)} {p : AV × St} (h : (keepT gs x).at_ ρ = some p) : x.at_ ρ = some p ∧ keepsG gs p.2.H = true := by
  unfold keepT at h
  replace h := T.at_bind_some.1 h; obtain ⟨q, hq, h⟩ := h
  replace h := chk_at h; obtain ⟨h1, h⟩ := h
  have h : some q = some p := h
  cases h
  exact ⟨hq, h1⟩
/-- Package variables' objects, in a world. -/
def GAt (ρ : Env) (gs : List (Nat × AObj)) (w : World) : Prop := ∀ p ∈ gs, ∀ L, ObjAt L ρ w ⟨p.1, 0, 0⟩ p.2
/-- What a call leaves alone: old memory, but for package variables, and these say what they said. -/
structure GBelow (ρ : Env) (gs : List (Nat × AObj)) (w w' : World) : Prop where
  size : w.heap.size ≤ w'.heap.size
  os : w'.os = w.os
  tape : w'.tape = w.tape
  output : w'.output = w.output
  keep : ∀ b, b < w.heap.size → (∀ p ∈ gs, p.1 ≠ b) → w'.heap[b]? = w.heap[b]?
  at_ : GAt ρ gs w'
/-- Package variables' objects hold flat values, so that they are read the same wherever. -/
noncomputable def flatG (gs : List (Nat × AObj)) : Bool := List.rec (motive := fun _ => Bool) true (fun p _ ih => bif flatSame p.2 p.2 then ih else false) gs
theorem flatG_at : ∀ {gs : List (Nat × AObj)}, flatG gs = true → ∀ p ∈ gs, flatSame p.2 p.2 = true
  | [], _, p, hp => by cases hp
  | q :: gs, h, p, hp => by
    have h : (bif flatSame q.2 q.2 then flatG gs else false) = true := h
    obtain ⟨h1, h2⟩ := band_true h
    rcases List.mem_cons.1 hp with rfl | hp
    · exact h1
    · exact flatG_at h2 p hp
theorem sim_glob {gs : List (Nat × AObj)} {ρ : Env} {gl : Nat} (hgl : ρ.gl = gl) (hlt : ∀ p ∈ gs, p.1 < gl) (hf : flatG gs = true) {w : World} (hw : GAt ρ gs w) {L : Nat → Loc} (hp : Pin L ρ) : Sim L ρ (heapG gs) w := by
  refine ⟨fun id o ho => ?_, fun i j oi oj hi hj hb => ?_, hp⟩
  · have hm := heapG_get ho
    have hl := hp id (by rw [hgl]; exact hlt _ hm)
    exact flatSame_at (flatG_at hf _ hm) (L := L) hl.1.symm hl.2 (hw _ hm L)
  · have h1 := (hp i (by rw [hgl]; exact hlt _ (heapG_get hi))).1
    have h2 := (hp j (by rw [hgl]; exact hlt _ (heapG_get hj))).1
    rw [← h1, ← h2, hb]
/-- A call where package variables alone are known. -/
theorem call_glob {P : Program} {cx : Ctx} (ok : cx.Ok P) (ρ : Env) (hgl : cx.gl = ρ.gl) {gs : List (Nat × AObj)} (hlt : ∀ p ∈ gs, p.1 < ρ.gl) (hf : flatG gs = true)
    (hh : HooksOk P ρ cx) {f : FuncId} {args : List AV} {vals : Array Value} {k : Nat} {fx : Facts} (hx : FxOk ρ fx) (hv : ∀ L, Pin L ρ → vals = (args.map (conc L ρ)).toArray)
    {b : Bool} {st' : St} (h : (keepT gs (callN cx k f args (St.glob gs ρ.gl fx))).at_ ρ = some (.bool b, st')) (n : Nat) {w : World} (hw : GAt ρ gs w) :
    CallsIn Fence.wide n P f vals w fun e w' => e = .returned (.bool b) ∧ GBelow ρ gs w w' := by
  obtain ⟨h, hk⟩ := keepT_at h
  obtain ⟨_, _, hc⟩ := callN_sound (ρ := ρ) ok hh (Nat.le_of_eq hgl) k f args (St.glob gs ρ.gl fx) (.bool b) st' hx h
  have pin0 : Pin (fun i => ⟨i, 0, 0⟩) ρ := fun g _ => ⟨rfl, rfl⟩
  have pinA : ∀ L', Agree ρ.gl (fun i => ⟨i, 0, 0⟩) L' → Pin L' ρ := fun L' ha => pin0.agree (Nat.le_refl _) ha
  have hc := hc (fun i => ⟨i, 0, 0⟩) w n vals (fun L' ha => sim_glob rfl hlt hf hw (pinA L' ha)) (fun L' ha => hv L' (pinA L' ha))
  refine CallsIn.mono hc (fun e w' he => ?_)
  obtain ⟨x, rfl, L1, a1, n1, hfr, _, hx⟩ := he
  have a1 : Agree ρ.gl (fun i => ⟨i, 0, 0⟩) L1 := a1
  refine ⟨by rw [(hx L1 (Agree.refl _ _)).1]; rfl, ⟨hfr.size, hfr.os, hfr.tape, hfr.output, fun b hb hn => hfr.keep b hb (fun id o ho => hn _ (heapG_get ho)), fun p hp L => ?_⟩⟩
  obtain ⟨o, ho, hs⟩ := keepsG_at hk p hp
  have h1 := (hx L1 (Agree.refl _ _)).2.at_ p.1 o ho
  have h3 := a1 p.1 (hlt p hp)
  exact flatSame_at hs (l' := ⟨p.1, 0, 0⟩) (by rw [h3]) rfl h1
theorem flatSame_ro {o o' : AObj} (h : flatSame o o' = true) : ∃ i cs, o = .ro i cs := by
  unfold flatSame at h
  split at h
  · exact ⟨_, _, rfl⟩
  · cases h
theorem GBelow.below {ρ : Env} {gs : List (Nat × AObj)} (hf : flatG gs = true) {w w' : World} (hw : GAt ρ gs w) (h : GBelow ρ gs w w') : Below w.heap.size w w' := by
  refine ⟨h.os, h.tape, h.output, h.size, fun b hb => ?_⟩
  by_cases hm : ∃ p ∈ gs, p.1 = b
  · obtain ⟨p, hp, rfl⟩ := hm
    obtain ⟨i, cs, e⟩ := flatSame_ro (flatG_at hf p hp)
    have h1 := hw p hp (fun _ => ⟨0, 0, 0⟩)
    have h2 := h.at_ p hp (fun _ => ⟨0, 0, 0⟩)
    rw [e] at h1 h2
    exact h2.2.trans h1.2.symm
  · exact h.keep b hb fun p hp e => hm ⟨p, hp, e⟩
/-- A LAW THAT ANSWERS TRUE, where package variables are known. -/
theorem law_glob {P : Program} {cx : Ctx} (ok : cx.Ok P) (ρ : Env) (hgl : cx.gl = ρ.gl) {gs : List (Nat × AObj)} (hlt : ∀ p ∈ gs, p.1 < ρ.gl) (hf : flatG gs = true)
    (hh : HooksOk P ρ cx) {f : FuncId} {args : List AV} {vals : Array Value} {k : Nat} {fx : Facts} (hx : FxOk ρ fx) (hv : ∀ L, Pin L ρ → vals = (args.map (conc L ρ)).toArray)
    {l : List Atom} (hl : ¬ ∀ A ∈ l, A.den ρ = false) (h : (summ (keepT gs (callNF cx k f args (St.glob gs ρ.gl fx)))).allBut l [] = true) {w : World} (hw : GAt ρ gs w) :
    Calls P f vals w fun e w' => ∃ v, e = .returned v ∧ v = .bool true ∧ Below w.heap.size w w' := by
  have h := Sum.allBut_at hl (ρ := ρ) (fun _ hp => by cases hp) h
  obtain ⟨st', h⟩ := summ_at _ h
  rw [callNF_eq] at h
  exact callsIn_wide.1 (CallsIn.mono (call_glob ok ρ hgl hlt hf hh hx hv h 0 hw) fun e w' he => ⟨_, he.1, rfl, he.2.below hf hw⟩)
theorem law_globYes {P : Program} {cx : Ctx} (ok : cx.Ok P) (ρ : Env) (hgl : cx.gl = ρ.gl) {gs : List (Nat × AObj)} (hlt : ∀ p ∈ gs, p.1 < ρ.gl) (hf : flatG gs = true)
    (hh : HooksOk P ρ cx) {f : FuncId} {args : List AV} {vals : Array Value} {k : Nat} {fx : Facts} (hx : FxOk ρ fx) (hv : ∀ L, Pin L ρ → vals = (args.map (conc L ρ)).toArray)
    (h : (summ (keepT gs (callNF cx k f args (St.glob gs ρ.gl fx)))).allYes = true) {w : World} (hw : GAt ρ gs w) :
    Calls P f vals w fun e w' => ∃ v, e = .returned v ∧ v = .bool true ∧ Below w.heap.size w w' := by
  have h := Sum.allYes_at (ρ := ρ) h
  obtain ⟨st', h⟩ := summ_at _ h
  rw [callNF_eq] at h
  exact callsIn_wide.1 (CallsIn.mono (call_glob ok ρ hgl hlt hf hh hx hv h 0 hw) fun e w' he => ⟨_, he.1, rfl, he.2.below hf hw⟩)
/-- A FUNCTION WITHOUT PARAMETERS THAT ANSWERS TRUE WHERE PACKAGE VARIABLES ARE SO: its summary. -/
noncomputable def globHook (gs : List (Nat × AObj)) : List AV → St → T (AV × St) := fun args st => match args with
  | [] => T.chk (keepsG gs st.H) 354 (.ret (.bool true, st))
  | _ => .bad 350
theorem globHook_ok {P : Program} {cx : Ctx} (ok : cx.Ok P) {f : FuncId} {k : Nat} (ρ : Env) (hgl : cx.gl = ρ.gl) {gs : List (Nat × AObj)} (hlt : ∀ p ∈ gs, p.1 < ρ.gl) (hf : flatG gs = true)
    (hh : HooksOk P ρ cx) (h : (summ (keepT gs (callNF cx k f [] (St.glob gs ρ.gl [])))).allYes = true) : HookSound P ρ f (globHook gs) := by
  intro args st v st' hx hr
  have h := Sum.allYes_at (ρ := ρ) h
  obtain ⟨st1, h⟩ := summ_at _ h
  rw [callNF_eq] at h
  cases args with
  | cons a l => cases hr
  | nil =>
    replace hr := chk_at (c := keepsG gs st.H) hr
    obtain ⟨hk, hr⟩ := hr
    have hr : some ((AV.bool true, st) : AV × St) = some (v, st') := hr
    simp only [Option.some.injEq, Prod.mk.injEq] at hr
    obtain ⟨rfl, rfl⟩ := hr
    refine ⟨(callN_sound (ρ := ρ) ok hh (Nat.le_of_eq hgl) k f [] (St.glob gs ρ.gl []) (.bool true) st1 (fun p hp => by cases hp) (keepT_at h).1).1, ⟨hx, Nat.le_refl _⟩, fun L w n vals hs hv => ?_⟩
    have hgn := gl_le hs
    have hL := hs L (Agree.refl _ _)
    have hw : GAt ρ gs w := fun p hp L' => by
      obtain ⟨o, ho, hso⟩ := keepsG_at hk p hp
      have h3 := hL.pin p.1 (hlt p hp)
      exact flatSame_at hso (L' := L') (l' := ⟨p.1, 0, 0⟩) h3.1 rfl (hL.at_ p.1 o ho)
    refine CallsIn.mono (call_glob ok ρ hgl hlt hf hh (fun p hp => by cases hp) (fun L' _ => by rw [hv L (Agree.refl _ _)]; rfl) h n hw) (fun e w' he => ?_)
    obtain ⟨rfl, hb⟩ := he
    have lt : ∀ L', Agree st.nx L L' → ∀ id o, st.H.get id = some o → (L' id).b < w.heap.size := fun L' ha id o ho => by
      obtain ⟨y, hy⟩ := ((hs L' ha).at_ id o ho).block
      exact lt_of_some hy
    refine ⟨_, rfl, L, Agree.refl _ _, Nat.le_refl _, ⟨hb.size, hb.os, hb.tape, hb.output, fun b hb' hn => hb.keep b hb' (fun p hp e => ?_), fun b _ hn => hn⟩, hx, fun L' ha => ⟨rfl, ⟨fun id o ho => ?_, (hs L' ha).inj, (hs L' ha).pin⟩⟩⟩
    · obtain ⟨o, ho, _⟩ := keepsG_at hk p hp
      exact hn p.1 o ho (by rw [(hL.pin p.1 (hlt p hp)).1, e])
    · have hL' := hs L' ha
      by_cases hm : ∃ p ∈ gs, p.1 = id
      · obtain ⟨p, hp, rfl⟩ := hm
        obtain ⟨o', ho', hso⟩ := keepsG_at hk p hp
        rw [ho] at ho'
        cases ho'
        have h3 := hL'.pin p.1 (hlt p hp)
        exact flatSame_back hso (L := L') (l := ⟨p.1, 0, 0⟩) h3.1.symm h3.2 (hb.at_ p hp L')
      · refine (hL'.at_ id o ho).keep (hb.keep _ (lt L' ha id o ho) fun p hp e => hm ⟨p, hp, ?_⟩)
        obtain ⟨o', ho', _⟩ := keepsG_at hk p hp
        exact hL'.inj p.1 id o' o ho' ho (by rw [(hL'.pin p.1 (hlt p hp)).1, e])
end Ab
