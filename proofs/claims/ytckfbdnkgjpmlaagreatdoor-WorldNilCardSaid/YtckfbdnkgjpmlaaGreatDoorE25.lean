/- E, part 25: a plan's law; the trace of a region by its plan. -/
import Derived.Test.YtckfbdnkgjpmlaaGreatDoorE24
namespace Ab
open Go

variable {P : Program} {cx : Ctx} {ρ : Env}

structure PlanOk (cx : Ctx) (ops : List Oper) (bs : Tr Nat) (l : List Step) : Prop where
  from_ : ∀ (k : Nat) (s : Step), l[k]? = some s → FromOps cx ops s
  dist : ∀ (k k' : Nat) (s s' : Step), l[k]? = some s → l[k']? = some s' → s.i = s'.i → k = k'
  all : ∀ i, i < ops.length → ∃ (k : Nat) (s : Step), l[k]? = some s ∧ s.i = i
  edge : ∀ (i : Nat) (o : Oper) (j : Nat), ops[i]? = some o → bit (bget bs i) j = true → ∃ e ∈ o.after.toList, bindsAny e = true ∧ e.on < i ∧ (e.on = j ∨ bit (bget bs e.on) j = true)
  elt : ∀ (i : Nat) (o : Oper) (e : Edge), ops[i]? = some o → e ∈ o.after.toList → bindsAny e = true → e.on < i
  before : ∀ (k : Nat) (s : Step) (j : Nat), l[k]? = some s → bit (bget bs s.i) j = true → ∃ (k' : Nat) (s' : Step), k' < k ∧ l[k']? = some s' ∧ s'.i = j
  wr : ∀ (k : Nat) (s : Step) (k' : Nat) (s' : Step), l[k]? = some s → 3 ≤ s.c → k' < k → l[k']? = some s' → bit (bget bs s.i) s'.i = true
  out : ∀ (k : Nat) (s : Step), l[k]? = some s → s.c < 3 → countOut (bget bs s.i) (wlAt l [] k) ≤ s.d
  names : ∀ (j : Nat) (o : Oper) (t : Tmp) (i : Nat) (oi : Oper), ops[j]? = some o → t ∈ namesOf ops o → ops[i]? = some oi → oi.dst = some t → i ≠ j ∧ (bit (bget bs j) i = true ∨ bit (bget bs i) j = true)
  dst1 : ∀ (i j : Nat) (oi oj : Oper) (t : Tmp), ops[i]? = some oi → ops[j]? = some oj → oi.dst = some t → oj.dst = some t → i = j

theorem plan_ok {ops : List Oper} {l : List Step} (h : plan cx ops = some l) : ∃ bs, PlanOk cx ops bs l := by
  unfold plan at h
  cases hd : dsts ops 0 .nil with
  | none => rw [hd] at h; cases h
  | some dt =>
    rw [hd] at h
    simp only at h
    cases ho : opsOk ops (masks ops 0 .nil) dt ops 0 with
    | false => rw [ho, cond_false] at h; cases h
    | true =>
      rw [ho, cond_true] at h
      generalize hp : order (masks ops 0 Tr.nil) (steps0 cx ops 0) (writers (steps0 cx ops 0)) (writers (steps0 cx ops 0)) 0 0 = p at h
      cases hk : okPlan (masks ops 0 .nil) (Nat.sub (Nat.pow 2 (llen ops)) 1) p 0 [] with
      | false => rw [hk, cond_false] at h; cases h
      | true =>
        rw [hk, cond_true] at h
        simp at h
        subst h
        refine ⟨masks ops 0 .nil, ?_⟩
        obtain ⟨d1, d2, d3⟩ := dsts_spec ops 0 .nil dt hd
        obtain ⟨m1, m2⟩ := masks_spec ops 0 .nil
        have os := opsOk_spec ho
        obtain ⟨p1, p2⟩ := okPlan_spec hk
        have hst : ∀ s ∈ steps0 cx ops 0, FromOps cx ops s := steps0_from ops 0 (fun k o hk => by rw [Nat.zero_add]; exact hk)
        have hfrom : ∀ k s, p[k]? = some s → FromOps cx ops s := fun k s hs => order_from hst (fun s hs => hst s (writers_sub s hs)) 0 0 s (by rw [hp]; exact List.mem_of_getElem? hs)
        have done0 : ∀ k j, bit (doneAt p 0 k) j = true ↔ ∃ k' s, k' < k ∧ p[k']? = some s ∧ s.i = j := fun k j => by
          rw [bit_doneAt, bit_zero]; simp
        refine ⟨hfrom, fun k k' s s' hs hs' he => ?_, fun i hi => ?_, fun i o j hi hb => ?_, fun i o e hi he hb => by have := edgesOk_spec (os i o hi).1 e he hb; rw [Nat.zero_add] at this; exact this, fun k s j hs hb => (done0 k j).1 ((p1 k s hs).2.1 j hb), fun k s k' s' hs hc hk' hs' => (p1 k s hs).2.2.1 hc _ ((done0 k _).2 ⟨k', s', hk', hs', rfl⟩),
          fun k s hs hc => (p1 k s hs).2.2.2 hc, fun j o t i oi hj ht hi hdst => ?_, fun i j oi oj t hi hj hdi hdj => ?_⟩
        · rcases Nat.lt_trichotomy k k' with hlt | rfl | hlt
          · have := (p1 k' s' hs').1
            rw [(done0 k' s'.i).2 ⟨k, s, hlt, hs, he⟩] at this
            cases this
          · rfl
          · have := (p1 k s hs).1
            rw [(done0 k s.i).2 ⟨k', s', hlt, hs', he.symm⟩] at this
            cases this
        · have : bit (doneAt p 0 p.length) i = true := by
            rw [p2]
            exact bit_full _ _ (by rw [llen_eq]; exact hi)
          obtain ⟨k', s, _, h2, h3⟩ := (done0 _ _).1 this
          exact ⟨k', s, h2, h3⟩
        · obtain ⟨B', hB, hget⟩ := m2 i o hi
          rw [Nat.zero_add] at hget hB
          have hbg : bget (masks ops 0 .nil) i = maskOf B' o.after.toList := by unfold bget; rw [hget]
          rw [hbg] at hb
          obtain ⟨e, he, hbi, hor⟩ := bit_maskOf hb
          have hlt := edgesOk_spec (os i o hi).1 e he hbi
          rw [Nat.zero_add] at hlt
          exact ⟨e, he, hbi, hlt, by rw [bget_congr (hB e.on hlt)] at hor; exact hor⟩
        · have := namesOk_spec (os j o hj).2 t ht i (by have := d2 i oi t hi hdst; rw [Nat.zero_add] at this; exact this)
          rw [Nat.zero_add] at this
          exact this
        · have a1 := d2 i oi t hi hdi
          have a2 := d2 j oj t hj hdj
          rw [a1] at a2
          simp at a2
          exact a2

/-! ## The trace -/
structure StepOk (cx : Ctx) (cf : CallF) (nt : Nat) (ops : List Oper) (ρ : Env) (s : Step) (e : Tr AV) (st : St) (hs : List (Tr AObj)) (v : AV) (b : Bool) (e1 : Tr AV) (st1 : St) (hs1 : List (Tr AObj)) : Prop where
  dst : ∀ t, s.o.dst = some t → t < nt
  want : wantE ops e s.o = some b
  env : e1 = setD e s.o.dst v
  heaps : hs1 = if 3 ≤ s.c then st1.H :: hs else hs
  no : b = false → v = undefA ∧ st1 = st
  read : b = true → s.c = 1 → st1.H = st.H ∧ st1.nx = st.nx ∧ ∀ m, m ≤ s.d → ∃ h, hs[m]? = some h ∧ ∃ fx fx', FxOk ρ fx ∧ (readE cx (opnd cx.gl e) s.o.op h fx).at_ ρ = some (v, fx')
  op : b = true → s.c ≠ 1 → (opE cx cf (opnd cx.gl e) s.c s.o.op st).at_ ρ = some (v, st1)
  fx0 : FxOk ρ st.fx
  fx : FxOk ρ st1.fx
  nx : st.nx ≤ st1.nx

theorem sameAt_spec (ok : cx.Ok P) {g : Operand → Option AV} {op : Op} {v : AV} : ∀ (n : Nat) {hs : List (Tr AObj)} {fx fx' : Facts}, FxOk ρ fx → (sameAt cx g op v n hs fx).at_ ρ = some fx' →
    FxOk ρ fx' ∧ ∀ m, m < n → ∃ h, hs[m]? = some h ∧ ∃ fx1 fx2, FxOk ρ fx1 ∧ (readE cx g op h fx1).at_ ρ = some (v, fx2)
  | 0, hs, fx, fx', hx, h => by
    have h : (T.ret fx).at_ ρ = some fx' := h
    replace h := ret1_at h
    subst h
    exact ⟨hx, fun m hm => by omega⟩
  | n + 1, hs, fx, fx', hx, h => by
    have h : (match (generalizing := false) hs with
      | [] => .bad 314
      | h :: hs => (readE cx g op h fx).bind fun p => T.chk (AV.same p.1 v) 315 (sameAt cx g op v n hs p.2) : T Facts).at_ ρ = some fx' := h
    cases hs with
    | nil => simp [T.at_bad] at h
    | cons h0 hs =>
      simp only at h
      replace h := T.at_bind_some.1 h
      obtain ⟨⟨u, fx1⟩, h1, h⟩ := h
      replace h := chk_at h; obtain ⟨hsame, h⟩ := h
      have hu : u = v := AV.same_eq _ _ hsame
      subst hu
      have hx1 := (readE_sound ok hx h1).1
      obtain ⟨hx2, hr⟩ := sameAt_spec ok n hx1 h
      refine ⟨hx2, fun m hm => ?_⟩
      cases m with
      | zero => exact ⟨h0, rfl, fx, fx1, hx, h1⟩
      | succ m => exact hr m (by omega)

theorem regD_trace (ok : cx.Ok P) {cf : CallF} (hcf : CallSound P ρ cf) {nt : Nat} {ops : List Oper} : ∀ (l : List Step) {e : Tr AV} {st : St} {hs : List (Tr AObj)} {e' : Tr AV} {st' : St}, FxOk ρ st.fx →
    (regD cx cf nt ops l e st hs).at_ ρ = some (e', st') → ∃ (E : Nat → Tr AV) (S : Nat → St) (Hs : Nat → List (Tr AObj)) (V : Nat → AV) (B : Nat → Bool), E 0 = e ∧ S 0 = st ∧ Hs 0 = hs ∧ E l.length = e' ∧ S l.length = st' ∧
      ∀ k s, l[k]? = some s → StepOk cx cf nt ops ρ s (E k) (S k) (Hs k) (V k) (B k) (E (k + 1)) (S (k + 1)) (Hs (k + 1))
  | [], e, st, hs, e', st', hx, h => by
    have h : (T.ret (e, st)).at_ ρ = some (e', st') := h
    replace h := ret_at h; obtain ⟨rfl, rfl⟩ := h
    exact ⟨fun _ => e', fun _ => st', fun _ => hs, fun _ => undefA, fun _ => false, rfl, rfl, rfl, rfl, rfl, by simp⟩
  | s :: l, e, st, hs, e', st', hx, h => by
    have h : (T.opt (wantE ops e s.o) 316 fun w =>
      Bool.rec (putE nt e s.o.dst undefA fun e => bif Nat.ble 3 s.c then regD cx cf nt ops l e st (st.H :: hs) else regD cx cf nt ops l e st hs)
        (match (generalizing := false) s.c with
        | 1 => match (generalizing := false) hs with
          | [] => .bad 317
          | h :: hr => (readE cx (opnd cx.gl e) s.o.op h st.fx).bind fun p => (sameAt cx (opnd cx.gl e) s.o.op p.1 s.d hr p.2).bind fun fx =>
              putE nt e s.o.dst p.1 fun e => regD cx cf nt ops l e ⟨st.H, st.nx, fx⟩ hs
        | c => (opE cx cf (opnd cx.gl e) c s.o.op st).bind fun p => putE nt e s.o.dst p.1 fun e => bif Nat.ble 3 c then regD cx cf nt ops l e p.2 (p.2.H :: hs) else regD cx cf nt ops l e p.2 hs) w : T (Tr AV × St)).at_ ρ = some (e', st') := h
    replace h := T.at_opt_some.1 h; obtain ⟨b, hb, h⟩ := h
    have fin : ∀ {v : AV} {st1 : St} {hs1 : List (Tr AObj)}, StepOk cx cf nt ops ρ s e st hs v b (setD e s.o.dst v) st1 hs1 → (regD cx cf nt ops l (setD e s.o.dst v) st1 hs1).at_ ρ = some (e', st') →
        ∃ (E : Nat → Tr AV) (S : Nat → St) (Hs : Nat → List (Tr AObj)) (V : Nat → AV) (B : Nat → Bool), E 0 = e ∧ S 0 = st ∧ Hs 0 = hs ∧ E (s :: l).length = e' ∧ S (s :: l).length = st' ∧
          ∀ k s', (s :: l)[k]? = some s' → StepOk cx cf nt ops ρ s' (E k) (S k) (Hs k) (V k) (B k) (E (k + 1)) (S (k + 1)) (Hs (k + 1)) := by
      intro v st1 hs1 hso h
      obtain ⟨E, S, Hs, V, B, h1, h2, h3, h4, h5, h6⟩ := regD_trace ok hcf l hso.fx h
      refine ⟨fun k => Nat.casesOn k e E, fun k => Nat.casesOn k st S, fun k => Nat.casesOn k hs Hs, fun k => Nat.casesOn k v V, fun k => Nat.casesOn k b B, rfl, rfl, rfl, h4, h5, fun k s' hk => ?_⟩
      cases k with
      | zero =>
        simp at hk
        subst hk
        show StepOk cx cf nt ops ρ s e st hs v b (E 0) (S 0) (Hs 0)
        rw [h1, h2, h3]
        exact hso
      | succ k => exact h6 k s' (by simpa using hk)
    cases b with
    | false =>
      replace h := putE_at h; obtain ⟨h, hd⟩ := h
      cases hc : Nat.ble 3 s.c with
      | true =>
        rw [hc, cond_true] at h
        exact fin ⟨hd, hb, rfl, by rw [if_pos (Nat.le_of_ble_eq_true hc)], fun _ => ⟨rfl, rfl⟩, fun hh => (by cases hh), fun hh => (by cases hh), hx, hx, Nat.le_refl _⟩ h
      | false =>
        rw [hc, cond_false] at h
        exact fin ⟨hd, hb, rfl, by rw [if_neg (Nat.not_le.2 (ble_false hc))], fun _ => ⟨rfl, rfl⟩, fun hh => (by cases hh), fun hh => (by cases hh), hx, hx, Nat.le_refl _⟩ h
    | true =>
      simp only at h
      split at h
      · rename_i hc1
        cases hs with
        | nil => simp [T.at_bad] at h
        | cons h0 hr =>
          simp only at h
          replace h := T.at_bind_some.1 h
          obtain ⟨⟨v, fx1⟩, h1, h⟩ := h
          replace h := T.at_bind_some.1 h
          obtain ⟨fx2, h2, h⟩ := h
          replace h := putE_at h; obtain ⟨h, hd⟩ := h
          have hx1 := (readE_sound ok hx h1).1
          obtain ⟨hx2, hsame⟩ := sameAt_spec ok s.d hx1 h2
          refine fin (st1 := ⟨st.H, st.nx, fx2⟩) ⟨hd, hb, rfl, by rw [if_neg (by omega)], fun hh => (by cases hh), fun _ _ => ⟨rfl, rfl, fun m hm => ?_⟩, fun _ hne => absurd hc1 hne, hx, hx2, Nat.le_refl _⟩ h
          cases m with
          | zero => exact ⟨h0, rfl, st.fx, fx1, hx, h1⟩
          | succ m => exact hsame m (by omega)
      · rename_i c hc1
        replace h := T.at_bind_some.1 h
        obtain ⟨⟨v, st1⟩, h1, h⟩ := h
        replace h := putE_at h; obtain ⟨h, hd⟩ := h
        have hgr := opE_grows ok hcf hx h1
        cases hc : Nat.ble 3 s.c with
        | true =>
          rw [hc, cond_true] at h
          exact fin ⟨hd, hb, rfl, by rw [if_pos (Nat.le_of_ble_eq_true hc)], fun hh => (by cases hh), fun _ hh => absurd hh hc1, fun _ _ => h1, hx, hgr.1, hgr.2⟩ h
        | false =>
          rw [hc, cond_false] at h
          exact fin ⟨hd, hb, rfl, by rw [if_neg (Nat.not_le.2 (ble_false hc))], fun hh => (by cases hh), fun _ hh => absurd hh hc1, fun _ _ => h1, hx, hgr.1, hgr.2⟩ h
end Ab
