/- E, part 37: code that ranges over maps in whatever order: all orders are run, and where they come to the same it is said once. -/
import Derived.Test.YtckfbdnkgjpmlaaGreatDoorE36
import Derived.Maps.RangeRun
namespace Ab
open Go Go.RowKit

variable {P : Program} {cx : Ctx} {ρ : Env}

/-! ## Trees with ways that nobody can foresee -/
inductive W (α : Type) where
  | bad (code : Nat)
  | ret (a : α)
  | split (c : Atom) (t f : W α)
  | both (t f : W α)

namespace W
variable {α β : Type}
noncomputable def bind (t : W α) (f : α → W β) : W β :=
  W.rec (motive := fun _ => W β) (fun c => .bad c) (fun a => f a) (fun c _ _ x y => .split c x y) (fun _ _ x y => .both x y) t
/-- At each end that the symbols allow. -/
def wp (ρ : Env) : W α → (α → Prop) → Prop
  | .bad _, _ => False
  | .ret a, Q => Q a
  | .split c t f, Q => if c.den ρ then t.wp ρ Q else f.wp ρ Q
  | .both t f, Q => t.wp ρ Q ∧ f.wp ρ Q
noncomputable def ofT (t : T α) : W α := T.rec (motive := fun _ => W α) (fun c => .bad c) (fun a => .ret a) (fun c _ _ x y => .split c x y) t
noncomputable def opt (o : Option α) (code : Nat) (f : α → W β) : W β := Option.rec (motive := fun _ => W β) (.bad code) f o
noncomputable def chk (b : Bool) (code : Nat) (x : W β) : W β := Bool.rec (motive := fun _ => W β) (.bad code) x b

theorem wp_bind {t : W α} {f : α → W β} {Q : β → Prop} : (bind t f).wp ρ Q ↔ t.wp ρ fun a => (f a).wp ρ Q := by
  induction t with
  | bad c => exact Iff.rfl
  | ret a => exact Iff.rfl
  | split c x y ihx ihy =>
    show (if c.den ρ then (bind x f).wp ρ Q else (bind y f).wp ρ Q) ↔ (if c.den ρ then x.wp ρ _ else y.wp ρ _)
    split
    · exact ihx
    · exact ihy
  | both x y ihx ihy =>
    show ((bind x f).wp ρ Q ∧ (bind y f).wp ρ Q) ↔ (x.wp ρ _ ∧ y.wp ρ _)
    rw [ihx, ihy]
theorem wp_mono {t : W α} {Q R : α → Prop} (h : t.wp ρ Q) (hQ : ∀ a, Q a → R a) : t.wp ρ R := by
  induction t with
  | bad c => exact h
  | ret a => exact hQ a h
  | split c x y ihx ihy =>
    have h : (if c.den ρ then x.wp ρ Q else y.wp ρ Q) := h
    show (if c.den ρ then x.wp ρ R else y.wp ρ R)
    split <;> rename_i hc
    · rw [if_pos hc] at h; exact ihx h
    · rw [if_neg hc] at h; exact ihy h
  | both x y ihx ihy => exact ⟨ihx h.1, ihy h.2⟩
theorem wp_ofT {t : T α} {Q : α → Prop} : (ofT t).wp ρ Q → ∃ a, t.at_ ρ = some a ∧ Q a := by
  induction t with
  | bad c => intro h; exact h.elim
  | ret a => intro h; exact ⟨a, rfl, h⟩
  | split c x y ihx ihy =>
    intro h
    have h : (if c.den ρ then (ofT x).wp ρ Q else (ofT y).wp ρ Q) := h
    rw [T.at_split]
    split <;> rename_i hc
    · rw [if_pos hc] at h; exact ihx h
    · rw [if_neg hc] at h; exact ihy h
theorem wp_opt {o : Option α} {code : Nat} {f : α → W β} {Q : β → Prop} : (opt o code f).wp ρ Q → ∃ a, o = some a ∧ (f a).wp ρ Q := by
  cases o with
  | none => intro h; exact h.elim
  | some a => intro h; exact ⟨a, rfl, h⟩
theorem wp_chk {b : Bool} {code : Nat} {x : W β} {Q : β → Prop} : (chk b code x).wp ρ Q → b = true ∧ x.wp ρ Q := by
  cases b with
  | false => intro h; exact h.elim
  | true => intro h; exact ⟨rfl, h⟩
noncomputable def anyOf (f : β → W α) (l : List β) : W α := List.rec (motive := fun _ => W α) (.bad 380) (fun x t ih => List.rec (motive := fun _ => W α) (f x) (fun _ _ _ => .both (f x) ih) t) l
theorem wp_anyOf {f : β → W α} {Q : α → Prop} : ∀ {l : List β}, (anyOf f l).wp ρ Q → ∀ x ∈ l, (f x).wp ρ Q
  | [], _, x, hx => by cases hx
  | [y], h, x, hx => by rw [List.mem_singleton.1 hx]; exact h
  | y :: z :: l, h, x, hx => by
    have h : (f y).wp ρ Q ∧ (anyOf f (z :: l)).wp ρ Q := h
    rcases List.mem_cons.1 hx with rfl | hx
    · exact h.1
    · exact wp_anyOf h.2 x hx
end W

/-! ## The next entry, whichever -/
noncomputable def nextW (st : St) (it : AV) : W (AV × St) :=
  match it with
  | .ptr id 0 => W.chk (Nat.ble (Nat.succ id) st.nx) 29 <| W.opt (st.H.get id) 221 fun o => match o with
    | .iter none _ _ _ => .ret (.tuple [.bool false], st)
    | .iter (some m) since seen last => W.opt (st.H.get m) 12 fun o => (match o with
      | .map es ck => W.chk (allBelow since (lmap (fun e => e.2.2) es)) 223 (W.chk (Nat.ble since last) 222 (match leftE seen es with
        | [] => .ret (.tuple [.bool false], st)
        | e :: l => W.anyOf (fun e => W.ret (.tuple [.bool true, e.1, e.2.1], st.put id (.iter (some m) since (lapp seen [e.2.2]) ck))) (e :: l)))
      | _ => .bad 13)
    | _ => .bad 225
  | _ => .bad 226

/-- The entry of the round. -/
noncomputable def entryW (st : St) (it : AV) : W (AV × St) :=
  match it with
  | .ptr id 0 => W.chk (Nat.ble (Nat.succ id) st.nx) 29 <| W.opt (st.H.get id) 221 fun o => match o with
    | .iter (some m) _ seen last => W.opt (lastN seen) 228 fun s => W.opt (st.H.get m) 12 fun o => (match o with
      | .map es ck => W.chk (Nat.beq ck last) 229 (W.opt (findB s es) 230 fun e => .ret (.tuple [e.1, e.2.1], st))
      | _ => .bad 13)
    | _ => .bad 225
  | _ => .bad 226

/-! ## Regions, code, calls -/
noncomputable def putW (nt : Nat) (e : Tr AV) (d : Option Tmp) (v : AV) (f : Tr AV → W (Tr AV × St)) : W (Tr AV × St) :=
  match d with
  | none => f e
  | some d => W.chk (Nat.ble (Nat.succ d) nt) 310 (f (e.set d v))
noncomputable def opW (cx : Ctx) (cf : CallF) (e : Tr AV) (op : Op) (st : St) : W (AV × St) :=
  match op with
  | .next it false => W.opt (opnd cx.gl e it) 100 fun v => nextW st v
  | .entry it => W.opt (opnd cx.gl e it) 100 fun v => entryW st v
  | op => W.ofT (opE cx cf (opnd cx.gl e) (cls cx op) op st)
noncomputable def regW (cx : Ctx) (cf : CallF) (nt : Nat) (ops : List Oper) (l : List Oper) : Tr AV → St → W (Tr AV × St) :=
  List.rec (motive := fun _ => Tr AV → St → W (Tr AV × St)) (fun e st => .ret (e, st))
    (fun o _ ih e st => W.opt (wantE ops e o) 313 fun w =>
      Bool.rec (putW nt e o.dst undefA fun e => ih e st)
        ((opW cx cf e o.op st).bind fun p => putW nt e o.dst p.1 fun e => ih e p.2) w) l
structure ResW where
  x : Ex
  e : Tr AV
  st : St
abbrev CodeW := Code → Nat → Tr AV → St → W ResW
noncomputable def codeW (cx : Ctx) (cf : CallF) (ih : CodeW) : CodeW := fun c nt e st =>
  match c with
  | .skip => .ret ⟨.normal, e, st⟩
  | .region _ ops draw =>
    (bif draw then W.opt (plan cx ops.toList) 330 fun p => W.ofT (regD cx cf nt ops.toList p e st [st.H])
      else regW cx cf nt ops.toList ops.toList e st).bind fun p => .ret ⟨.normal, p.1, p.2⟩
  | .seq a b => (ih a nt e st).bind fun r => match r.x with
    | .normal => ih b nt r.e r.st
    | _ => .ret r
  | .cond c a b => W.opt (opnd cx.gl e c) 331 fun v => match v with
    | .bool true => ih a nt e st
    | .bool false => ih b nt e st
    | _ => .bad 332
  | .block id c => (ih c nt e st).bind fun r => match r.x with
    | .exit j => bif Nat.beq j id then .ret ⟨.normal, r.e, r.st⟩ else .ret r
    | _ => .ret r
  | .loop c => (ih c nt e st).bind fun r => match r.x with
    | .normal => ih (.loop c) nt r.e r.st
    | _ => .ret r
  | .exit id => .ret ⟨.exit id, e, st⟩
  | .label _ => .ret ⟨.normal, e, st⟩
  | .ret => .ret ⟨.ret, e, st⟩
  | _ => .bad 333
noncomputable def execW (cx : Ctx) (cf : CallF) (n : Nat) : CodeW :=
  Nat.rec (motive := fun _ => CodeW) (fun _ _ _ _ => .bad 340) (fun _ ih => codeW cx cf ih) n
noncomputable def callW (cx : Ctx) (cf : CallF) (n : Nat) (f : FuncId) (args : List AV) (st : St) : W (AV × St) :=
  W.opt (cx.ft.get f) 322 fun fn => W.opt fn.body 323 fun code =>
    (execW cx cf n code (Nat.add (llen args) (Nat.sub fn.ntmps (llen args))) (Tr.ofList args) st).bind fun r => match r.x with
      | .exit _ => .bad 324
      | _ => (W.ofT (resE cx r.e r.st.H fn.results.toList)).bind fun vs => .ret (oneOrTuple vs, r.st)

/-! ## Soundness -/
theorem nextW_sound {st : St} {xv : AV} {R : AV × St → Prop} (hx : FxOk ρ st.fx) (h : (nextW st xv).wp ρ R) {L : Nat → Loc} {w : World}
    (hs : ∀ L', Agree st.nx L L' → Sim L' ρ st.H w) {x : Value} (h1 : ∀ L', Agree st.nx L L' → x = conc L' ρ xv) (ty : TypeId) :
    ∃ y w' v st', R (v, st') ∧ (Instr.next x false ty).run P w = .ok y w' ∧ Turns ρ L st w v st' y w' := by
  unfold nextW at h
  split at h
  case h_2 => exact h.elim
  rename_i id
  replace h := W.wp_chk h; obtain ⟨hid, h⟩ := h
  have hid := Nat.le_of_ble_eq_true hid
  replace h := W.wp_opt h; obtain ⟨o, ho, h⟩ := h
  have e1 := h1 L (Agree.refl _ _)
  split at h
  case h_3 => exact h.elim
  case h_1 =>
    obtain ⟨h0, sn, hh, _⟩ := (hs L (Agree.refl _ _)).at_ id _ ho
    have hgo := run_getObj (P := P) hh rfl
    refine ⟨.tuple #[.bool false], w, _, _, h, ?_, Turns.same hs (fun L' ha => rfl) hx rfl rfl rfl rfl⟩
    rw [e1]
    simp only [conc, h0]
    simp [Instr.next, hgo]
  rename_i m since seen last
  replace h := W.wp_opt h; obtain ⟨o2, hm, h⟩ := h
  split at h
  case h_2 => exact h.elim
  rename_i es ck
  replace h := W.wp_chk h; obtain ⟨hbl, h⟩ := h
  replace h := W.wp_chk h; obtain ⟨hsl, h⟩ := h
  have hsl := Nat.le_of_ble_eq_true hsl
  have hbl := allBelow_iff _ hbl
  rw [lmap_eq] at hbl
  obtain ⟨h0, sn, hh, hsn⟩ := (hs L (Agree.refl _ _)).at_ id _ ho
  subst hsn
  have hmap := (hs L (Agree.refl _ _)).map hm
  have hmb : ∀ L', Agree st.nx L L' → (L' m).b = (L m).b := fun L' ha => by
    obtain ⟨_, sn', hh', _⟩ := (hs L' ha).at_ id _ ho
    rw [ha id hid, hh] at hh'
    simp at hh'
    exact hh'.1.symm
  have concE_eq : ∀ L', Agree st.nx L L' → es.map (concE L' ρ) = es.map (concE L ρ) := fun L' ha => by
    have a1 := (hs L' ha).map hm
    rw [hmb L' ha, hmap] at a1
    simp only [Option.some.injEq, Obj.map.injEq, and_true] at a1
    exact (List.toArray_inj a1).symm
  have hold : ∀ x ∈ (es.map (concE L ρ)).toArray.toList, x.born < since := by
    intro x hx'
    obtain ⟨e, he, rfl⟩ := List.mem_map.1 (show x ∈ es.map (concE L ρ) from hx')
    exact hbl e.2.2 (List.mem_map_of_mem he)
  have hleft : (leftOf (es.map (concE L ρ)).toArray seen.toArray).toList = (leftE seen es).map (concE L ρ) := by
    rw [leftE_eq]
    unfold leftOf
    simp only [Array.toList_filter, List.filter_map]
    simp [Function.comp_def, concE]
    rfl
  have xe : x = .pointer (some ⟨(L id).b, 0, none⟩) := by rw [e1]; simp only [conc, h0]
  rcases run_next_at (P := P) w ty (L id).b (L m).b since last seen.toArray _ ck hh hmap hold hsl with ⟨hz, hrun⟩ | ⟨e, he, w1, hw1, hrun⟩
  · have hl0 : leftE seen es = [] := by
      have : (leftOf (es.map (concE L ρ)).toArray seen.toArray).toList = [] := by
        rw [← List.length_eq_zero_iff]; simpa using hz
      rw [hleft] at this
      exact List.map_eq_nil_iff.1 this
    rw [hl0] at h
    exact ⟨.tuple #[.bool false], w, _, _, h, by rw [xe]; exact hrun, Turns.same hs (fun L' ha => rfl) hx rfl rfl rfl rfl⟩
  · rw [hleft] at he
    obtain ⟨e', he', rfl⟩ := List.mem_map.1 he
    have hmem : e' ∈ es := by
      rw [leftE_eq] at he'
      exact (List.mem_filter.1 he').1
    have h' : R (.tuple [.bool true, e'.1, e'.2.1], st.put id (.iter (some m) since (lapp seen [e'.2.2]) ck)) := by
      cases hl : leftE seen es with
      | nil => rw [hl] at he'; cases he'
      | cons y l =>
        rw [hl] at h he'
        exact W.wp_anyOf h e' he'
    have hw1h : w1.heap = w.heap ∧ w1.os = w.os ∧ w1.tape = w.tape ∧ w1.output = w.output := by rcases hw1 with rfl | rfl <;> exact ⟨rfl, rfl, rfl, rfl⟩
    have hh1 : w1.heap[(L id).b]? = some (.mapIter (some (L m).b) since seen.toArray last) := by rw [hw1h.1]; exact hh
    have hp : WPut w (L id).b (.mapIter (some (L m).b) since (seen.toArray.push e'.2.2) ck) (Go.ChangeMaps.setBlock w1 (L id).b (.mapIter (some (L m).b) since (seen.toArray.push e'.2.2) ck)) := by
      have hp1 := WPut.set (o' := .mapIter (some (L m).b) since (seen.toArray.push e'.2.2) ck) hh1
      exact ⟨hp1.size.trans (by rw [hw1h.1]), hp1.at_, fun k hk => (hp1.other k hk).trans (by rw [hw1h.1]), hp1.os.trans hw1h.2.1, hp1.tape.trans hw1h.2.2.1, hp1.output.trans hw1h.2.2.2⟩
    refine ⟨.tuple #[.bool true, conc L ρ e'.1, conc L ρ e'.2.1], _, _, _, h', by rw [xe]; exact hrun, Turns.put hs hx ho (fun L' ha => by rw [ha id hid]) hp (fun L' ha => ?_) (fun L' ha => ?_)⟩
    · have hee := List.map_inj_left.1 (concE_eq L' ha) e' hmem
      simp only [concE, MapEntry.mk.injEq] at hee
      simp [conc, concs, hee.1, hee.2.1]
    · rw [ha id hid]
      refine ⟨h0, _, hp.at_.trans ?_, rfl⟩
      simp [lapp_eq, hmb L' ha]
theorem entryW_sound {st : St} {xv : AV} {R : AV × St → Prop} (hx : FxOk ρ st.fx) (h : (entryW st xv).wp ρ R) {L : Nat → Loc} {w : World}
    (hs : ∀ L', Agree st.nx L L' → Sim L' ρ st.H w) {x : Value} (h1 : ∀ L', Agree st.nx L L' → x = conc L' ρ xv) :
    ∃ y v st', R (v, st') ∧ (Instr.entry x).run P w = .ok y w ∧ Turns ρ L st w v st' y w := by
  unfold entryW at h
  split at h
  case h_2 => exact h.elim
  rename_i id
  replace h := W.wp_chk h; obtain ⟨hid, h⟩ := h
  have hid := Nat.le_of_ble_eq_true hid
  replace h := W.wp_opt h; obtain ⟨o, ho, h⟩ := h
  have e1 := h1 L (Agree.refl _ _)
  split at h
  case h_2 => exact h.elim
  rename_i m since seen last
  replace h := W.wp_opt h; obtain ⟨s, hls, h⟩ := h
  replace h := W.wp_opt h; obtain ⟨o2, hm, h⟩ := h
  split at h
  case h_2 => exact h.elim
  rename_i es ck
  replace h := W.wp_chk h; obtain ⟨hck, h⟩ := h
  have hck := Nat.eq_of_beq_eq_true hck
  subst hck
  replace h := W.wp_opt h; obtain ⟨e, he, h⟩ := h
  obtain ⟨h0, sn, hh, hsn⟩ := (hs L (Agree.refl _ _)).at_ id _ ho
  subst hsn
  have hmap := (hs L (Agree.refl _ _)).map hm
  have hmb : ∀ L', Agree st.nx L L' → (L' m).b = (L m).b := fun L' ha => by
    obtain ⟨_, sn', hh', _⟩ := (hs L' ha).at_ id _ ho
    rw [ha id hid, hh] at hh'
    simp at hh'
    exact hh'.1.symm
  have concE_eq : ∀ L', Agree st.nx L L' → es.map (concE L' ρ) = es.map (concE L ρ) := fun L' ha => by
    have a1 := (hs L' ha).map hm
    rw [hmb L' ha, hmap] at a1
    simp only [Option.some.injEq, Obj.map.injEq, and_true] at a1
    exact (List.toArray_inj a1).symm
  have hf : (es.map (concE L ρ)).toArray.find? (fun e => e.born == s) = some (concE L ρ e) := by
    rw [← Array.find?_toList]
    show (es.map (concE L ρ)).find? _ = _
    rw [findB_eq, he]; rfl
  refine ⟨.tuple #[conc L ρ e.1, conc L ρ e.2.1], _, _, h, ?_, Turns.same hs (fun L' ha => ?_) hx rfl rfl rfl rfl⟩
  · rw [e1]
    simp only [conc, h0]
    have hb := lastN_eq seen
    rw [hls] at hb
    have hmap' : w.heap[(L m).b]? = some (.map (es.map (concE L ρ)).toArray ck) := hmap
    simp only [Instr.entry, getObj, Sem.run_bind, Sem.run, hh, Result.andThen, Option.map_some, ← hb, hmap', bne_self_eq_false, Bool.false_eq_true, if_false, hf]
    rfl
  · have hee := List.map_inj_left.1 (concE_eq L' ha) e (findB_mem he)
    simp only [concE, MapEntry.mk.injEq] at hee
    simp [conc, concs, hee.1, hee.2.1]
end Ab
