/- E, part 10: all the operations that look at no memory together. -/
import Derived.Test.YtckfbdnkgjpmlaaGreatDoorE9
namespace Ab
open Go

variable {P : Program} {cx : Ctx} {ρ : Env}

theorem lopt_some {α β : Type} {f : α → Option β} : ∀ {l : List α} {r : List β}, lopt f l = some r → r.length = l.length ∧ ∀ (i : Nat) (x : α), l[i]? = some x → ∃ y, f x = some y ∧ r[i]? = some y
  | [], r, h => by
    rw [lopt_nil] at h
    simp at h
    subst h
    simp
  | x :: l, r, h => by
    rw [lopt_cons] at h
    obtain ⟨y, ys, h1, h2, rfl⟩ := h
    obtain ⟨h3, h4⟩ := lopt_some h2
    refine ⟨by simp [h3], fun i z hz => ?_⟩
    cases i with
    | zero => simp at hz; subst hz; exact ⟨y, h1, rfl⟩
    | succ i => simp at hz; simpa using h4 i z hz
theorem lopt_map {α β γ : Type} {f : α → Option β} (k : β → γ) (k' : α → γ) (hk : ∀ x y, f x = some y → k y = k' x) : ∀ {l : List α} {r : List β}, lopt f l = some r → r.map k = l.map k'
  | [], r, h => by
    rw [lopt_nil] at h
    simp at h
    subst h
    rfl
  | x :: l, r, h => by
    rw [lopt_cons] at h
    obtain ⟨y, ys, h1, h2, rfl⟩ := h
    simp [hk _ _ h1, lopt_map k k' hk h2]
theorem partsE_map {g : Operand → Option AV} {a : Operand → Value} {L : Nat → Loc} (hg : GRel L ρ g a) {ps : List (Nat × Operand)} {l : List (Nat × AV)} (h : partsE g ps = some l) :
    l.map (fun p => (p.1, conc L ρ p.2)) = ps.map fun p => (p.1, a p.2) := by
  refine lopt_map _ _ ?_ h
  intro x y hxy
  cases hx : g x.2 with
  | none => rw [hx] at hxy; cases hxy
  | some v =>
    rw [hx] at hxy
    have hxy : some (x.1, v) = some y := hxy
    simp at hxy
    subst hxy
    simp [hg _ _ hx]
theorem argsE_map {g : Operand → Option AV} {a : Operand → Value} {L : Nat → Loc} (hg : GRel L ρ g a) {xs : List Operand} {l : List AV} (h : lopt g xs = some l) : l.map (conc L ρ) = xs.map a :=
  lopt_map _ _ (fun x y hxy => (hg x y hxy).symm) h

theorem run_places (ok : cx.Ok P) : ∀ (fs : List Field) (pl : List (Nat × Nat)) (w : World), fieldPlaces cx fs = some pl →
    (fs.mapM (fun f => do pure (f.offset, ← Go.sizeOf f.type) : Field → Sem (Nat × Nat))).run P w = .ok pl w
  | [], pl, w, h => by
    unfold fieldPlaces at h
    rw [lopt_nil] at h
    simp at h
    subst h
    rfl
  | f :: fs, pl, w, h => by
    unfold fieldPlaces at h
    rw [lopt_cons] at h
    obtain ⟨y, ys, h1, h2, rfl⟩ := h
    cases ht : cx.tt.get f.type with
    | none => rw [ht] at h1; cases h1
    | some ti =>
      rw [ht] at h1
      have h1 : some (f.offset, ti.info.size) = some y := h1
      simp at h1
      subst h1
      have ih := run_places ok fs ys w h2
      rw [List.mapM_cons]
      simp only [Sem.run_bind, ok.run_size ht, Result.andThen_ok, Sem.run_pure, ih]
theorem buildE_sound (ok : cx.Ok P) {t : TypeId} {parts : List (Nat × AV)} {v : AV} {fx fx' : Facts} (h : (buildE cx t parts fx).at_ ρ = some (v, fx')) :
    fx' = fx ∧ ∀ (L : Nat → Loc) (w : World) (ps : Array (Nat × Value)), ps.toList = parts.map (fun p => (p.1, conc L ρ p.2)) → (Instr.build t ps).run P w = .ok (conc L ρ v) w := by
  unfold buildE at h
  replace h := tyE_at.1 h
  obtain ⟨ti, ht, h⟩ := h
  have hd := ok.desc _ _ ht
  replace h := T.at_opt_some.1 h
  obtain ⟨z, hz, h⟩ := h
  split at h
  · rename_i fs hdd
    rw [hdd] at hd
    replace h := T.at_opt_some.1 h
    obtain ⟨pl, hpl, h⟩ := h
    replace h := T.at_opt_some.1 h
    obtain ⟨cs, hcs, h⟩ := h
    replace h := ret_at h
    obtain ⟨rfl, rfl⟩ := h
    refine ⟨rfl, fun L w ps hps => ?_⟩
    have hm : (fs.mapM (fun f => do pure (f.offset, ← Go.sizeOf f.type) : Field → Sem (Nat × Nat))).run P w = .ok pl.toArray w := by
      have := run_places ok fs.toList pl w hpl
      rw [Array.mapM_eq_mapM_toList]
      simp only [Sem.run_map, this, Result.andThen_ok]
    have hf := overlay_fill (ρ := ρ) L parts z.cells cs hcs
    have e : (fun i => pl.toArray[i]?) = fun i => lget pl i := by funext i; rw [lget_eq]; simp
    unfold Instr.build
    simp only [Sem.run_bind, ok.run_zero (ρ := ρ) ht hz L, Result.andThen_ok, run_underlying hd, hm, conc_cells, hps, e, hf, Sem.run_pure, conc_agg]
  · rename_i n el hdd
    rw [hdd] at hd
    replace h := tyE_at.1 h
    obtain ⟨ei, hei, h⟩ := h
    replace h := T.at_opt_some.1 h
    obtain ⟨cs, hcs, h⟩ := h
    replace h := ret_at h
    obtain ⟨rfl, rfl⟩ := h
    refine ⟨rfl, fun L w ps hps => ?_⟩
    have hf := overlay_fill (ρ := ρ) L parts z.cells cs hcs
    unfold Instr.build
    simp only [Sem.run_bind, ok.run_zero (ρ := ρ) ht hz L, Result.andThen_ok, run_underlying hd, ok.run_size hei, conc_cells, hps]
    have e : (fun i => some (i * ei.info.size, ei.info.size)) = fun i => some (Nat.mul i ei.info.size, ei.info.size) := rfl
    rw [e, hf]
    simp only [Sem.run_pure, conc_agg]
  · simp [T.at_bad] at h

theorem ifaceE_sound (ok : cx.Ok P) {t : TypeId} {x v : AV} {fx fx' : Facts} (h : (ifaceE cx t x fx).at_ ρ = some (v, fx')) :
    fx' = fx ∧ ∀ (L : Nat → Loc) (w : World), (Instr.makeInterface t (conc L ρ x)).run P w = .ok (conc L ρ v) w := by
  unfold ifaceE at h
  replace h := tyE_at.1 h
  obtain ⟨ti, ht, h⟩ := h
  have hd := ok.desc _ _ ht
  split at h
  · simp [T.at_bad] at h
  · rename_i hne
    replace h := ret_at h
    obtain ⟨rfl, rfl⟩ := h
    refine ⟨rfl, fun L w => ?_⟩
    unfold Instr.makeInterface
    simp only [Sem.run_bind, run_underlying hd, Result.andThen_ok]
    simp only [conc]
    rfl

theorem assertE_sound (ok : cx.Ok P) {t xt : TypeId} {x v : AV} {okb : Bool} {fx fx' : Facts} (h : (assertE cx x t okb fx).at_ ρ = some (v, fx')) :
    fx' = fx ∧ ∀ (L : Nat → Loc) (w : World), (Instr.typeAssert (conc L ρ x) xt t okb).run P w = .ok (conc L ρ v) w := by
  unfold assertE at h
  replace h := tyE_at.1 h
  obtain ⟨ti, ht, h⟩ := h
  have hd := ok.desc _ _ ht
  split at h
  · simp [T.at_bad] at h
  rename_i hne
  have und : ∀ w, (underlying t).run P w = .ok ti.desc w := fun w => run_underlying hd w
  have nf : ∀ ms, ti.desc ≠ .interface ms := hne
  split at h
  · rename_i u y
    cases hb : Nat.beq u t with
    | true =>
      have := Nat.eq_of_beq_eq_true hb
      subst this
      rw [hb, cond_true] at h
      replace h := ret_at h
      obtain ⟨rfl, rfl⟩ := h
      refine ⟨rfl, fun L w => ?_⟩
      simp only [conc, Instr.typeAssert, Sem.run_bind, und, Result.andThen_ok]
      cases hdd : ti.desc <;> first
        | (exact absurd hdd (nf _))
        | (cases okb <;> simp [conc, concs])
    | false =>
      have hn := Nat.ne_of_beq_eq_false hb
      rw [hb, cond_false] at h
      cases okb with
      | false => simp [T.at_bad] at h
      | true =>
        rw [cond_true] at h
        replace h := T.at_opt_some.1 h
        obtain ⟨z, hz, h⟩ := h
        replace h := ret_at h
        obtain ⟨rfl, rfl⟩ := h
        refine ⟨rfl, fun L w => ?_⟩
        have hz := ok.run_zero (ρ := ρ) ht hz L w
        simp only [conc, Instr.typeAssert, Sem.run_bind, und, Result.andThen_ok]
        cases hdd : ti.desc <;> first
          | (exact absurd hdd (nf _))
          | (simp [hn, hz, concs, conc])
  · cases okb with
    | false => simp [T.at_bad] at h
    | true =>
      rw [cond_true] at h
      replace h := T.at_opt_some.1 h
      obtain ⟨z, hz, h⟩ := h
      replace h := ret_at h
      obtain ⟨rfl, rfl⟩ := h
      refine ⟨rfl, fun L w => ?_⟩
      have hz := ok.run_zero (ρ := ρ) ht hz L w
      simp only [conc, Instr.typeAssert, Sem.run_bind, und, Result.andThen_ok]
      cases hdd : ti.desc <;> first
        | (exact absurd hdd (nf _))
        | (simp [hz, concs, conc])
  · simp [T.at_bad] at h

theorem convE_sound (ok : cx.Ok P) {s d : TypeId} {x v : AV} {fx fx' : Facts} (h : (convE cx s d x fx).at_ ρ = some (v, fx')) :
    fx' = fx ∧ ∀ (L : Nat → Loc) (w : World), (convert s d (conc L ρ x)).run P w = .ok (conc L ρ v) w := by
  unfold convE at h
  replace h := tyE_at.1 h
  obtain ⟨si, hs, h⟩ := h
  replace h := tyE_at.1 h
  obtain ⟨di, hdi, h⟩ := h
  have h1 := ok.desc _ _ hs
  have h2 := ok.desc _ _ hdi
  split at h
  · rename_i e1 e2
    rw [e1] at h1
    rw [e2] at h2
    replace h := ret_at h
    obtain ⟨rfl, rfl⟩ := h
    refine ⟨rfl, fun L w => ?_⟩
    simp only [conc, convert, Sem.run_bind, run_underlying h1, run_underlying h2, Result.andThen_ok, convTm_den]
    rfl
  · rename_i e1 e2
    rw [e1] at h1
    rw [e2] at h2
    replace h := ret_at h
    obtain ⟨rfl, rfl⟩ := h
    refine ⟨rfl, fun L w => ?_⟩
    simp only [conc, convert, Sem.run_bind, run_underlying h1, run_underlying h2, Result.andThen_ok]
    rfl
  · simp [T.at_bad] at h

theorem minmax_sound {m : Bool} {x y v : AV} {fx fx' : Facts} (hx : FxOk ρ fx) (h : (minmax m x y fx).at_ ρ = some (v, fx')) :
    FxOk ρ fx' ∧ ∀ (L : Nat → Loc), (if m then Builtin.max2 (conc L ρ x) (conc L ρ y) else Builtin.min2 (conc L ρ x) (conc L ρ y)) = pure (conc L ρ v) := by
  unfold minmax at h
  split at h
  · rename_i k s k' t
    replace h := chk_at h
    obtain ⟨hk, h⟩ := h
    have hk := kid_inj (Nat.eq_of_beq_eq_true hk)
    cases m with
    | true =>
      rw [cond_true] at h
      replace h := T.at_bind_some.1 h
      obtain ⟨⟨b, fx1⟩, h1, h⟩ := h
      replace h := ret_at h
      obtain ⟨rfl, rfl⟩ := h
      obtain ⟨e, hx'⟩ := ltTm_at hx h1
      refine ⟨hx', fun L => ?_⟩
      simp only [if_true, conc, Builtin.max2]
      cases b <;> simp at e ⊢
      · rw [if_neg (by omega)]
      · rw [if_pos (by omega)]
    | false =>
      rw [cond_false] at h
      replace h := T.at_bind_some.1 h
      obtain ⟨⟨b, fx1⟩, h1, h⟩ := h
      replace h := ret_at h
      obtain ⟨rfl, rfl⟩ := h
      obtain ⟨e, hx'⟩ := ltTm_at hx h1
      refine ⟨hx', fun L => ?_⟩
      simp only [Bool.false_eq_true, if_false, conc, Builtin.min2]
      cases b <;> simp at e ⊢
      · rw [if_neg (by omega)]
      · rw [if_pos (by omega)]
  · simp [T.at_bad] at h

theorem gO_at {β : Type} {g : Operand → Option AV} {x : Option Operand} {f : Option AV → T β} {r : β} (h : (gO g x f).at_ ρ = some r) :
    ∃ v, (f v).at_ ρ = some r ∧ ∀ (L : Nat → Loc) (a : Operand → Value), GRel L ρ g a → x.map a = v.map (conc L ρ) := by
  unfold gO at h
  cases x with
  | none => exact ⟨none, h, fun _ _ _ => rfl⟩
  | some x =>
    replace h := T.at_opt_some.1 h
    obtain ⟨v, hv, h⟩ := h
    exact ⟨some v, h, fun L a hg => by simp [hg _ _ hv]⟩

theorem methE_find {t : TypeId} {name : String} {m : FuncId × Bool} {ti : TI} (hm : methE cx t name = some m) (ht : cx.tt.get t = some ti) :
    ∃ me, ti.info.methods.find? (fun m => m.name == name) = some me ∧ me.path.toList = [] ∧ me.func = some m := by
  unfold methE at hm
  rw [ht] at hm
  simp only at hm
  rw [← Array.find?_toList]
  split at hm
  · cases hm
  · rename_i me hme
    refine ⟨me, hme, ?_⟩
    cases hp : me.path.toList with
    | nil => rw [hp] at hm; exact ⟨rfl, hm⟩
    | cons x xs => rw [hp] at hm; cases hm
theorem boundE_sound (ok : cx.Ok P) {name : String} {first captured : List AV} {v : AV} {fx fx' : Facts} (h : (boundE cx name first captured fx).at_ ρ = some (v, fx')) :
    fx' = fx ∧ v = .meth name first captured ∧ ∃ t u, first = [.iface t u] ∧ ∀ (L : Nat → Loc) (w : World), (nilAhead (P.types.size + Made.depth) t (conc L ρ u) name).run P w = .ok (some false) w := by
  unfold boundE at h
  split at h
  case h_2 => simp [T.at_bad] at h
  rename_i t u
  replace h := T.at_opt_some.1 h; obtain ⟨m, hm, h⟩ := h
  replace h := tyE_at.1 h; obtain ⟨ti, ht, h⟩ := h
  obtain ⟨me, hme, hpath, hfunc⟩ := methE_find hm ht
  have hd := ok.desc _ _ ht
  split at h
  · simp [T.at_bad] at h
  · rename_i x1 x2 hne
    replace h := ret_at h; obtain ⟨rfl, rfl⟩ := h
    refine ⟨rfl, rfl, t, u, rfl, fun L w => ?_⟩
    rw [show P.types.size + Made.depth = (P.types.size + 99) + 1 from rfl]
    unfold nilAhead
    simp only [Sem.run_bind, ok.run_info ht, Result.andThen_ok, hme, hpath, followBlind, Sem.run_pure, hfunc]
    cases hb : m.2 with
    | true => rw [show m = (m.1, true) by rw [← hb]]; rfl
    | false =>
      rw [show m = (m.1, false) by rw [← hb]]
      simp only [Sem.run_bind, run_underlying hd, Result.andThen_ok]
      cases hdd : ti.desc <;> first | rfl | exact (hne _ hdd hb).elim

/-- OPERATIONS THAT LOOK AT NO MEMORY: in whatever world they yield what E says. -/
theorem pureE_sound (ok : cx.Ok P) {g : Operand → Option AV} {op : Op} {v : AV} {fx fx' : Facts} (hx : FxOk ρ fx) (h : (pureE cx g op fx).at_ ρ = some (v, fx')) :
    FxOk ρ fx' ∧ ∀ (L : Nat → Loc) (w : World) (a : Operand → Value) (o : Oper), o.op = op → GRel L ρ g a → (execOp a o).run P w = .ok (.value (conc L ρ v)) w := by
  unfold pureE at h
  split at h
  case h_1 x =>
    replace h := gE_at.1 h; obtain ⟨u, hu, h⟩ := h
    replace h := ret_at h; obtain ⟨rfl, rfl⟩ := h
    exact ⟨hx, fun L w a o ho hg => by unfold execOp; rw [ho]; simp only [hg _ _ hu]; rfl⟩
  case h_2 x =>
    replace h := gE_at.1 h; obtain ⟨u, hu, h⟩ := h
    replace h := ret_at h; obtain ⟨rfl, rfl⟩ := h
    exact ⟨hx, fun L w a o ho hg => by unfold execOp; rw [ho]; simp only [hg _ _ hu]; rfl⟩
  case h_3 c p q =>
    replace h := gE_at.1 h; obtain ⟨u, hu, h⟩ := h
    split at h
    · replace h := gE_at.1 h; obtain ⟨u', hu', h⟩ := h
      replace h := ret_at h; obtain ⟨rfl, rfl⟩ := h
      exact ⟨hx, fun L w a o ho hg => by unfold execOp; rw [ho]; simp [hg _ _ hu, hg _ _ hu', conc, asBool]⟩
    · replace h := gE_at.1 h; obtain ⟨u', hu', h⟩ := h
      replace h := ret_at h; obtain ⟨rfl, rfl⟩ := h
      exact ⟨hx, fun L w a o ho hg => by unfold execOp; rw [ho]; simp [hg _ _ hu, hg _ _ hu', conc, asBool]⟩
    · simp [T.at_bad] at h
  case h_4 x =>
    replace h := gE_at.1 h; obtain ⟨u, hu, h⟩ := h
    split at h
    · replace h := ret_at h; obtain ⟨rfl, rfl⟩ := h
      exact ⟨hx, fun L w a o ho hg => by unfold execOp; rw [ho]; simp only [hg _ _ hu, conc]; rfl⟩
    · replace h := ret_at h; obtain ⟨rfl, rfl⟩ := h
      exact ⟨hx, fun L w a o ho hg => by unfold execOp; rw [ho]; simp only [hg _ _ hu, conc]; rfl⟩
    · obtain ⟨rfl, rfl, t, y, rfl, hna⟩ := boundE_sound (P := P) ok h
      refine ⟨hx, fun L w a o ho hg => ?_⟩
      unfold execOp; rw [ho]
      simp only [hg _ _ hu, conc, concs]
      simp [Sem.run_bind, hna L w, Result.andThen_ok]
    · replace h := ret_at h; obtain ⟨rfl, rfl⟩ := h
      exact ⟨hx, fun L w a o ho hg => by unfold execOp; rw [ho]; simp only [hg _ _ hu, conc]; rfl⟩
    · simp [T.at_bad] at h
  case h_5 b t x y t' =>
    replace h := gE_at.1 h; obtain ⟨u, hu, h⟩ := h
    replace h := gE_at.1 h; obtain ⟨u', hu', h⟩ := h
    obtain ⟨h1, h2⟩ := binE_sound ok hx h
    refine ⟨h1, fun L w a o ho hg => ?_⟩
    unfold execOp; rw [ho]
    have := h2 L w x y
    simp only [hg _ _ hu, hg _ _ hu', Sem.run_bind] at this ⊢
    rw [this]
    rfl
  case h_6 op' t x =>
    replace h := gE_at.1 h; obtain ⟨u, hu, h⟩ := h
    obtain ⟨rfl, h2⟩ := unE_sound (P := P) h
    refine ⟨hx, fun L w a o ho hg => ?_⟩
    unfold execOp; rw [ho]
    simp only [hg _ _ hu, Sem.run_bind, h2 L w, Result.andThen_ok]; rfl
  case h_7 s d x =>
    replace h := gE_at.1 h; obtain ⟨u, hu, h⟩ := h
    obtain ⟨rfl, h2⟩ := convE_sound ok h
    refine ⟨hx, fun L w a o ho hg => ?_⟩
    unfold execOp; rw [ho]
    simp only [hg _ _ hu, Sem.run_bind, h2 L w, Result.andThen_ok]; rfl
  case h_8 t x =>
    replace h := gE_at.1 h; obtain ⟨u, hu, h⟩ := h
    obtain ⟨rfl, h2⟩ := ifaceE_sound ok h
    refine ⟨hx, fun L w a o ho hg => ?_⟩
    unfold execOp; rw [ho]
    simp only [hg _ _ hu, Sem.run_bind, h2 L w, Result.andThen_ok]; rfl
  case h_9 f first captured =>
    replace h := T.at_opt_some.1 h; obtain ⟨l1, hl1, h⟩ := h
    replace h := T.at_opt_some.1 h; obtain ⟨l2, hl2, h⟩ := h
    replace h := ret_at h; obtain ⟨rfl, rfl⟩ := h
    refine ⟨hx, fun L w a o ho hg => ?_⟩
    unfold execOp; rw [ho]
    have e1 := argsE_map hg hl1
    have e2 := argsE_map hg hl2
    have t1 : Array.map a first = (List.map a first.toList).toArray := Array.toList_inj.1 (by rw [Array.toList_map])
    have t2 : Array.map a captured = (List.map a captured.toList).toArray := Array.toList_inj.1 (by rw [Array.toList_map])
    simp only [Instr.makeFunc, Sem.run_bind, Sem.run_pure, Result.andThen_ok, conc, concs_eq, e1, e2, t1, t2]
  case h_10 name first captured =>
    replace h := T.at_opt_some.1 h; obtain ⟨l1, hl1, h⟩ := h
    replace h := T.at_opt_some.1 h; obtain ⟨l2, hl2, h⟩ := h
    replace h := ret_at h; obtain ⟨rfl, rfl⟩ := h
    refine ⟨hx, fun L w a o ho hg => ?_⟩
    unfold execOp; rw [ho]
    have e1 := argsE_map hg hl1
    have e2 := argsE_map hg hl2
    have t1 : Array.map a first = (List.map a first.toList).toArray := Array.toList_inj.1 (by rw [Array.toList_map])
    have t2 : Array.map a captured = (List.map a captured.toList).toArray := Array.toList_inj.1 (by rw [Array.toList_map])
    simp only [Instr.makeFunc, Sem.run_bind, Sem.run_pure, Result.andThen_ok, conc, concs_eq, e1, e2, t1, t2]
  case h_11 s x f =>
    replace h := gE_at.1 h; obtain ⟨u, hu, h⟩ := h
    obtain ⟨rfl, h2⟩ := fieldAddrE_sound ok h
    refine ⟨hx, fun L w a o ho hg => ?_⟩
    unfold execOp; rw [ho]
    simp only [hg _ _ hu, Sem.run_bind, h2 L w, Result.andThen_ok]; rfl
  case h_12 t x f =>
    replace h := gE_at.1 h; obtain ⟨u, hu, h⟩ := h
    obtain ⟨rfl, h2⟩ := fieldE_sound ok h
    refine ⟨hx, fun L w a o ho hg => ?_⟩
    unfold execOp; rw [ho]
    simp only [hg _ _ hu, Sem.run_bind, h2 L w, Result.andThen_ok]; rfl
  case h_13 t x ix =>
    replace h := gE_at.1 h; obtain ⟨u, hu, h⟩ := h
    replace h := gE_at.1 h; obtain ⟨u', hu', h⟩ := h
    obtain ⟨rfl, h2⟩ := indexAddrE_sound ok hx h
    refine ⟨hx, fun L w a o ho hg => ?_⟩
    unfold execOp; rw [ho]
    simp only [hg _ _ hu, hg _ _ hu', Sem.run_bind, h2 L w, Result.andThen_ok]; rfl
  case h_14 t x ix =>
    replace h := gE_at.1 h; obtain ⟨u, hu, h⟩ := h
    replace h := gE_at.1 h; obtain ⟨u', hu', h⟩ := h
    obtain ⟨rfl, h2⟩ := indexE_sound ok hx h
    refine ⟨hx, fun L w a o ho hg => ?_⟩
    unfold execOp; rw [ho]
    simp only [hg _ _ hu, hg _ _ hu', Sem.run_bind, h2 L w, Result.andThen_ok]; rfl
  case h_15 t x lo hi mx =>
    replace h := gE_at.1 h; obtain ⟨u, hu, h⟩ := h
    replace h := gO_at h; obtain ⟨l, h, hl⟩ := h
    replace h := gO_at h; obtain ⟨hh, h, hhh⟩ := h
    replace h := gO_at h; obtain ⟨m, h, hm⟩ := h
    obtain ⟨rfl, h2⟩ := sliceE_sound ok hx h
    refine ⟨hx, fun L w a o ho hg => ?_⟩
    unfold execOp; rw [ho]
    simp only [hg _ _ hu, hl L a hg, hhh L a hg, hm L a hg, Sem.run_bind, h2 L w, Result.andThen_ok]; rfl
  case h_16 t ps =>
    replace h := T.at_opt_some.1 h; obtain ⟨l, hl, h⟩ := h
    obtain ⟨rfl, h2⟩ := buildE_sound ok h
    refine ⟨hx, fun L w a o ho hg => ?_⟩
    unfold execOp; rw [ho]
    have e := partsE_map hg hl
    have := h2 L w (ps.map fun (i, x) => (i, a x)) (by rw [e]; simp)
    simp only [Sem.run_bind, this, Result.andThen_ok]; rfl
  case h_17 t i =>
    replace h := gE_at.1 h; obtain ⟨u, hu, h⟩ := h
    split at h
    · replace h := T.at_opt_some.1 h; obtain ⟨y, hy, h⟩ := h
      replace h := ret_at h; obtain ⟨rfl, rfl⟩ := h
      refine ⟨hx, fun L w a o ho hg => ?_⟩
      unfold execOp; rw [ho]
      rw [lget_eq] at hy
      simp [hg _ _ hu, conc_tuple, Instr.extract, hy]
    · simp [T.at_bad] at h
  case h_18 x xt t okb =>
    replace h := gE_at.1 h; obtain ⟨u, hu, h⟩ := h
    obtain ⟨rfl, h2⟩ := assertE_sound (xt := xt) ok h
    refine ⟨hx, fun L w a o ho hg => ?_⟩
    unfold execOp; rw [ho]
    simp only [hg _ _ hu, Sem.run_bind, h2 L w, Result.andThen_ok]; rfl
  case h_19 c =>
    split at h
    · rename_i hc
      split at h
      · rename_i x y hxy
        replace h := gE_at.1 h; obtain ⟨u, hu, h⟩ := h
        replace h := gE_at.1 h; obtain ⟨u', hu', h⟩ := h
        obtain ⟨h1, h2⟩ := minmax_sound hx h
        refine ⟨h1, fun L w a o ho hg => ?_⟩
        unfold execOp; rw [ho]
        have e : (c.args.map a).toList = [conc L ρ u, conc L ρ u'] := by simp [hxy, hg _ _ hu, hg _ _ hu']
        have h2 := h2 L
        simp only [Bool.false_eq_true, if_false] at h2
        simp only [resolve, hc, Sem.run_bind, Sem.run_pure, Result.andThen_ok, invoke, builtin, Builtin.min_, e, List.foldlM_cons, List.foldlM_nil, h2]
      · simp [T.at_bad] at h
    · rename_i hc
      split at h
      · rename_i x y hxy
        replace h := gE_at.1 h; obtain ⟨u, hu, h⟩ := h
        replace h := gE_at.1 h; obtain ⟨u', hu', h⟩ := h
        obtain ⟨h1, h2⟩ := minmax_sound hx h
        refine ⟨h1, fun L w a o ho hg => ?_⟩
        unfold execOp; rw [ho]
        have e : (c.args.map a).toList = [conc L ρ u, conc L ρ u'] := by simp [hxy, hg _ _ hu, hg _ _ hu']
        have h2 := h2 L
        simp only [if_true] at h2
        simp only [resolve, hc, Sem.run_bind, Sem.run_pure, Result.andThen_ok, invoke, builtin, Builtin.max_, e, List.foldlM_cons, List.foldlM_nil, h2]
      · simp [T.at_bad] at h
    · simp [T.at_bad] at h
  case h_20 => simp [T.at_bad] at h
end Ab
