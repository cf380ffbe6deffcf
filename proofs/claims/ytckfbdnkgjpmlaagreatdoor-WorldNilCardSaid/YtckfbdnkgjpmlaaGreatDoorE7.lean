/- E, part 7: operations that look at no memory, one by one. -/
import Derived.Test.YtckfbdnkgjpmlaaGreatDoorE6
namespace Ab
open Go

variable {P : Program} {cx : Ctx} {ρ : Env}

theorem chk_at {β : Type} {c : Bool} {code : Nat} {x : T β} {b : β} (h : (T.chk c code x).at_ ρ = some b) : c = true ∧ x.at_ ρ = some b := T.at_chk_some.1 h
theorem ret_at {α β : Type} {a a' : α} {f f' : β} (h : (T.ret (a, f)).at_ ρ = some (a', f')) : a' = a ∧ f' = f := by
  simp only [T.at_ret, Option.some.injEq, Prod.mk.injEq] at h
  exact ⟨h.1.symm, h.2.symm⟩

/-- What '==' comes to, and that the test ahead of it lets the values by. -/
structure EqOk (P : Program) (ρ : Env) (t : TypeId) (x y : AV) (b : Bool) : Prop where
  eql : ∀ (L : Nat → Loc) (w : World), (binOp .eql t (conc L ρ x) (conc L ρ y)).run P w = .ok (.bool b) w
  neq : ∀ (L : Nat → Loc) (w : World), (binOp .neq t (conc L ρ x) (conc L ρ y)).run P w = .ok (.bool !b) w
  guard : ∀ (L : Nat → Loc) (w : World) (op : BinOp) (xo yo : Operand), (eqGuard op t xo yo (conc L ρ x) (conc L ρ y)).run P w = .ok () w

theorem kinds_one_or {d : Nat} {t : TypeId} {qs : List Nat} (h : kindsT P d t = some qs) (hag : ∀ d, P.underlying t = some d → descAgg d = false) : qs.length = 1 := by
  refine kindsT_plain h ?_
  rintro ⟨fs, hf⟩
  have := hag _ hf
  simp [descAgg] at this
theorem agg_struct (ok : cx.Ok P) {t : TypeId} {ti : TI} (ht : cx.tt.get t = some ti) {qs : List Nat} (hk : ti.kinds = some qs) : (ti.agg = true) ↔ ∃ fs, P.underlying t = some (.struct fs) := by
  rw [ok.agg _ _ ht]
  have hd := ok.desc _ _ ht
  rw [ok.kinds _ _ ht] at hk
  constructor
  · intro ha
    rcases kindsT_agg hk with ⟨k, hu, rfl⟩ | ⟨hu, rfl⟩ | ⟨hu, rfl⟩ | ⟨d', fs, _, hu, _, _⟩
    · rw [hd] at hu; simp at hu; rw [hu] at ha; simp [descAgg] at ha
    · rw [hd] at hu; simp at hu; rw [hu] at ha; simp [descAgg] at ha
    · rw [hd] at hu; simp at hu; rw [hu] at ha; simp [descAgg] at ha
    · exact ⟨fs, hu⟩
  · rintro ⟨fs, hf⟩
    rw [hd] at hf
    simp at hf
    rw [hf]
    rfl
/-- Flat values' comparison. -/
theorem eqFlat_sound (ok : cx.Ok P) {t : TypeId} {ti : TI} (ht : cx.tt.get t = some ti) {qs : List Nat} (hk : ti.kinds = some qs) {x y : AV} {fx fx' : Facts} {b : Bool} (hx : FxOk ρ fx)
    (h : (eqFlat ti.agg qs x y fx).at_ ρ = some (b, fx')) :
    FxOk ρ fx' ∧ Shaped ti.agg qs.length x ∧ Shaped ti.agg qs.length y ∧ eqAllD ρ qs x.cells y.cells = some b ∧
      ∀ (L : Nat → Loc) (D : Nat) (w : World), 8 ≤ D → (Op.equalIn D t (conc L ρ x) (conc L ρ y)).run P w = .ok b w := by
  unfold eqFlat at h
  obtain ⟨h1, h⟩ := chk_at h
  obtain ⟨h2, h⟩ := chk_at h
  obtain ⟨hb, hx'⟩ := eqAll_at qs _ _ hx h
  have hag := agg_struct ok ht hk
  have hk' := hk
  rw [ok.kinds _ _ ht] at hk'
  have one : ti.agg = false → qs.length = 1 := fun ha => kindsT_plain hk' (fun hs => by rw [hag.2 hs] at ha; cases ha)
  have s1 := shapeOk_iff h1 one
  have s2 := shapeOk_iff h2 one
  exact ⟨hx', s1, s2, hb, fun L D w hD => run_equalIn_kinds 8 D t qs hk' hD L x y b w ti.agg hag s1 s2 hb⟩

theorem run_eql_of {t : TypeId} {X Y : Value} {b : Bool} {w : World} (e : binOp .eql t X Y = (do pure (.bool (← Op.equal t X Y)))) (h : ∀ d, 8 ≤ d → (Op.equalIn d t X Y).run P w = .ok b w) :
    (binOp .eql t X Y).run P w = .ok (.bool b) w := by
  rw [e]
  have : (Op.equal t X Y).run P w = .ok b w := h 10000 (by omega)
  simp [this]
theorem run_neq_of {t : TypeId} {X Y : Value} {b : Bool} {w : World} (e : binOp .neq t X Y = (do pure (.bool (!(← Op.equal t X Y))))) (h : ∀ d, 8 ≤ d → (Op.equalIn d t X Y).run P w = .ok b w) :
    (binOp .neq t X Y).run P w = .ok (.bool !b) w := by
  rw [e]
  have : (Op.equal t X Y).run P w = .ok b w := h 10000 (by omega)
  simp [this]
theorem at_succ {t : TypeId} {X Y : Value} {b : Bool} {w : World} (h : ∀ d, (Op.equalIn (d + 1) t X Y).run P w = .ok b w) : ∀ d, 8 ≤ d → (Op.equalIn d t X Y).run P w = .ok b w := by
  intro d hd
  obtain ⟨m, rfl⟩ : ∃ m, d = m + 1 := ⟨d - 1, by omega⟩
  exact h m

theorem eqE_sound (ok : cx.Ok P) {t : TypeId} {x y : AV} {fx fx' : Facts} {b : Bool} (hx : FxOk ρ fx) (h : (eqE cx t x y fx).at_ ρ = some (b, fx')) :
    FxOk ρ fx' ∧ EqOk P ρ t x y b := by
  unfold eqE at h
  split at h
  case h_15 xs ys =>
    obtain ⟨ti, ht, h⟩ := tyE_at.1 h
    obtain ⟨qs, hk, h⟩ := T.at_opt_some.1 h
    obtain ⟨hg, h⟩ := chk_at h
    obtain ⟨ha, h⟩ := chk_at h
    rw [← ha] at h
    obtain ⟨hx', s1, s2, hb, hrun⟩ := eqFlat_sound ok ht hk hx h
    have hq : P.eqGuardType P.depth t = false := by
      have := ok.guard _ _ ht
      rw [hg] at this
      simpa using this.symm
    refine ⟨hx', ?_, ?_, ?_⟩
    · intro L w
      have := fun D => hrun L D w
      rw [conc_agg, conc_agg] at this ⊢
      exact run_eql_of rfl this
    · intro L w
      have := fun D => hrun L D w
      rw [conc_agg, conc_agg] at this ⊢
      exact run_neq_of rfl this
    · intro L w op xo yo
      rw [conc_agg, conc_agg]
      cases op <;> simp [eqGuard, hq]
  case h_17 => simp [T.at_bad] at h
  all_goals
    obtain ⟨ti, ht, h⟩ := tyE_at.1 h
    have hd := ok.desc _ _ ht
    split at h
    case h_2 => simp [T.at_bad] at h
    rename_i hdd
    rw [hdd] at hd
    obtain ⟨rfl, rfl⟩ := ret_at h
    refine ⟨hx, fun L w => ?_, fun L w => ?_, fun L w op xo yo => ?_⟩
    · simp only [conc]
      exact run_eql_of rfl (at_succ fun d => by unfold Op.equalIn; rw [Sem.run_bind, run_underlying hd]; rfl)
    · simp only [conc]
      exact run_neq_of rfl (at_succ fun d => by unfold Op.equalIn; rw [Sem.run_bind, run_underlying hd]; rfl)
    · simp only [conc]
      first
        | rw [eqGuard_at_pointer]; rfl
        | rw [eqGuard_at_slice]; rfl
        | rw [eqGuard_at_map]; rfl
        | rw [eqGuard_at_iface]; rfl
        | rw [eqGuard_nil_iface]; rfl
        | rw [eqGuard_at_func]; rfl
        | rw [eqGuard_at_nilFunc]; rfl
        | rw [eqGuard_at_bool]; rfl
end Ab
