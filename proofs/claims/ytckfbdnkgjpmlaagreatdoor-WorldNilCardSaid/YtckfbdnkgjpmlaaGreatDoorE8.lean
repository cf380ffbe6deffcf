/- E, part 8: operations that look at no memory: all of them. -/
import Derived.Test.YtckfbdnkgjpmlaaGreatDoorE7
namespace Ab
open Go

variable {P : Program} {cx : Ctx} {ρ : Env}

theorem cmpE_sound {k : IntKind} {op : BinOp} {s u : Tm} {fx fx' : Facts} {v : AV} (hx : FxOk ρ fx) (t : TypeId) (h : (cmpE op s u fx).at_ ρ = some (v, fx')) :
    FxOk ρ fx' ∧ ∃ b, v = .bool b ∧ binOp op t (.int k (s.den ρ)) (.int k (u.den ρ)) = pure (.bool b) := by
  unfold cmpE at h
  split at h
  · replace h := asV_at.1 h; obtain ⟨b, h', rfl⟩ := h
    replace h' := eqTm_at hx h'; obtain ⟨h1, h2⟩ := h'
    exact ⟨h2, b, rfl, by rw [binOp_eql, h1]⟩
  · replace h := asV_at.1 h; obtain ⟨b, h', rfl⟩ := h
    obtain ⟨h1, h2⟩ := eqTm_at hx (neg1_at.1 h')
    exact ⟨h2, b, rfl, by rw [binOp_neq, bne, h1]; simp⟩
  · replace h := asV_at.1 h; obtain ⟨b, h', rfl⟩ := h
    replace h' := ltTm_at hx h'; obtain ⟨h1, h2⟩ := h'
    exact ⟨h2, b, rfl, by rw [binOp_lss, h1]⟩
  · replace h := asV_at.1 h; obtain ⟨b, h', rfl⟩ := h
    obtain ⟨h1, h2⟩ := ltTm_at hx (neg1_at.1 h')
    refine ⟨h2, b, rfl, ?_⟩
    rw [binOp_leq]
    have : b = decide (s.den ρ ≤ u.den ρ) := by
      cases b <;> simp at h1 ⊢ <;> omega
    rw [this]
  · replace h := asV_at.1 h; obtain ⟨b, h', rfl⟩ := h
    replace h' := ltTm_at hx h'; obtain ⟨h1, h2⟩ := h'
    exact ⟨h2, b, rfl, by rw [binOp_gtr, ← h1]⟩
  · replace h := asV_at.1 h; obtain ⟨b, h', rfl⟩ := h
    obtain ⟨h1, h2⟩ := ltTm_at hx (neg1_at.1 h')
    refine ⟨h2, b, rfl, ?_⟩
    rw [binOp_geq]
    have : b = decide (s.den ρ ≥ u.den ρ) := by
      cases b <;> simp at h1 ⊢ <;> omega
    rw [this]
  · simp [T.at_bad] at h

theorem toList_mk (l : List UInt8) : (⟨l.toArray⟩ : ByteArray).toList = l := by rw [ByteArray.toList_eq]
theorem size_mk (l : List UInt8) : (⟨l.toArray⟩ : ByteArray).size = l.length := rfl
theorem bytesLess_total : ∀ (x y : List UInt8), (Op.bytesLess x y || (x == y)) = !Op.bytesLess y x
  | [], [] => rfl
  | [], _ :: _ => rfl
  | _ :: _, [] => rfl
  | a :: x, b :: y => by
    have ih := bytesLess_total x y
    unfold Op.bytesLess
    by_cases h : a = b
    · subst h
      simp [ih]
    · have h' : ¬ b = a := fun e => h e.symm
      have : (a < b) ↔ ¬ (b < a) := by
        rw [UInt8.lt_iff_toNat_lt, UInt8.lt_iff_toNat_lt]
        have : a.toNat ≠ b.toNat := fun e => h (UInt8.toNat_inj.1 e)
        omega
      by_cases hlt : b < a
      · have h2 : ¬ a < b := fun hh => this.1 hh hlt
        simp [h, hlt, h2]
      · have h2 := this.2 hlt
        simp [h', hlt, h2]
theorem strE_sound {op : BinOp} {s u : STm} {fx fx' : Facts} {v : AV} (hx : FxOk ρ fx) (t : TypeId) (h : (strE op s u fx).at_ ρ = some (v, fx')) :
    FxOk ρ fx' ∧ ∀ L, binOp op t (.string ⟨(s.den ρ).toArray⟩) (.string ⟨(u.den ρ).toArray⟩) = pure (conc L ρ v) := by
  have e : ∀ X Y : ByteArray, binOp op t (.string X) (.string Y) = Op.stringOp op X Y := by intro X Y; cases op <;> rfl
  unfold strE at h
  split at h
  · replace h := asV_at.1 h; obtain ⟨b, h', rfl⟩ := h
    replace h' := eqStm_at hx h'; obtain ⟨h1, h2⟩ := h'
    exact ⟨h2, fun L => by simp only [e, Op.stringOp, toList_mk, h1, conc]⟩
  · replace h := asV_at.1 h; obtain ⟨b, h', rfl⟩ := h
    obtain ⟨h1, h2⟩ := eqStm_at hx (neg1_at.1 h')
    exact ⟨h2, fun L => by simp only [e, Op.stringOp, toList_mk, h1, conc, Bool.not_not]⟩
  · replace h := asV_at.1 h; obtain ⟨b, h', rfl⟩ := h
    replace h' := ltStm_at hx h'; obtain ⟨h1, h2⟩ := h'
    exact ⟨h2, fun L => by simp only [e, Op.stringOp, toList_mk, h1, conc]⟩
  · replace h := asV_at.1 h; obtain ⟨b, h', rfl⟩ := h
    obtain ⟨h1, h2⟩ := ltStm_at hx (neg1_at.1 h')
    exact ⟨h2, fun L => by simp only [e, Op.stringOp, toList_mk, bytesLess_total, h1, conc, Bool.not_not]⟩
  · replace h := asV_at.1 h; obtain ⟨b, h', rfl⟩ := h
    replace h' := ltStm_at hx h'; obtain ⟨h1, h2⟩ := h'
    exact ⟨h2, fun L => by simp only [e, Op.stringOp, toList_mk, bytesLess_total, h1, conc, Bool.not_not]⟩
  · replace h := asV_at.1 h; obtain ⟨b, h', rfl⟩ := h
    obtain ⟨h1, h2⟩ := ltStm_at hx (neg1_at.1 h')
    exact ⟨h2, fun L => by simp only [e, Op.stringOp, toList_mk, h1, conc, Bool.not_not]⟩
  · split at h
    · rename_i a b
      replace h := chk_at h; obtain ⟨hc, h⟩ := h
      replace h := ret_at h; obtain ⟨rfl, rfl⟩ := h
      have hc := Nat.le_of_ble_eq_true hc
      rw [llen_eq, llen_eq] at hc
      refine ⟨hx, fun L => ?_⟩
      simp only [e, Op.stringOp, size_mk, STm.den, conc, lapp_eq]
      rw [if_neg (by simp; have : a.length + b.length ≤ 4294967296 := hc; omega)]
      congr 2
    · simp [T.at_bad] at h
  · simp [T.at_bad] at h

theorem ints_sound {op : BinOp} {k : IntKind} {x y n : Int} (hop : op ≠ .shl ∧ op ≠ .shr) (t : TypeId) (h : arith op k x y = some n) : binOp op t (.int k x) (.int k y) = pure (.int k n) := by
  cases op <;> simp only [arith] at h
  · rw [binOp_add]; simp at h; subst h; rfl
  · rw [binOp_sub]; simp at h; subst h; rfl
  · rw [binOp_mul]; simp at h; subst h; rfl
  · rw [binOp_quo]
    by_cases hy : y = 0
    · simp [hy] at h
    · simp [hy] at h; subst h; simp [Op.intDiv, hy]
  · rw [binOp_rem]
    by_cases hy : y = 0
    · simp [hy] at h
    · simp [hy] at h; subst h; simp [Op.intDiv, hy]
  · rw [binOp_and]; simp at h; subst h; rfl
  · rw [binOp_or]; simp at h; subst h; rfl
  · rw [binOp_xor]; simp at h; subst h; rfl
  · exact absurd rfl hop.1
  · exact absurd rfl hop.2
  · rw [binOp_andNot]; simp only [Option.some.injEq] at h; subst h; rfl
  all_goals simp at h
theorem shift_sound {op : BinOp} {k k' : IntKind} {x y n : Int} (hop : op = .shl ∨ op = .shr) (t : TypeId) (h : arith op k x y = some n) : binOp op t (.int k x) (.int k' y) = pure (.int k n) := by
  rcases hop with rfl | rfl
  · rw [binOp_shl]
    simp only [arith] at h
    by_cases hy : y < 0
    · simp [hy] at h
    · simp [hy] at h; subst h; simp [Op.shift, hy]
  · rw [binOp_shr]
    simp only [arith] at h
    by_cases hy : y < 0
    · simp [hy] at h
    · simp [hy] at h; subst h; simp [Op.shift, hy]

/-- Binary operators, with the test ahead of '=='. -/
theorem enumG_at {t : Tm} : ∀ (n i : Nat) {fx fx' : Facts} {r : Tm}, FxOk ρ fx → (enumG t n i fx).at_ ρ = some (r, fx') → (i : Int) ≤ t.den ρ → t.den ρ ≤ ((i + n : Nat) : Int) → FxOk ρ fx' ∧ r.den ρ = t.den ρ
  | 0, i, fx, fx', r, hx, h, h1, h2 => by
    have h : (T.ret ((.c (.ofNat i) : Tm), fx)).at_ ρ = some (r, fx') := h
    replace h := ret_at h; obtain ⟨rfl, rfl⟩ := h
    refine ⟨hx, ?_⟩
    show (Int.ofNat i) = _
    simp only [Nat.add_zero] at h2
    show (i : Int) = _
    omega
  | n + 1, i, fx, fx', r, hx, h, h1, h2 => by
    have h : ((eqTm0 t (.c (.ofNat i)) fx).bind fun p => Bool.rec (enumG t n (i + 1) p.2) (.ret (.c (.ofNat i), p.2)) p.1 : T (Tm × Facts)).at_ ρ = some (r, fx') := h
    replace h := T.at_bind_some.1 h
    obtain ⟨⟨b, fx1⟩, hd, h⟩ := h
    obtain ⟨hb, hx1⟩ := eqTm0_at hx hd
    cases b with
    | true =>
      have h : (T.ret ((.c (.ofNat i) : Tm), fx1)).at_ ρ = some (r, fx') := h
      replace h := ret_at h; obtain ⟨rfl, rfl⟩ := h
      exact ⟨hx1, (beq_iff_eq.1 hb).symm⟩
    | false =>
      have h : (enumG t n (i + 1) fx1).at_ ρ = some (r, fx') := h
      have hne : t.den ρ ≠ (i : Int) := by
        rw [beq_eq_false_iff_ne] at hb
        exact hb
      exact enumG_at n (i + 1) hx1 h (by omega) (by rw [show i + 1 + n = i + (n + 1) by omega]; exact h2)
theorem enumE_at {en : Nat} {t r : Tm} {fx fx' : Facts} (hx : FxOk ρ fx) (h : (enumE en t fx).at_ ρ = some (r, fx')) : FxOk ρ fx' ∧ r.den ρ = t.den ρ := by
  unfold enumE at h
  split at h
  · rename_i k a m
    cases hm : (bif lazyT en a then false else Nat.ble m 15) with
    | true =>
      rw [hm, cond_true] at h
      have hm : Nat.ble m 15 = true := by cases hl : lazyT en a <;> simp [hl] at hm ⊢; exact hm
      obtain ⟨h1, h2⟩ := and_range (ρ := ρ) k a m (Nat.le_of_ble_eq_true hm)
      exact enumG_at m 0 hx h h1 (by simpa using h2)
    | false =>
      rw [hm, cond_false] at h
      replace h := ret_at h; obtain ⟨rfl, rfl⟩ := h
      exact ⟨hx, rfl⟩
  · replace h := ret_at h; obtain ⟨rfl, rfl⟩ := h
    exact ⟨hx, rfl⟩
theorem binE_sound (ok : cx.Ok P) {op : BinOp} {t : TypeId} {x y v : AV} {fx fx' : Facts} (hx : FxOk ρ fx) (h : (binE cx op t x y fx).at_ ρ = some (v, fx')) :
    FxOk ρ fx' ∧ ∀ (L : Nat → Loc) (w : World) (xo yo : Operand),
      (do eqGuard op t xo yo (conc L ρ x) (conc L ρ y); binOp op t (conc L ρ x) (conc L ρ y) : Sem Value).run P w = .ok (conc L ρ v) w := by
  unfold binE at h
  split at h
  · rename_i k s k' u
    cases hc : isCmp op with
    | true =>
      rw [hc, cond_true] at h
      replace h := chk_at h; obtain ⟨hk, h⟩ := h
      have hk := kid_inj (Nat.eq_of_beq_eq_true hk)
      subst hk
      replace h := cmpE_sound (k := k) hx t h; obtain ⟨h1, b, rfl, h2⟩ := h
      refine ⟨h1, fun L w xo yo => ?_⟩
      simp only [conc, eqGuard_at_int, h2]
      rfl
    | false =>
      rw [hc, cond_false] at h
      split at h
      · replace h := T.at_opt_some.1 h; obtain ⟨r, hr, h⟩ := h
        replace h := ret_at h; obtain ⟨rfl, rfl⟩ := h
        refine ⟨hx, fun L w xo yo => ?_⟩
        simp only [conc, eqGuard_at_int, shift_sound (.inl rfl) t (binTm_red hx hr)]
        rfl
      · replace h := T.at_opt_some.1 h; obtain ⟨r, hr, h⟩ := h
        replace h := ret_at h; obtain ⟨rfl, rfl⟩ := h
        refine ⟨hx, fun L w xo yo => ?_⟩
        simp only [conc, eqGuard_at_int, shift_sound (.inr rfl) t (binTm_red hx hr)]
        rfl
      · rename_i n1 n2
        replace h := chk_at h; obtain ⟨hk, h⟩ := h
        have hk := kid_inj (Nat.eq_of_beq_eq_true hk)
        subst hk
        replace h := T.at_opt_some.1 h; obtain ⟨r, hr, h⟩ := h
        replace h := T.at_bind_some.1 h
        obtain ⟨⟨r', fx1⟩, he, h⟩ := h
        replace h := ret_at h; obtain ⟨rfl, rfl⟩ := h
        obtain ⟨hx1, hden⟩ := enumE_at hx he
        refine ⟨hx1, fun L w xo yo => ?_⟩
        rw [show conc L ρ (.int k r') = conc L ρ (.int k r) by simp only [conc, hden, redK_den _ hx]]
        simp only [conc, eqGuard_at_int, ints_sound ⟨fun e => n1 e, fun e => n2 e⟩ t (binTm_red hx hr)]
        rfl
  · rename_i s u
    replace h := strE_sound hx t h; obtain ⟨h1, h2⟩ := h
    refine ⟨h1, fun L w xo yo => ?_⟩
    simp only [conc, eqGuard_at_string, h2 L]
    rfl
  · split at h
    · replace h := asV_at.1 h; obtain ⟨b, h', rfl⟩ := h
      replace h' := eqE_sound ok hx h'; obtain ⟨h1, h2⟩ := h'
      refine ⟨h1, fun L w xo yo => ?_⟩
      simp only [Sem.run_bind, h2.guard L w .eql xo yo, Result.andThen_ok, h2.eql L w, conc]
    · replace h := asV_at.1 h; obtain ⟨b, h', rfl⟩ := h
      obtain ⟨h1, h2⟩ := eqE_sound ok hx (neg1_at.1 h')
      refine ⟨h1, fun L w xo yo => ?_⟩
      simp only [Sem.run_bind, h2.guard L w .neq xo yo, Result.andThen_ok, h2.neq L w, conc, Bool.not_not]
    · simp [T.at_bad] at h

theorem unE_sound {op : UnOp} {x v : AV} {fx fx' : Facts} (h : (unE op x fx).at_ ρ = some (v, fx')) :
    fx' = fx ∧ ∀ (L : Nat → Loc) (w : World), (Op.unary op (conc L ρ x)).run P w = .ok (conc L ρ v) w := by
  unfold unE at h
  split at h
  · replace h := ret_at h; obtain ⟨rfl, rfl⟩ := h
    exact ⟨rfl, fun L w => rfl⟩
  · replace h := T.at_opt_some.1 h; obtain ⟨r, hr, h⟩ := h
    replace h := ret_at h; obtain ⟨rfl, rfl⟩ := h
    refine ⟨rfl, fun L w => ?_⟩
    have := binTm_den ρ hr
    simp only [arith, Tm.den, Option.some.injEq] at this
    simp only [conc, ← this]
    rfl
  · simp [T.at_bad] at h

theorem fieldE_sound (ok : cx.Ok P) {t : TypeId} {x v : AV} {f : Nat} {fx fx' : Facts} (h : (fieldE cx t x f fx).at_ ρ = some (v, fx')) :
    fx' = fx ∧ ∀ (L : Nat → Loc) (w : World), (Instr.field t (conc L ρ x) f).run P w = .ok (conc L ρ v) w := by
  unfold fieldE at h
  split at h
  · replace h := tyE_at.1 h; obtain ⟨ti, ht, h⟩ := h
    have hd := ok.desc _ _ ht
    split at h
    · rename_i fs hdd
      rw [hdd] at hd
      replace h := T.at_opt_some.1 h; obtain ⟨fd, hf, h⟩ := h
      rw [lget_eq, Array.getElem?_toList] at hf
      replace h := partE_sound ok h; obtain ⟨rfl, h2⟩ := h
      refine ⟨rfl, fun L w => ?_⟩
      rw [conc_agg]
      simp [Instr.field, run_underlying hd, hf, asAgg, h2]
    · simp [T.at_bad] at h
  · simp [T.at_bad] at h

theorem addr_add (b o n : Nat) : (⟨b, o, none⟩ : Addr).add n = ⟨b, o + n, none⟩ := Addr.add_lit b o n
theorem fieldAddrE_sound (ok : cx.Ok P) {t : TypeId} {x v : AV} {f : Nat} {fx fx' : Facts} (h : (fieldAddrE cx t x f fx).at_ ρ = some (v, fx')) :
    fx' = fx ∧ ∀ (L : Nat → Loc) (w : World), (Instr.fieldAt t (conc L ρ x) f).run P w = .ok (conc L ρ v) w := by
  unfold fieldAddrE at h
  split at h
  · replace h := tyE_at.1 h; obtain ⟨ti, ht, h⟩ := h
    have hd := ok.desc _ _ ht
    split at h
    · rename_i fs hdd
      rw [hdd] at hd
      replace h := T.at_opt_some.1 h; obtain ⟨fd, hf, h⟩ := h
      rw [lget_eq, Array.getElem?_toList] at hf
      replace h := tyE_at.1 h; obtain ⟨fi, hfi, h⟩ := h
      replace h := chk_at h; obtain ⟨hc, h⟩ := h
      have hc := Nat.le_of_ble_eq_true hc
      replace h := ret_at h; obtain ⟨rfl, rfl⟩ := h
      refine ⟨rfl, fun L w => ?_⟩
      simp only [conc, Instr.fieldAt, Sem.run_bind, run_underlying hd, Result.andThen_ok, hf, Instr.sureAddr, Sem.run_pure, fieldPlace, ok.run_size hfi]
      rw [if_neg (by omega)]
      simp only [Sem.run_pure, Result.andThen_ok, addr_add]
      simp [Nat.add_assoc]
    · simp [T.at_bad] at h
  · simp [T.at_bad] at h

theorem indexAddrE_sound (ok : cx.Ok P) {t : TypeId} {x ix v : AV} {fx fx' : Facts} (hx : FxOk ρ fx) (h : (indexAddrE cx t x ix fx).at_ ρ = some (v, fx')) :
    fx' = fx ∧ ∀ (L : Nat → Loc) (w : World), (Instr.indexAt t (conc L ρ x) (conc L ρ ix)).run P w = .ok (conc L ρ v) w := by
  unfold indexAddrE at h
  replace h := constN_at hx h; obtain ⟨k, i, hix, h⟩ := h
  replace h := tyE_at.1 h; obtain ⟨ti, ht, h⟩ := h
  have hd := ok.desc _ _ ht
  split at h
  · rename_i el id off0 off len cap op hdd
    rw [hdd] at hd
    replace h := tyE_at.1 h; obtain ⟨ei, hei, h⟩ := h
    replace h := chk_at h; obtain ⟨h1, h⟩ := h
    replace h := chk_at h; obtain ⟨h2, h⟩ := h
    have h1 := Nat.le_of_ble_eq_true h1
    have h2 := Nat.le_of_ble_eq_true h2
    replace h := ret_at h; obtain ⟨rfl, rfl⟩ := h
    refine ⟨rfl, fun L w => ?_⟩
    simp only [conc, hix]
    have hc : ¬ (cap + (if op then (L id).x else 0) = 0) := by omega
    rw [if_neg hc]
    simp only [Instr.indexAt, asIntOf, Sem.run_bind, Sem.run_pure, Result.andThen_ok, run_underlying hd]
    have hi : (0 : Int) ≤ Int.ofNat i ∧ Int.ofNat i < (len : Int) := ⟨Int.natCast_nonneg i, by show (i : Int) < len; omega⟩
    simp only [Bool.and_false, hi, and_self, if_true, Sem.run_bind, ok.run_size hei, Result.andThen_ok, Sem.run_pure, addr_add]
    simp [Nat.add_assoc]
  · rename_i len el id off hdd
    rw [hdd] at hd
    replace h := tyE_at.1 h; obtain ⟨ei, hei, h⟩ := h
    replace h := chk_at h; obtain ⟨h1, h⟩ := h
    have h1 := Nat.le_of_ble_eq_true h1
    replace h := ret_at h; obtain ⟨rfl, rfl⟩ := h
    refine ⟨rfl, fun L w => ?_⟩
    simp only [conc, hix]
    simp only [Instr.indexAt, asIntOf, Sem.run_bind, Sem.run_pure, Result.andThen_ok, run_underlying hd, Instr.sureAddr]
    have hi : (0 : Int) ≤ Int.ofNat i ∧ Int.ofNat i < (len : Int) := ⟨Int.natCast_nonneg i, by show (i : Int) < len; omega⟩
    simp only [hi, and_self, if_true, Sem.run_bind, ok.run_size hei, Result.andThen_ok, Sem.run_pure, addr_add]
    simp [Nat.add_assoc]
  · simp [T.at_bad] at h

theorem indexE_sound (ok : cx.Ok P) {t : TypeId} {x ix v : AV} {fx fx' : Facts} (hx : FxOk ρ fx) (h : (indexE cx t x ix fx).at_ ρ = some (v, fx')) :
    fx' = fx ∧ ∀ (L : Nat → Loc) (w : World), (Instr.index t (conc L ρ x) (conc L ρ ix)).run P w = .ok (conc L ρ v) w := by
  unfold indexE at h
  replace h := constN_at hx h; obtain ⟨k, i, hix, h⟩ := h
  replace h := tyE_at.1 h; obtain ⟨ti, ht, h⟩ := h
  have hd := ok.desc _ _ ht
  split at h
  · rename_i len el cs hdd
    rw [hdd] at hd
    replace h := tyE_at.1 h; obtain ⟨ei, hei, h⟩ := h
    replace h := chk_at h; obtain ⟨h1, h⟩ := h
    have h1 := Nat.le_of_ble_eq_true h1
    replace h := partE_sound ok h; obtain ⟨rfl, h2⟩ := h
    refine ⟨rfl, fun L w => ?_⟩
    rw [conc_agg]
    simp only [hix, Instr.index, asIntOf, Sem.run_bind, Sem.run_pure, Result.andThen_ok, run_underlying hd]
    have hi : (0 : Int) ≤ Int.ofNat i ∧ Int.ofNat i < (len : Int) := ⟨Int.natCast_nonneg i, by show (i : Int) < len; omega⟩
    simp only [hi, and_self, if_true, Sem.run_bind, ok.run_size hei, Result.andThen_ok]
    exact h2 L w
  · rename_i s hdd
    rw [hdd] at hd
    replace h := T.at_opt_some.1 h; obtain ⟨b, hb, h⟩ := h
    rw [lget_eq] at hb
    replace h := ret_at h; obtain ⟨rfl, rfl⟩ := h
    refine ⟨rfl, fun L w => ?_⟩
    simp only [hix, conc, STm.den, Instr.index, asIntOf, Sem.run_bind, Sem.run_pure, Result.andThen_ok, run_underlying hd]
    have : (if (0 : Int) ≤ Int.ofNat i then (⟨s.toArray⟩ : ByteArray)[(Int.ofNat i).toNat]? else none) = some b := by
      rw [if_pos (show (0 : Int) ≤ Int.ofNat i from Int.natCast_nonneg i)]
      have hlt : i < s.length := by
        rcases Nat.lt_or_ge i s.length with h | h
        · exact h
        · rw [List.getElem?_eq_none h] at hb; cases hb
      have e : s[i] = b := by simpa [hlt] using hb
      show (⟨s.toArray⟩ : ByteArray)[i]? = some b
      rw [getElem?_pos (⟨s.toArray⟩ : ByteArray) i hlt]
      congr 1
    rw [this]
    rfl
  · simp [T.at_bad] at h
end Ab
