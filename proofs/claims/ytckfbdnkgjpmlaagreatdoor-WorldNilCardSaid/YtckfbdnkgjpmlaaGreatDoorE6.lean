/- E, part 6: operations that look at no memory come to what the model says. -/
import Derived.Test.YtckfbdnkgjpmlaaGreatDoorE5
import Derived.Laws.StructEq
import Derived.ChangeKeysEq
namespace Ab
open Go

variable {P : Program} {cx : Ctx} {ρ : Env}

theorem tyE_at {β : Type} {t : TypeId} {f : TI → T β} {r : β} : (tyE cx t f).at_ ρ = some r ↔ ∃ ti, cx.tt.get t = some ti ∧ (f ti).at_ ρ = some r := T.at_opt_some
theorem gE_at {β : Type} {g : Operand → Option AV} {x : Operand} {f : AV → T β} {r : β} : (gE g x f).at_ ρ = some r ↔ ∃ v, g x = some v ∧ (f v).at_ ρ = some r := T.at_opt_some
theorem asV_at {x : T (Bool × Facts)} {v : AV} {fx : Facts} : (asV x).at_ ρ = some (v, fx) ↔ ∃ b, x.at_ ρ = some (b, fx) ∧ v = .bool b := by
  unfold asV
  rw [T.at_bind_some]
  constructor
  · rintro ⟨⟨b, fx'⟩, h, h'⟩
    simp only [T.at_ret, Option.some.injEq, Prod.mk.injEq] at h'
    obtain ⟨rfl, rfl⟩ := h'
    exact ⟨b, h, rfl⟩
  · rintro ⟨b, h, rfl⟩
    exact ⟨(b, fx), h, rfl⟩
theorem neg1_at {x : T (Bool × Facts)} {b : Bool} {fx : Facts} : (neg1 x).at_ ρ = some (b, fx) ↔ x.at_ ρ = some (!b, fx) := by
  unfold neg1
  rw [T.at_bind_some]
  constructor
  · rintro ⟨⟨c, fx'⟩, h, h'⟩
    simp only [T.at_ret, Option.some.injEq, Prod.mk.injEq] at h'
    obtain ⟨rfl, rfl⟩ := h'
    simpa using h
  · intro h
    exact ⟨(!b, fx), h, by simp [T.at_ret]⟩
theorem constN_at {β : Type} {fx : Facts} {v : AV} {f : Nat → T β} {r : β} (hx : FxOk ρ fx) (h : (constN fx v f).at_ ρ = some r) :
    ∃ k n, (∀ L, conc L ρ v = .int k (.ofNat n)) ∧ (f n).at_ ρ = some r := by
  unfold constN at h
  split at h
  · rename_i k t
    split at h
    · rename_i n hn
      have := red_den hx t
      rw [hn] at this
      exact ⟨k, n, fun L => by simp only [conc, ← this, Tm.den], h⟩
    · simp [T.at_bad] at h
  · simp [T.at_bad] at h

/-! ## What is looked up in tables -/
theorem Ctx.Ok.run_desc (ok : cx.Ok P) {t : TypeId} {ti : TI} (h : cx.tt.get t = some ti) (w : World) : (underlying t).run P w = .ok ti.desc w := run_underlying (ok.desc _ _ h) w
theorem Ctx.Ok.run_info (ok : cx.Ok P) {t : TypeId} {ti : TI} (h : cx.tt.get t = some ti) (w : World) : (typeInfo t).run P w = .ok ti.info w := by
  simp [typeInfo, ok.info _ _ h]
theorem Ctx.Ok.run_size (ok : cx.Ok P) {t : TypeId} {ti : TI} (h : cx.tt.get t = some ti) (w : World) : (Go.sizeOf t).run P w = .ok ti.info.size w := by
  simp [Go.sizeOf, ok.run_info h]
theorem Ctx.Ok.run_zero (ok : cx.Ok P) {t : TypeId} {ti : TI} {z : AV} (h : cx.tt.get t = some ti) (hz : ti.zero = some z) (L : Nat → Loc) (w : World) :
    (zeroValue t).run P w = .ok (conc L ρ z) w := by
  obtain ⟨v, hv, hz⟩ := ok.zero _ _ _ h hz
  simp [zeroValue, ok.run_info h, hv, conc_ofV L ρ hz]
theorem descAgg_run (w : World) (t : TypeId) {d : TypeDesc} (h : P.underlying t = some d) : (isAgg t).run P w = .ok (descAgg d) w := by
  unfold isAgg
  simp only [Sem.run_bind, run_underlying h, Result.andThen_ok]
  cases d <;> rfl
theorem Ctx.Ok.run_agg (ok : cx.Ok P) {t : TypeId} {ti : TI} (h : cx.tt.get t = some ti) (w : World) : (isAgg t).run P w = .ok ti.agg w := by
  rw [ok.agg _ _ h]; exact descAgg_run w t (ok.desc _ _ h)
theorem Ctx.Ok.cells (ok : cx.Ok P) {t : TypeId} {ti : TI} (h : cx.tt.get t = some ti) : P.cellsOf t = ti.info.size := by
  simp [Program.cellsOf, ok.info _ _ h]

theorem conc_agg (L : Nat → Loc) (cs : List AV) : conc L ρ (.agg cs) = .agg (cs.map (conc L ρ)).toArray := by simp [conc, concs_eq]
theorem conc_tuple (L : Nat → Loc) (cs : List AV) : conc L ρ (.tuple cs) = .tuple (cs.map (conc L ρ)).toArray := by simp [conc, concs_eq]

/-! ## Parts -/
theorem run_part (ok : cx.Ok P) {t : TypeId} {ti : TI} (h : cx.tt.get t = some ti) (L : Nat → Loc) (w : World) (cs : List AV) (off : Nat) {v : AV}
    (hv : if ti.agg then v = .agg ((cs.drop off).take ti.info.size) else cs[off]? = some v) :
    (part t (cs.map (conc L ρ)).toArray off).run P w = .ok (conc L ρ v) w := by
  unfold part
  simp only [Sem.run_bind, ok.run_agg h, Result.andThen_ok]
  cases ha : ti.agg with
  | true =>
    simp only [ha, if_true] at hv
    subst hv
    simp only [if_true, Sem.run_bind, ok.run_size h, Result.andThen_ok, Sem.run_pure, conc_agg]
    congr 2
    simp [List.map_drop, List.map_take, Nat.add_sub_cancel_left]
  | false =>
    rw [ha, if_neg (by simp)] at hv
    have : (cs.map (conc L ρ)).toArray[off]? = some (conc L ρ v) := by simp [hv]
    simp [this]
theorem partE_sound (ok : cx.Ok P) {t : TypeId} {cs : List AV} {off : Nat} {fx fx' : Facts} {v : AV} (h : (partE cx t cs off fx).at_ ρ = some (v, fx')) :
    fx' = fx ∧ ∀ L w, (part t (cs.map (conc L ρ)).toArray off).run P w = .ok (conc L ρ v) w := by
  unfold partE at h
  obtain ⟨ti, ht, h⟩ := tyE_at.1 h
  cases ha : ti.agg with
  | true =>
    simp only [ha, cond_true, T.at_ret, Option.some.injEq, Prod.mk.injEq] at h
    obtain ⟨rfl, rfl⟩ := h
    exact ⟨rfl, fun L w => run_part ok ht L w cs off (by simp [ha, ltake_eq, ldrop_eq])⟩
  | false =>
    simp only [ha, cond_false] at h
    obtain ⟨v', hv, h⟩ := T.at_opt_some.1 h
    simp only [T.at_ret, Option.some.injEq, Prod.mk.injEq] at h
    obtain ⟨rfl, rfl⟩ := h
    rw [lget_eq] at hv
    exact ⟨rfl, fun L w => run_part ok ht L w cs off (by simp [ha, hv])⟩

/-! ## Comparisons -/
/-- What the cells' comparison comes to. -/
def eqOneD (ρ : Env) (q : Nat) (x y : AV) : Option Bool :=
  match q, x, y with
  | 0, .int k s, .int k' t => if k = k' then some (s.den ρ == t.den ρ) else none
  | 1, .str s, .str t => some (s.den ρ == t.den ρ)
  | 2, .bool a, .bool b => some (a == b)
  | _, _, _ => none
def eqAllD (ρ : Env) : List Nat → List AV → List AV → Option Bool
  | [], [], [] => some true
  | q :: qs, x :: xs, y :: ys => match eqOneD ρ q x y with
    | some true => eqAllD ρ qs xs ys
    | some false => some false
    | none => none
  | _, _, _ => none
theorem eqOne_at {q : Nat} {x y : AV} {fx fx' : Facts} {b : Bool} (hx : FxOk ρ fx) (h : (eqOne q x y fx).at_ ρ = some (b, fx')) : eqOneD ρ q x y = some b ∧ FxOk ρ fx' := by
  unfold eqOne at h
  split at h
  · obtain ⟨hk, h⟩ := T.at_chk_some.1 h
    have hk := kid_inj (Nat.eq_of_beq_eq_true hk)
    obtain ⟨h1, h2⟩ := eqTm_at hx h
    exact ⟨by simp [eqOneD, hk, h1], h2⟩
  · obtain ⟨h1, h2⟩ := eqStm_at hx h
    exact ⟨by simp [eqOneD, h1], h2⟩
  · simp only [T.at_ret, Option.some.injEq, Prod.mk.injEq] at h
    obtain ⟨rfl, rfl⟩ := h
    exact ⟨rfl, hx⟩
  · simp [T.at_bad] at h
theorem eqAll_cons (q : Nat) (qs : List Nat) (x y : AV) (xs ys : List AV) (fx : Facts) :
    eqAll (q :: qs) (x :: xs) (y :: ys) fx = (eqOne q x y fx).bind fun p => Bool.rec (.ret (false, p.2)) (eqAll qs xs ys p.2) p.1 := rfl
theorem eqAll_at : ∀ (qs : List Nat) (xs ys : List AV) {fx fx' : Facts} {b : Bool}, FxOk ρ fx → (eqAll qs xs ys fx).at_ ρ = some (b, fx') → eqAllD ρ qs xs ys = some b ∧ FxOk ρ fx' := by
  intro qs
  induction qs with
  | nil =>
    intro xs ys fx fx' b hx h
    cases xs with
    | nil => cases ys with
      | nil =>
        have h : (T.ret (true, fx)).at_ ρ = some (b, fx') := h
        simp only [T.at_ret, Option.some.injEq, Prod.mk.injEq] at h
        obtain ⟨rfl, rfl⟩ := h
        exact ⟨rfl, hx⟩
      | cons y ys => cases h
    | cons x xs => cases h
  | cons q qs ih =>
    intro xs ys fx fx' b hx h
    cases xs with
    | nil => cases ys <;> cases h
    | cons x xs =>
      cases ys with
      | nil => cases h
      | cons y ys =>
        rw [eqAll_cons, T.at_bind_some] at h
        obtain ⟨⟨c, fx1⟩, h1, h2⟩ := h
        obtain ⟨e1, hx1⟩ := eqOne_at hx h1
        cases c with
        | false =>
          have h2 : (T.ret (false, fx1)).at_ ρ = some (b, fx') := h2
          simp only [T.at_ret, Option.some.injEq, Prod.mk.injEq] at h2
          obtain ⟨rfl, rfl⟩ := h2
          exact ⟨by simp [eqAllD, e1], hx1⟩
        | true =>
          obtain ⟨e2, hx2⟩ := ih xs ys hx1 h2
          exact ⟨by simp [eqAllD, e1, e2], hx2⟩
theorem eqAllD_append : ∀ (q1 q2 : List Nat) (x1 x2 y1 y2 : List AV), x1.length = q1.length → y1.length = q1.length →
    eqAllD ρ (q1 ++ q2) (x1 ++ x2) (y1 ++ y2) = match eqAllD ρ q1 x1 y1 with | some true => eqAllD ρ q2 x2 y2 | r => r := by
  intro q1
  induction q1 with
  | nil =>
    intro q2 x1 x2 y1 y2 hx hy
    simp at hx hy
    subst hx; subst hy
    simp [eqAllD]
  | cons q q1 ih =>
    intro q2 x1 x2 y1 y2 hx hy
    cases x1 with
    | nil => simp at hx
    | cons x x1 =>
      cases y1 with
      | nil => simp at hy
      | cons y y1 =>
        simp only [List.cons_append, eqAllD]
        cases eqOneD ρ q x y with
        | none => rfl
        | some b => cases b with
          | false => rfl
          | true => exact ih q2 x1 x2 y1 y2 (by simpa using hx) (by simpa using hy)

theorem conc_string_beq (s t : List UInt8) : ((⟨s.toArray⟩ : ByteArray) == ⟨t.toArray⟩) = (s == t) := by
  rw [beq_toListBytes, ByteArray.toList_eq, ByteArray.toList_eq]

/-- One cell compared, at a type of its kind. -/
theorem run_equalIn_one {d : Nat} {t : TypeId} {q : Nat} {L : Nat → Loc} {x y : AV} {b : Bool} (w : World)
    (ht : (∃ k, P.underlying t = some (.int k) ∧ q = 0) ∨ (P.underlying t = some .string ∧ q = 1) ∨ (P.underlying t = some .bool ∧ q = 2))
    (h : eqOneD ρ q x y = some b) : (Op.equalIn (d + 1) t (conc L ρ x) (conc L ρ y)).run P w = .ok b w := by
  rcases ht with ⟨k, hu, rfl⟩ | ⟨hu, rfl⟩ | ⟨hu, rfl⟩
  · cases x <;> cases y <;> simp [eqOneD] at h
    obtain ⟨rfl, rfl⟩ := h
    simp [conc, Op.equalIn, run_underlying hu]
  · cases x <;> cases y <;> simp [eqOneD] at h
    subst h
    simp [conc, Op.equalIn, run_underlying hu, conc_string_beq]
  · cases x <;> cases y <;> simp [eqOneD] at h
    subst h
    simp [conc, Op.equalIn, run_underlying hu]

/-- Has a value the cells of a type? -/
def Shaped (ag : Bool) (n : Nat) : AV → Prop
  | .agg xs => ag = true ∧ xs.length = n ∧ ∀ c ∈ xs, c.one = true
  | v => ag = false ∧ v.one = true ∧ n = 1
theorem allOne_iff (l : List AV) : allOne l = true ↔ ∀ c ∈ l, c.one = true := by
  induction l with
  | nil => simp [allOne]
  | cons v l ih =>
    have e : allOne (v :: l) = Bool.rec false (allOne l) v.one := rfl
    rw [e, Tr.brec]
    cases hv : v.one <;> simp [hv, ih]
theorem shapeOk_iff {ag : Bool} {qs : List Nat} {x : AV} (h : shapeOk ag qs x = true) (h1 : ag = false → qs.length = 1) : Shaped ag qs.length x := by
  cases ag with
  | false => cases x <;> simp [shapeOk, AV.one] at h <;> exact ⟨rfl, rfl, h1 rfl⟩
  | true =>
    cases x <;> simp [shapeOk, AV.one] at h
    rw [llen_eq, llen_eq] at h
    exact ⟨rfl, h.1, (allOne_iff _).1 h.2⟩
theorem Shaped.cells_false {n : Nat} {v : AV} (h : Shaped false n v) : v.cells = [v] := by cases v <;> simp [Shaped, AV.one] at h <;> rfl

theorem kindsT_agg {d : Nat} {t : TypeId} {qs : List Nat} (h : kindsT P d t = some qs) :
    (∃ k, P.underlying t = some (.int k) ∧ qs = [0]) ∨ (P.underlying t = some .string ∧ qs = [1]) ∨ (P.underlying t = some .bool ∧ qs = [2]) ∨
    ∃ d' fs, d = d' + 1 ∧ P.underlying t = some (.struct fs) ∧ P.stoodInHeld t = false ∧ kindsF P (kindsT P d') fs.toList 0 = some qs := by
  cases d with
  | zero => simp [kindsT] at h
  | succ d =>
    unfold kindsT at h
    split at h
    · rename_i k hu; simp at h; exact .inl ⟨k, hu, h.symm⟩
    · rename_i hu; simp at h; exact .inr (.inl ⟨hu, h.symm⟩)
    · rename_i hu; simp at h; exact .inr (.inr (.inl ⟨hu, h.symm⟩))
    · rename_i fs hu
      split at h
      · cases h
      · rename_i hs
        exact .inr (.inr (.inr ⟨d, fs, rfl, hu, by simpa using hs, h⟩))
    · cases h
theorem kindsF_cons {kt : TypeId → Option (List Nat)} {f : Field} {fs : List Field} {off : Nat} {qs : List Nat} (h : kindsF P kt (f :: fs) off = some qs) :
    f.name ≠ "_" ∧ f.offset = off ∧ ∃ a b, kt f.type = some a ∧ a.length = P.cellsOf f.type ∧ kindsF P kt fs (off + a.length) = some b ∧ qs = a ++ b := by
  unfold kindsF at h
  split at h
  · rename_i hn
    split at h
    · rename_i a ha
      split at h
      · rename_i hl
        simp at h
        obtain ⟨b, hb, rfl⟩ := h
        exact ⟨hn.1, hn.2, a, b, ha, hl, hb, rfl⟩
      · cases h
    · cases h
  · cases h

theorem kindsT_plain {d : Nat} {t : TypeId} {qs : List Nat} (h : kindsT P d t = some qs) (hs : ¬ ∃ fs, P.underlying t = some (.struct fs)) : qs.length = 1 := by
  rcases kindsT_agg h with ⟨k, hu, rfl⟩ | ⟨hu, rfl⟩ | ⟨hu, rfl⟩ | ⟨d', fs, rfl, hu, _, _⟩
  · rfl
  · rfl
  · rfl
  · exact absurd ⟨fs, hu⟩ hs

/-- A part of cells, at a type of known kinds. -/
theorem run_part_kinds {d : Nat} {t : TypeId} {qs : List Nat} (h : kindsT P d t = some qs) (hl : qs.length = P.cellsOf t) (L : Nat → Loc) (w : World) (cs : List AV) (off : Nat) (hc : off + qs.length ≤ cs.length)
    (ho : ∀ c ∈ cs, c.one = true) :
    ∃ v ag, (part t (cs.map (conc L ρ)).toArray off).run P w = .ok (conc L ρ v) w ∧ v.cells = (cs.drop off).take qs.length ∧
      ((ag = true) ↔ ∃ fs, P.underlying t = some (.struct fs)) ∧ Shaped ag qs.length v := by
  by_cases hst : ∃ fs, P.underlying t = some (.struct fs)
  · obtain ⟨fs, hu⟩ := hst
    refine ⟨.agg ((cs.drop off).take qs.length), true, ?_, rfl, by simp [hu], rfl, by simp; omega, fun c hc => ho c (List.mem_of_mem_drop (List.mem_of_mem_take hc))⟩
    unfold part isAgg
    have hsz : (Go.sizeOf t).run P w = .ok (P.cellsOf t) w := by
      unfold Program.underlying at hu
      cases hi : P.info? t with
      | none => rw [hi] at hu; simp at hu
      | some i => exact run_sizeOf w hi
    simp only [Sem.run_bind, run_underlying hu, Result.andThen_ok, Sem.run_pure, if_true, hsz, conc_agg, ← hl]
    congr 2
    simp [List.map_drop, List.map_take, Nat.add_sub_cancel_left]
  · have h1 := kindsT_plain h hst
    have hlt : off < cs.length := by omega
    have ho' := ho cs[off] (List.getElem_mem hlt)
    have hag : ∃ d, P.underlying t = some d ∧ descAgg d = false := by
      rcases kindsT_agg h with ⟨k, hu, rfl⟩ | ⟨hu, rfl⟩ | ⟨hu, rfl⟩ | ⟨d', fs, rfl, hu, _, _⟩
      · exact ⟨_, hu, rfl⟩
      · exact ⟨_, hu, rfl⟩
      · exact ⟨_, hu, rfl⟩
      · exact absurd ⟨fs, hu⟩ hst
    obtain ⟨dd, hu, hd⟩ := hag
    have hc1 : (cs[off]).cells = [cs[off]] := by
      cases hv : cs[off] <;> simp [AV.cells] <;> (rw [hv] at ho'; simp [AV.one] at ho')
    refine ⟨cs[off], false, ?_, ?_, by simp [hst], ?_⟩
    · unfold part
      simp [descAgg_run w t hu, hd, hlt]
    · rw [hc1, h1, List.drop_eq_getElem_cons hlt]
      rfl
    · rw [h1]
      cases hv : cs[off] <;> (rw [hv] at ho'; simp [AV.one] at ho') <;> exact ⟨rfl, rfl, rfl⟩

theorem eqAllD_one {q : Nat} {x y : AV} {b : Bool} (h : eqAllD ρ [q] [x] [y] = some b) : eqOneD ρ q x y = some b := by
  simp only [eqAllD] at h
  cases he : eqOneD ρ q x y with
  | none => simp [he] at h
  | some c => cases c <;> simp [he] at h <;> simp [h]

/-- Values of a type of known kinds: the model's '==' is the cells'. -/
theorem run_equalIn_kinds : ∀ (d D : Nat) (t : TypeId) (qs : List Nat), kindsT P d t = some qs → d ≤ D → ∀ (L : Nat → Loc) (x y : AV) (b : Bool) (w : World) (ag : Bool),
    ((ag = true) ↔ ∃ fs, P.underlying t = some (.struct fs)) → Shaped ag qs.length x → Shaped ag qs.length y → eqAllD ρ qs x.cells y.cells = some b →
    (Op.equalIn D t (conc L ρ x) (conc L ρ y)).run P w = .ok b w := by
  intro d
  induction d with
  | zero => intro D t qs h; simp [kindsT] at h
  | succ d ih =>
    intro D t qs h hD L x y b w ag hag hx hy hb
    obtain ⟨D, rfl⟩ : ∃ m, D = m + 1 := ⟨D - 1, by omega⟩
    by_cases hst : ∃ fs, P.underlying t = some (.struct fs)
    · have hag : ag = true := hag.2 hst
      subst hag
      rcases kindsT_agg h with ⟨k, hu, rfl⟩ | ⟨hu, rfl⟩ | ⟨hu, rfl⟩ | ⟨d', fs, e, hu, hs, hk⟩
      · obtain ⟨fs, hf⟩ := hst; rw [hu] at hf; cases hf
      · obtain ⟨fs, hf⟩ := hst; rw [hu] at hf; cases hf
      · obtain ⟨fs, hf⟩ := hst; rw [hu] at hf; cases hf
      obtain rfl : d = d' := by omega
      cases x <;> simp [Shaped] at hx
      cases y <;> simp [Shaped] at hy
      rename_i xs ys
      have hf : P.fieldsOf t = fs := by simp [Program.fieldsOf, hu]
      rw [conc_agg, conc_agg, run_equalIn_struct w D t _ _ (by rw [hf]; exact hu) hs, hf]
      simp only [AV.cells] at hb
      have key : ∀ (fl : List Field) (off : Nat) (q : List Nat), kindsF P (kindsT P d) fl off = some q → off + q.length ≤ xs.length → off + q.length ≤ ys.length →
          ∀ b, eqAllD ρ q ((xs.drop off).take q.length) ((ys.drop off).take q.length) = some b → (Op.eqFields D (xs.map (conc L ρ)).toArray (ys.map (conc L ρ)).toArray fl).run P w = .ok b w := by
        intro fl
        induction fl with
        | nil =>
          intro off q hq hx hy b hb
          simp [kindsF] at hq
          subst hq
          simp [eqAllD] at hb
          subst hb
          simp [Op.eqFields]
        | cons f fl ihf =>
          intro off q hq h1 h2 b hb
          obtain ⟨hn, ho, a, q', ha, hal, hq', rfl⟩ := kindsF_cons hq
          subst ho
          rw [List.length_append] at h1 h2 hb
          have sp : ∀ l : List AV, (l.drop f.offset).take (a.length + q'.length) = (l.drop f.offset).take a.length ++ (l.drop (f.offset + a.length)).take q'.length := by
            intro l
            rw [List.take_add, List.drop_drop]
          rw [sp xs, sp ys, eqAllD_append _ _ _ _ _ _ (by simp; omega) (by simp; omega)] at hb
          obtain ⟨u, agu, hru, hcu, hau, hsu⟩ := run_part_kinds (ρ := ρ) ha hal L w xs f.offset (by omega) hx.2
          obtain ⟨v, agv, hrv, hcv, hav, hsv⟩ := run_part_kinds (ρ := ρ) ha hal L w ys f.offset (by omega) hy.2
          have : agu = agv := by rw [Bool.eq_iff_iff]; exact hau.trans hav.symm
          subst this
          rw [← hcu, ← hcv] at hb
          simp only [Op.eqFields, hn, ne_eq, not_false_eq_true, if_true, Sem.run_bind, hru, hrv, Result.andThen_ok]
          cases he : eqAllD ρ a u.cells v.cells with
          | none => rw [he] at hb; simp at hb
          | some c =>
            rw [he] at hb
            rw [ih D f.type a ha (by omega) L u v c w agu hau hsu hsv he]
            cases c with
            | false => simp at hb; subst hb; simp
            | true => simpa using ihf (f.offset + a.length) q' hq' (by omega) (by omega) b hb
      exact key fs.toList 0 qs hk (by omega) (by omega) b (by rw [List.drop_zero, List.drop_zero, List.take_of_length_le (by omega), List.take_of_length_le (by omega)]; exact hb)
    · have hag : ag = false := by
        cases ag with
        | false => rfl
        | true => exact absurd (hag.1 rfl) hst
      subst hag
      rw [hx.cells_false, hy.cells_false] at hb
      rcases kindsT_agg h with ⟨k, hu, rfl⟩ | ⟨hu, rfl⟩ | ⟨hu, rfl⟩ | ⟨d', fs, e, hu, hs, hk⟩
      · exact run_equalIn_one w (.inl ⟨k, hu, rfl⟩) (eqAllD_one hb)
      · exact run_equalIn_one w (.inr (.inl ⟨hu, rfl⟩)) (eqAllD_one hb)
      · exact run_equalIn_one w (.inr (.inr ⟨hu, rfl⟩)) (eqAllD_one hb)
      · exact absurd ⟨fs, hu⟩ hst
end Ab
