/- E, part 11: operations that read. -/
import Derived.Test.YtckfbdnkgjpmlaaGreatDoorE10
namespace Ab
open Go

variable {P : Program} {cx : Ctx} {ρ : Env}

/-! ## Cells -/
theorem withCells_at {β : Type} {H : Tr AObj} {id : Nat} {f : Tr AV → Option AV → Nat → TypeId → Nat → T β} {r : β} (h : (withCells H id f).at_ ρ = some r) :
    ∃ t d n el sz, H.get id = some (.cells t d n el sz) ∧ (f t d n el sz).at_ ρ = some r := by
  unfold withCells at h
  replace h := T.at_opt_some.1 h; obtain ⟨o, ho, h⟩ := h
  split at h
  · exact ⟨_, _, _, _, _, ho, h⟩
  · simp [T.at_bad] at h
theorem withMap_at {β : Type} {H : Tr AObj} {id : Nat} {f : List (AV × AV × Nat) → Nat → T β} {r : β} (h : (withMap H id f).at_ ρ = some r) :
    ∃ es ck, H.get id = some (.map es ck) ∧ (f es ck).at_ ρ = some r := by
  unfold withMap at h
  replace h := T.at_opt_some.1 h; obtain ⟨o, ho, h⟩ := h
  split at h
  · exact ⟨_, _, ho, h⟩
  · simp [T.at_bad] at h
theorem cell_of_heap {w : World} {b : Nat} {c : Array Value} {el : TypeId} {fz : Nat × Nat} (h : w.heap[b]? = some (.cells c el fz)) (i : Nat) : w.cell? ⟨b, i, none⟩ = c[i]? := by
  simp [World.cell?, h]
theorem Sim.cell {L : Nat → Loc} {H : Tr AObj} {w : World} (h : Sim L ρ H w) {id : Nat} {t : Tr AV} {d : Option AV} {n : Nat} {el : TypeId} {sz : Nat} (ho : H.get id = some (.cells t d n el sz))
    {i : Nat} {v : AV} (hi : i < n) (hv : look t d i = some v) : w.cell? ⟨(L id).b, (L id).o + i, none⟩ = some (conc L ρ v) := by
  obtain ⟨c, fz, hc, _, _, hk, _⟩ := h.at_ id _ ho
  rw [cell_of_heap hc]
  exact hk i v hi hv
theorem gather_zero (t : Tr AV) (d : Option AV) (off : Nat) : gather t d 0 off = some [] := rfl
theorem gather_succ (t : Tr AV) (d : Option AV) (k off : Nat) (r : List AV) : gather t d (k + 1) off = some r ↔ ∃ v vs, look t d off = some v ∧ gather t d k (off + 1) = some vs ∧ r = v :: vs := by
  show (Option.rec none (fun v => Option.rec none (fun vs => some (v :: vs)) (gather t d k (off + 1))) (look t d off) : Option (List AV)) = some r ↔ _
  cases hx : look t d off with
  | none => simp
  | some y => cases hl : gather t d k (off + 1) with
    | none => simp
    | some ys => simp [eq_comm]
theorem gather_some {t : Tr AV} {d : Option AV} : ∀ {k off : Nat} {r : List AV}, gather t d k off = some r → r.length = k ∧ ∀ j, j < k → ∃ v, look t d (off + j) = some v ∧ r[j]? = some v := by
  intro k
  induction k with
  | zero => intro off r h; rw [gather_zero] at h; simp at h; subst h; simp
  | succ k ih =>
    intro off r h
    rw [gather_succ] at h
    obtain ⟨v, vs, h1, h2, rfl⟩ := h
    obtain ⟨h3, h4⟩ := ih h2
    refine ⟨by simp [h3], fun j hj => ?_⟩
    cases j with
    | zero => exact ⟨v, h1, rfl⟩
    | succ j =>
      obtain ⟨u, hu, hr⟩ := h4 j (by omega)
      exact ⟨u, by rw [show off + (j + 1) = off + 1 + j by omega]; exact hu, by simpa using hr⟩
theorem run_load_cell {w : World} {a : Addr} {v : Value} (h : w.cell? a = some v) : (load a).run P w = .ok v w := by
  rw [run_load, h]
theorem run_loadCellsFrom {w : World} {b s : Nat} : ∀ (vs : List Value) (i : Nat) (acc : Array Value), (∀ j, j < vs.length → w.cell? ⟨b, s + i + j, none⟩ = vs[j]?) →
    (loadCellsFrom ⟨b, s, none⟩ i vs.length acc).run P w = .ok (acc ++ vs.toArray) w
  | [], i, acc, _ => by simp [loadCellsFrom]
  | v :: vs, i, acc, h => by
    have h0 : w.cell? (Addr.add ⟨b, s, none⟩ i) = some v := by rw [addr_add]; simpa using h 0 (by simp)
    have ih := run_loadCellsFrom (w := w) (b := b) (s := s) vs (i + 1) (acc.push v) (fun j hj => by
      have := h (j + 1) (by simp; omega)
      rw [show s + (i + 1) + j = s + i + (j + 1) by omega]
      simpa using this)
    simp only [List.length_cons, loadCellsFrom, Sem.run_bind, run_load_cell h0, Result.andThen_ok, ih]
    congr 1
    apply Array.toList_inj.1
    simp
theorem run_loadCells {w : World} {b s : Nat} (vs : List Value) (h : ∀ j, j < vs.length → w.cell? ⟨b, s + j, none⟩ = vs[j]?) : (loadCells ⟨b, s, none⟩ vs.length).run P w = .ok vs.toArray w := by
  have := run_loadCellsFrom (P := P) (w := w) (b := b) (s := s) vs 0 #[] (by simpa using h)
  simpa [loadCells] using this
theorem Sim.cells {L : Nat → Loc} {H : Tr AObj} {w : World} (h : Sim L ρ H w) {id : Nat} {t : Tr AV} {d : Option AV} {n : Nat} {el : TypeId} {sz : Nat} (ho : H.get id = some (.cells t d n el sz))
    {k off : Nat} {cs : List AV} (hk : off + k ≤ n) (hc : gather t d k off = some cs) : (loadCells ⟨(L id).b, (L id).o + off, none⟩ k).run P w = .ok (cs.map (conc L ρ)).toArray w := by
  obtain ⟨h1, h2⟩ := gather_some hc
  have := run_loadCells (P := P) (w := w) (b := (L id).b) (s := (L id).o + off) (cs.map (conc L ρ)) (by
    intro j hj
    obtain ⟨v, hv, hr⟩ := h2 j (by simpa [h1] using hj)
    rw [Nat.add_assoc, h.cell ho (by simp at hj; omega) hv]
    simp [hr])
  rw [List.length_map, h1] at this
  exact this
theorem loadE_sound (ok : cx.Ok P) {H : Tr AObj} {t : TypeId} {a v : AV} (h : (loadE cx H t a).at_ ρ = some v) :
    ∀ (L : Nat → Loc) (w : World), Sim L ρ H w → (∃ ad, conc L ρ a = .pointer (some ad) ∧ (loadVar t ad).run P w = .ok (conc L ρ v) w) := by
  unfold loadE at h
  split at h
  · rename_i id off
    replace h := tyE_at.1 h; obtain ⟨ti, ht, h⟩ := h
    replace h := T.at_opt_some.1 h; obtain ⟨o, ho, h⟩ := h
    intro L w hs
    refine ⟨_, rfl, ?_⟩
    split at h
    case h_1 tr d n el sz =>
      cases ha : ti.agg with
      | true =>
        rw [ha, cond_true] at h
        replace h := chk_at h; obtain ⟨hc, h⟩ := h
        have hc := Nat.le_of_ble_eq_true hc
        replace h := T.at_opt_some.1 h; obtain ⟨cs, hcs, h⟩ := h
        simp only [T.at_ret, Option.some.injEq] at h
        subst h
        simp only [loadVar, Sem.run_bind, ok.run_agg ht, ha, Result.andThen_ok, if_true, ok.run_size ht, hs.cells ho hc hcs, Sem.run_pure, conc_agg]
      | false =>
        rw [ha, cond_false] at h
        replace h := chk_at h; obtain ⟨hc, h⟩ := h
        have hc := Nat.le_of_ble_eq_true hc
        replace h := T.at_opt_some.1 h; obtain ⟨u, hu, h⟩ := h
        simp only [T.at_ret, Option.some.injEq] at h
        subst h
        simp only [loadVar, Sem.run_bind, ok.run_agg ht, ha, Result.andThen_ok, Bool.false_eq_true, if_false]
        exact run_load_cell (hs.cell ho hc hu)
    case h_2 ri cs =>
      obtain ⟨h0, hb⟩ := hs.at_ id _ ho
      have hcell : ∀ j, w.cell? ⟨(L id).b, (L id).o + j, none⟩ = (cs.map (conc L ρ))[j]? := fun j => by
        rw [h0, Nat.zero_add]
        simp [World.cell?, hb]
      cases ha : ti.agg with
      | true =>
        rw [ha, cond_true] at h
        replace h := chk_at h; obtain ⟨hz, h⟩ := h
        replace h := chk_at h; obtain ⟨hc, h⟩ := h
        have hz := Nat.eq_of_beq_eq_true hz
        have hc := Nat.eq_of_beq_eq_true hc
        subst hz
        simp only [T.at_ret, Option.some.injEq] at h
        subst h
        have hl := run_loadCells (P := P) (w := w) (b := (L id).b) (s := (L id).o + 0) (cs.map (conc L ρ)) (fun j _ => by rw [Nat.add_zero]; exact hcell j)
        rw [List.length_map, ← llen_eq, hc] at hl
        simp only [loadVar, Sem.run_bind, ok.run_agg ht, ha, Result.andThen_ok, if_true, ok.run_size ht, hl, Sem.run_pure, conc_agg]
      | false =>
        rw [ha, cond_false] at h
        replace h := T.at_opt_some.1 h; obtain ⟨u, hu, h⟩ := h
        simp only [T.at_ret, Option.some.injEq] at h
        subst h
        simp only [loadVar, Sem.run_bind, ok.run_agg ht, ha, Result.andThen_ok, Bool.false_eq_true, if_false]
        rw [lget_eq] at hu
        exact run_load_cell (by rw [hcell]; simp [hu])
    case h_3 => simp [T.at_bad] at h
  · simp [T.at_bad] at h

/-! ## Maps -/
def concE (L : Nat → Loc) (ρ : Env) (e : AV × AV × Nat) : MapEntry := ⟨conc L ρ e.1, conc L ρ e.2.1, e.2.2⟩
theorem Sim.map {L : Nat → Loc} {H : Tr AObj} {w : World} (h : Sim L ρ H w) {id : Nat} {es : List (AV × AV × Nat)} {ck : Nat} (ho : H.get id = some (.map es ck)) :
    w.heap[(L id).b]? = some (.map (es.map (concE L ρ)).toArray ck) := h.at_ id _ ho
def notCells : Obj → Bool
  | .cells _ _ _ => false
  | _ => true
theorem run_getObj {w : World} {r : Nat} {o : Obj} (h : w.heap[r]? = some o) (hc : notCells o = true) : (getObj r).run P w = .ok o w := by
  simp only [getObj, Sem.run, h]
  cases o <;> first | rfl | (simp [notCells] at hc)
theorem findE_cons (ag : Bool) (qs : List Nat) (k : AV) (e : AV × AV × Nat) (es : List (AV × AV × Nat)) (i : Nat) (fx : Facts) :
    findE ag qs k (e :: es) i fx = (eqFlat ag qs k e.1 fx).bind fun p => Bool.rec (findE ag qs k es (i + 1) p.2) (.ret (some (i, e.2.1), p.2)) p.1 := rfl
theorem sameNow_of {d : Nat} {t : TypeId} {qs : List Nat} {dsc : TypeDesc} (hu : P.underlying t = some dsc) (h : kindsT P d t = some qs) (hst : ¬ ∃ fs, P.underlying t = some (.struct fs)) {x y : AV} {b : Bool}
    (he : eqAllD ρ qs [x] [y] = some b) (L : Nat → Loc) : Instr.sameNow dsc (conc L ρ x) (conc L ρ y) = some b := by
  rcases kindsT_agg h with ⟨k, hu', rfl⟩ | ⟨hu', rfl⟩ | ⟨hu', rfl⟩ | ⟨d', fs, e, hu', hs, hk⟩
  · rw [hu] at hu'; simp at hu'; subst hu'
    have := eqAllD_one he
    cases x <;> cases y <;> simp [eqOneD] at this
    obtain ⟨rfl, rfl⟩ := this
    simp [conc, Instr.sameNow]
  · rw [hu] at hu'; simp at hu'; subst hu'
    have := eqAllD_one he
    cases x <;> cases y <;> simp [eqOneD] at this
    subst this
    simp [conc, Instr.sameNow, conc_string_beq]
  · rw [hu] at hu'; simp at hu'; subst hu'
    have := eqAllD_one he
    cases x <;> cases y <;> simp [eqOneD] at this
    subst this
    simp [conc, Instr.sameNow]
  · exact absurd ⟨fs, hu'⟩ hst
/-- What a key's search comes to. -/
def concF (L : Nat → Loc) (ρ : Env) (r : Option (Nat × AV)) : Option (Nat × Value) := r.map fun p => (p.1, conc L ρ p.2)
theorem findE_sound (ok : cx.Ok P) {t : TypeId} {ti : TI} (ht : cx.tt.get t = some ti) {qs : List Nat} (hk : ti.kinds = some qs) {k : AV} : ∀ (es : List (AV × AV × Nat)) (i : Nat) {fx fx' : Facts} {r : Option (Nat × AV)},
    FxOk ρ fx → (findE ti.agg qs k es i fx).at_ ρ = some (r, fx') → FxOk ρ fx' ∧
      (∀ (L : Nat → Loc) (w : World), (Instr.findAsking t (conc L ρ k) (es.map (concE L ρ)) i).run P w = .ok (concF L ρ r) w) ∧
      (ti.agg = false → ∀ (L : Nat → Loc), Instr.findNow ti.desc (conc L ρ k) (es.map (concE L ρ)) i = some (concF L ρ r)) ∧
      (∀ j v, r = some (j, v) → i ≤ j ∧ ∃ e, es[j - i]? = some e ∧ e.2.1 = v ∧ Shaped ti.agg qs.length k ∧ Shaped ti.agg qs.length e.1 ∧ eqAllD ρ qs k.cells e.1.cells = some true) := by
  intro es
  induction es with
  | nil =>
    intro i fx fx' r hx h
    have h : (T.ret ((none : Option (Nat × AV)), fx)).at_ ρ = some (r, fx') := h
    replace h := ret_at h; obtain ⟨rfl, rfl⟩ := h
    exact ⟨hx, fun L w => rfl, fun _ L => rfl, by simp⟩
  | cons e es ih =>
    intro i fx fx' r hx h
    rw [findE_cons] at h
    replace h := T.at_bind_some.1 h
    obtain ⟨⟨b, fx1⟩, h1, h⟩ := h
    obtain ⟨hx1, s1, s2, hb, hrun⟩ := eqFlat_sound ok ht hk hx h1
    have hag := agg_struct ok ht hk
    have hk' := hk
    rw [ok.kinds _ _ ht] at hk'
    have hnow : ti.agg = false → ∀ L, Instr.sameNow ti.desc (conc L ρ k) (conc L ρ e.1) = some b := by
      intro ha L
      rw [ha] at s1 s2
      rw [s1.cells_false, s2.cells_false] at hb
      exact sameNow_of (ok.desc _ _ ht) hk' (fun hs => by rw [hag.2 hs] at ha; cases ha) hb L
    have heq : ∀ (L : Nat → Loc) (w : World), (Op.equal t (conc L ρ k) (conc L ρ e.1)).run P w = .ok b w := fun L w => hrun L 10000 w (by omega)
    cases b with
    | true =>
      have h : (T.ret (some (i, e.2.1), fx1)).at_ ρ = some (r, fx') := h
      replace h := ret_at h; obtain ⟨rfl, rfl⟩ := h
      refine ⟨hx1, fun L w => ?_, fun ha L => ?_, ?_⟩
      · simp only [List.map_cons, Instr.findAsking, Sem.run_bind]
        rw [show (concE L ρ e).key = conc L ρ e.1 from rfl, heq L w]
        rfl
      · simp only [List.map_cons, Instr.findNow]
        rw [show (concE L ρ e).key = conc L ρ e.1 from rfl, hnow ha L]
        rfl
      · intro j v hj
        simp at hj
        obtain ⟨rfl, rfl⟩ := hj
        exact ⟨Nat.le_refl _, e, by simp, rfl, s1, s2, hb⟩
    | false =>
      have h : (findE ti.agg qs k es (i + 1) fx1).at_ ρ = some (r, fx') := h
      obtain ⟨hx2, h1, h2, h3⟩ := ih (i + 1) hx1 h
      refine ⟨hx2, fun L w => ?_, fun ha L => ?_, ?_⟩
      · simp only [List.map_cons, Instr.findAsking, Sem.run_bind]
        rw [show (concE L ρ e).key = conc L ρ e.1 from rfl, heq L w]
        simpa using h1 L w
      · simp only [List.map_cons, Instr.findNow]
        rw [show (concE L ρ e).key = conc L ρ e.1 from rfl, hnow ha L]
        exact h2 ha L
      · intro j v hj
        obtain ⟨hle, e', he, hr⟩ := h3 j v hj
        refine ⟨by omega, e', ?_, hr⟩
        obtain ⟨m, rfl⟩ : ∃ m, j = i + 1 + m := ⟨j - (i + 1), by omega⟩
        rw [show i + 1 + m - i = m + 1 by omega]
        rw [show i + 1 + m - (i + 1) = m by omega] at he
        simpa using he
theorem findKey_sound (ok : cx.Ok P) {t : TypeId} {ti : TI} (ht : cx.tt.get t = some ti) {qs : List Nat} (hk : ti.kinds = some qs) {k : AV} {es : List (AV × AV × Nat)} {fx fx' : Facts} {r : Option (Nat × AV)}
    (hx : FxOk ρ fx) (h : (findE ti.agg qs k es 0 fx).at_ ρ = some (r, fx')) : FxOk ρ fx' ∧
      (∀ (L : Nat → Loc) (w : World), (Instr.findKey t (conc L ρ k) (es.map (concE L ρ))).run P w = .ok (concF L ρ r) w) ∧
      (∀ j v, r = some (j, v) → ∃ e, es[j]? = some e ∧ e.2.1 = v ∧ Shaped ti.agg qs.length k ∧ Shaped ti.agg qs.length e.1 ∧ eqAllD ρ qs k.cells e.1.cells = some true) := by
  obtain ⟨hx', h1, h2, h3⟩ := findE_sound ok ht hk es 0 hx h
  refine ⟨hx', fun L w => ?_, fun j v hj => by simpa using (h3 j v hj).2⟩
  have hd := ok.desc _ _ ht
  unfold Instr.findKey
  simp only [Sem.run_bind, run_underlying hd, Result.andThen_ok]
  cases ha : ti.agg with
  | false => rw [h2 ha L]; rfl
  | true =>
    obtain ⟨fs, hf⟩ := (agg_struct ok ht hk).1 ha
    rw [hd] at hf
    simp at hf
    cases es with
    | nil =>
      simp only [List.map_nil, Instr.findNow]
      have := h1 L w
      simp only [List.map_nil, Instr.findAsking] at this
      exact this
    | cons e es =>
      have : Instr.findNow ti.desc (conc L ρ k) ((e :: es).map (concE L ρ)) 0 = none := by
        rw [hf]
        simp only [List.map_cons, Instr.findNow]
        have : ∀ X Y, Instr.sameNow (.struct fs) X Y = none := by intro X Y; cases X <;> rfl
        rw [this]
      rw [this]
      exact h1 L w

/-- A key of known kinds passes the model's look at keys. -/
theorem run_checkKey_kinds : ∀ (d D : Nat) (t : TypeId) (qs : List Nat), kindsT P d t = some qs → d ≤ D → ∀ (L : Nat → Loc) (x : AV) (w : World) (ag empty : Bool),
    ((ag = true) ↔ ∃ fs, P.underlying t = some (.struct fs)) → Shaped ag qs.length x → (Instr.checkKey empty D t (conc L ρ x)).run P w = .ok () w := by
  intro d
  induction d with
  | zero => intro D t qs h; simp [kindsT] at h
  | succ d ih =>
    intro D t qs h hD L x w ag empty hag hx
    obtain ⟨D, rfl⟩ : ∃ m, D = m + 1 := ⟨D - 1, by omega⟩
    by_cases hst : ∃ fs, P.underlying t = some (.struct fs)
    · have hag : ag = true := hag.2 hst
      subst hag
      rcases kindsT_agg h with ⟨k, hu, rfl⟩ | ⟨hu, rfl⟩ | ⟨hu, rfl⟩ | ⟨d', fs, e, hu, hs, hk⟩
      · obtain ⟨fs, hf⟩ := hst; rw [hu] at hf; cases hf
      · obtain ⟨fs, hf⟩ := hst; rw [hu] at hf; cases hf
      · obtain ⟨fs, hf⟩ := hst; rw [hu] at hf; cases hf
      obtain rfl : d = d' := by omega
      cases x <;> simp [Shaped] at hx
      rename_i xs
      rw [conc_agg]
      unfold Instr.checkKey
      simp only [Sem.run_bind, run_underlying hu, Result.andThen_ok]
      rw [← Array.forIn_toList]
      have key : ∀ (fl : List Field) (off : Nat) (q : List Nat) (u : PUnit), kindsF P (kindsT P d) fl off = some q → off + q.length ≤ xs.length →
          (forIn fl u fun f (_ : PUnit) => (if f.name ≠ "_" then do
            let v ← part f.type (xs.map (conc L ρ)).toArray f.offset
            Instr.checkKey empty D f.type v
            pure (ForInStep.yield PUnit.unit) else pure (ForInStep.yield PUnit.unit) : Sem (ForInStep PUnit))).run P w = .ok PUnit.unit w := by
        intro fl
        induction fl with
        | nil => intro off q u hq h1; simp
        | cons f fl ihf =>
          intro off q u hq h1
          obtain ⟨hn, ho, a, q', ha, hal, hq', rfl⟩ := kindsF_cons hq
          subst ho
          rw [List.length_append] at h1
          obtain ⟨v, agv, hrv, hcv, hav, hsv⟩ := run_part_kinds (ρ := ρ) ha hal L w xs f.offset (by omega) hx.2
          simp only [List.forIn_cons, hn, ne_eq, not_false_eq_true, if_true, Sem.run_bind, hrv, Result.andThen_ok, ih D f.type a ha (by omega) L v w agv empty hav hsv, Sem.run_pure]
          exact ihf (f.offset + a.length) q' _ hq' (by omega)
      have := key fs.toList 0 qs PUnit.unit hk (by omega)
      rw [this]
      rfl
    · have hnb : ∃ dd, P.underlying t = some dd ∧ ((∃ k, dd = .int k) ∨ dd = .string ∨ dd = .bool) := by
        rcases kindsT_agg h with ⟨k, hu, rfl⟩ | ⟨hu, rfl⟩ | ⟨hu, rfl⟩ | ⟨d', fs, e, hu, hs, hk⟩
        · exact ⟨_, hu, .inl ⟨k, rfl⟩⟩
        · exact ⟨_, hu, .inr (.inl rfl)⟩
        · exact ⟨_, hu, .inr (.inr rfl)⟩
        · exact absurd ⟨fs, hu⟩ hst
      obtain ⟨dd, hu, hdd⟩ := hnb
      unfold Instr.checkKey
      simp only [Sem.run_bind, run_underlying hu, Result.andThen_ok]
      rcases hdd with ⟨k, rfl⟩ | rfl | rfl <;> rfl
end Ab
