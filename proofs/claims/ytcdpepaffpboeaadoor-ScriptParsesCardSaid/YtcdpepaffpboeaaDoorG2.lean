/- E, merged: parts 11 to 24: a verified abstract executor. No program's text is named here. -/
import Derived.Test.YtcdpepaffpboeaaDoorG1
import Derived.Laws.AppendOwn
import Derived.OrdersIn
import Derived.LoopNIn
/- E, part 11: operations that read. -/
namespace Ab
open Go

variable {P : Program} {cx : Ctx} {ρ : Env}

/-! ## Cells -/
theorem withCells_at {β : Type} {H : Tr AObj} {id : Nat} {f : Tr AV → Option AV → Nat → TypeId → Nat → T β} {r : β} (h : (withCells H id f).at_ ρ = some r) :
    ∃ t d n el sz, H.get id = some (.cells t d n el sz) ∧ (f t d n el sz).at_ ρ = some r := by
  unfold withCells at h
  replace h := T.at_opt_some.1 h; obtain ⟨o, ho, h⟩ := h
  split at h
  · exact ⟨_, _, _, _, _, ho, h⟩
  · simp [T.at_bad] at h
theorem withMap_at {β : Type} {H : Tr AObj} {id : Nat} {f : List (AV × AV × Nat) → Nat → T β} {r : β} (h : (withMap H id f).at_ ρ = some r) :
    ∃ es ck, H.get id = some (.map es ck) ∧ (f es ck).at_ ρ = some r := by
  unfold withMap at h
  replace h := T.at_opt_some.1 h; obtain ⟨o, ho, h⟩ := h
  split at h
  · exact ⟨_, _, ho, h⟩
  · simp [T.at_bad] at h
theorem cell_of_heap {w : World} {b : Nat} {c : Array Value} {el : TypeId} {fz : Nat × Nat} (h : w.heap[b]? = some (.cells c el fz)) (i : Nat) : w.cell? ⟨b, i, none⟩ = c[i]? := by
  simp [World.cell?, h]
theorem Sim.cell {L : Nat → Loc} {H : Tr AObj} {w : World} (h : Sim L ρ H w) {id : Nat} {t : Tr AV} {d : Option AV} {n : Nat} {el : TypeId} {sz : Nat} (ho : H.get id = some (.cells t d n el sz))
    {i : Nat} {v : AV} (hi : i < n) (hv : look t d i = some v) : w.cell? ⟨(L id).b, (L id).o + i, none⟩ = some (conc L ρ v) := by
  obtain ⟨c, fz, hc, _, _, hk, _⟩ := h.at_ id _ ho
  rw [cell_of_heap hc]
  exact hk i v hi hv
theorem gather_zero (t : Tr AV) (d : Option AV) (off : Nat) : gather t d 0 off = some [] := rfl
theorem gather_succ (t : Tr AV) (d : Option AV) (k off : Nat) (r : List AV) : gather t d (k + 1) off = some r ↔ ∃ v vs, look t d off = some v ∧ gather t d k (off + 1) = some vs ∧ r = v :: vs := by
  show (Option.rec none (fun v => Option.rec none (fun vs => some (v :: vs)) (gather t d k (off + 1))) (look t d off) : Option (List AV)) = some r ↔ _
  cases hx : look t d off with
  | none => simp
  | some y => cases hl : gather t d k (off + 1) with
    | none => simp
    | some ys => simp [eq_comm]
theorem gather_some {t : Tr AV} {d : Option AV} : ∀ {k off : Nat} {r : List AV}, gather t d k off = some r → r.length = k ∧ ∀ j, j < k → ∃ v, look t d (off + j) = some v ∧ r[j]? = some v := by
  intro k
  induction k with
  | zero => intro off r h; rw [gather_zero] at h; simp at h; subst h; simp
  | succ k ih =>
    intro off r h
    rw [gather_succ] at h
    obtain ⟨v, vs, h1, h2, rfl⟩ := h
    obtain ⟨h3, h4⟩ := ih h2
    refine ⟨by simp [h3], fun j hj => ?_⟩
    cases j with
    | zero => exact ⟨v, h1, rfl⟩
    | succ j =>
      obtain ⟨u, hu, hr⟩ := h4 j (by omega)
      exact ⟨u, by rw [show off + (j + 1) = off + 1 + j by omega]; exact hu, by simpa using hr⟩
theorem run_load_cell {w : World} {a : Addr} {v : Value} (h : w.cell? a = some v) : (load a).run P w = .ok v w := by
  rw [run_load, h]
theorem run_loadCellsFrom {w : World} {b s : Nat} : ∀ (vs : List Value) (i : Nat) (acc : Array Value), (∀ j, j < vs.length → w.cell? ⟨b, s + i + j, none⟩ = vs[j]?) →
    (loadCellsFrom ⟨b, s, none⟩ i vs.length acc).run P w = .ok (acc ++ vs.toArray) w
  | [], i, acc, _ => by simp [loadCellsFrom]
  | v :: vs, i, acc, h => by
    have h0 : w.cell? (Addr.add ⟨b, s, none⟩ i) = some v := by rw [addr_add]; simpa using h 0 (by simp)
    have ih := run_loadCellsFrom (w := w) (b := b) (s := s) vs (i + 1) (acc.push v) (fun j hj => by
      have := h (j + 1) (by simp; omega)
      rw [show s + (i + 1) + j = s + i + (j + 1) by omega]
      simpa using this)
    simp only [List.length_cons, loadCellsFrom, Sem.run_bind, run_load_cell h0, Result.andThen_ok, ih]
    congr 1
    apply Array.toList_inj.1
    simp
theorem run_loadCells {w : World} {b s : Nat} (vs : List Value) (h : ∀ j, j < vs.length → w.cell? ⟨b, s + j, none⟩ = vs[j]?) : (loadCells ⟨b, s, none⟩ vs.length).run P w = .ok vs.toArray w := by
  have := run_loadCellsFrom (P := P) (w := w) (b := b) (s := s) vs 0 #[] (by simpa using h)
  simpa [loadCells] using this
theorem Sim.cells {L : Nat → Loc} {H : Tr AObj} {w : World} (h : Sim L ρ H w) {id : Nat} {t : Tr AV} {d : Option AV} {n : Nat} {el : TypeId} {sz : Nat} (ho : H.get id = some (.cells t d n el sz))
    {k off : Nat} {cs : List AV} (hk : off + k ≤ n) (hc : gather t d k off = some cs) : (loadCells ⟨(L id).b, (L id).o + off, none⟩ k).run P w = .ok (cs.map (conc L ρ)).toArray w := by
  obtain ⟨h1, h2⟩ := gather_some hc
  have := run_loadCells (P := P) (w := w) (b := (L id).b) (s := (L id).o + off) (cs.map (conc L ρ)) (by
    intro j hj
    obtain ⟨v, hv, hr⟩ := h2 j (by simpa [h1] using hj)
    rw [Nat.add_assoc, h.cell ho (by simp at hj; omega) hv]
    simp [hr])
  rw [List.length_map, h1] at this
  exact this
theorem loadE_sound (ok : cx.Ok P) {H : Tr AObj} {t : TypeId} {a v : AV} (h : (loadE cx H t a).at_ ρ = some v) :
    ∀ (L : Nat → Loc) (w : World), Sim L ρ H w → (∃ ad, conc L ρ a = .pointer (some ad) ∧ (loadVar t ad).run P w = .ok (conc L ρ v) w) := by
  unfold loadE at h
  split at h
  · rename_i id off
    replace h := tyE_at.1 h; obtain ⟨ti, ht, h⟩ := h
    replace h := T.at_opt_some.1 h; obtain ⟨o, ho, h⟩ := h
    intro L w hs
    refine ⟨_, rfl, ?_⟩
    split at h
    case h_1 tr d n el sz =>
      cases ha : ti.agg with
      | true =>
        rw [ha, cond_true] at h
        replace h := chk_at h; obtain ⟨hc, h⟩ := h
        have hc := Nat.le_of_ble_eq_true hc
        replace h := T.at_opt_some.1 h; obtain ⟨cs, hcs, h⟩ := h
        simp only [T.at_ret, Option.some.injEq] at h
        subst h
        simp only [loadVar, Sem.run_bind, ok.run_agg ht, ha, Result.andThen_ok, if_true, ok.run_size ht, hs.cells ho hc hcs, Sem.run_pure, conc_agg]
      | false =>
        rw [ha, cond_false] at h
        replace h := chk_at h; obtain ⟨hc, h⟩ := h
        have hc := Nat.le_of_ble_eq_true hc
        replace h := T.at_opt_some.1 h; obtain ⟨u, hu, h⟩ := h
        simp only [T.at_ret, Option.some.injEq] at h
        subst h
        simp only [loadVar, Sem.run_bind, ok.run_agg ht, ha, Result.andThen_ok, Bool.false_eq_true, if_false]
        exact run_load_cell (hs.cell ho hc hu)
    case h_2 ri cs =>
      obtain ⟨h0, hb⟩ := hs.at_ id _ ho
      have hcell : ∀ j, w.cell? ⟨(L id).b, (L id).o + j, none⟩ = (cs.map (conc L ρ))[j]? := fun j => by
        rw [h0, Nat.zero_add]
        simp [World.cell?, hb]
      cases ha : ti.agg with
      | true =>
        rw [ha, cond_true] at h
        replace h := chk_at h; obtain ⟨hz, h⟩ := h
        replace h := chk_at h; obtain ⟨hc, h⟩ := h
        have hz := Nat.eq_of_beq_eq_true hz
        have hc := Nat.eq_of_beq_eq_true hc
        subst hz
        simp only [T.at_ret, Option.some.injEq] at h
        subst h
        have hl := run_loadCells (P := P) (w := w) (b := (L id).b) (s := (L id).o + 0) (cs.map (conc L ρ)) (fun j _ => by rw [Nat.add_zero]; exact hcell j)
        rw [List.length_map, ← llen_eq, hc] at hl
        simp only [loadVar, Sem.run_bind, ok.run_agg ht, ha, Result.andThen_ok, if_true, ok.run_size ht, hl, Sem.run_pure, conc_agg]
      | false =>
        rw [ha, cond_false] at h
        replace h := T.at_opt_some.1 h; obtain ⟨u, hu, h⟩ := h
        simp only [T.at_ret, Option.some.injEq] at h
        subst h
        simp only [loadVar, Sem.run_bind, ok.run_agg ht, ha, Result.andThen_ok, Bool.false_eq_true, if_false]
        rw [lget_eq] at hu
        exact run_load_cell (by rw [hcell]; simp [hu])
    case h_3 => simp [T.at_bad] at h
  · simp [T.at_bad] at h

/-! ## Maps -/
def concE (L : Nat → Loc) (ρ : Env) (e : AV × AV × Nat) : MapEntry := ⟨conc L ρ e.1, conc L ρ e.2.1, e.2.2⟩
theorem Sim.map {L : Nat → Loc} {H : Tr AObj} {w : World} (h : Sim L ρ H w) {id : Nat} {es : List (AV × AV × Nat)} {ck : Nat} (ho : H.get id = some (.map es ck)) :
    w.heap[(L id).b]? = some (.map (es.map (concE L ρ)).toArray ck) := h.at_ id _ ho
def notCells : Obj → Bool
  | .cells _ _ _ => false
  | _ => true
theorem run_getObj {w : World} {r : Nat} {o : Obj} (h : w.heap[r]? = some o) (hc : notCells o = true) : (getObj r).run P w = .ok o w := by
  simp only [getObj, Sem.run, h]
  cases o <;> first | rfl | (simp [notCells] at hc)
theorem findE_cons (ag : Bool) (qs : List Nat) (k : AV) (e : AV × AV × Nat) (es : List (AV × AV × Nat)) (i : Nat) (fx : Facts) :
    findE ag qs k (e :: es) i fx = (eqFlat ag qs k e.1 fx).bind fun p => Bool.rec (findE ag qs k es (i + 1) p.2) (.ret (some (i, e.2.1), p.2)) p.1 := rfl
theorem sameNow_of {d : Nat} {t : TypeId} {qs : List Nat} {dsc : TypeDesc} (hu : P.underlying t = some dsc) (h : kindsT P d t = some qs) (hst : ¬ ∃ fs, P.underlying t = some (.struct fs)) {x y : AV} {b : Bool}
    (he : eqAllD ρ qs [x] [y] = some b) (L : Nat → Loc) : Instr.sameNow dsc (conc L ρ x) (conc L ρ y) = some b := by
  rcases kindsT_agg h with ⟨k, hu', rfl⟩ | ⟨hu', rfl⟩ | ⟨hu', rfl⟩ | ⟨d', fs, e, hu', hs, hk⟩
  · rw [hu] at hu'; simp at hu'; subst hu'
    have := eqAllD_one he
    cases x <;> cases y <;> simp [eqOneD] at this
    obtain ⟨rfl, rfl⟩ := this
    simp [conc, Instr.sameNow]
  · rw [hu] at hu'; simp at hu'; subst hu'
    have := eqAllD_one he
    cases x <;> cases y <;> simp [eqOneD] at this
    subst this
    simp [conc, Instr.sameNow, conc_string_beq]
  · rw [hu] at hu'; simp at hu'; subst hu'
    have := eqAllD_one he
    cases x <;> cases y <;> simp [eqOneD] at this
    subst this
    simp [conc, Instr.sameNow]
  · exact absurd ⟨fs, hu'⟩ hst
/-- What a key's search comes to. -/
def concF (L : Nat → Loc) (ρ : Env) (r : Option (Nat × AV)) : Option (Nat × Value) := r.map fun p => (p.1, conc L ρ p.2)
theorem findE_sound (ok : cx.Ok P) {t : TypeId} {ti : TI} (ht : cx.tt.get t = some ti) {qs : List Nat} (hk : ti.kinds = some qs) {k : AV} : ∀ (es : List (AV × AV × Nat)) (i : Nat) {fx fx' : Facts} {r : Option (Nat × AV)},
    FxOk ρ fx → (findE ti.agg qs k es i fx).at_ ρ = some (r, fx') → FxOk ρ fx' ∧
      (∀ (L : Nat → Loc) (w : World), (Instr.findAsking t (conc L ρ k) (es.map (concE L ρ)) i).run P w = .ok (concF L ρ r) w) ∧
      (ti.agg = false → ∀ (L : Nat → Loc), Instr.findNow ti.desc (conc L ρ k) (es.map (concE L ρ)) i = some (concF L ρ r)) ∧
      (∀ j v, r = some (j, v) → i ≤ j ∧ ∃ e, es[j - i]? = some e ∧ e.2.1 = v ∧ Shaped ti.agg qs.length k ∧ Shaped ti.agg qs.length e.1 ∧ eqAllD ρ qs k.cells e.1.cells = some true) := by
  intro es
  induction es with
  | nil =>
    intro i fx fx' r hx h
    have h : (T.ret ((none : Option (Nat × AV)), fx)).at_ ρ = some (r, fx') := h
    replace h := ret_at h; obtain ⟨rfl, rfl⟩ := h
    exact ⟨hx, fun L w => rfl, fun _ L => rfl, by simp⟩
  | cons e es ih =>
    intro i fx fx' r hx h
    rw [findE_cons] at h
    replace h := T.at_bind_some.1 h
    obtain ⟨⟨b, fx1⟩, h1, h⟩ := h
    obtain ⟨hx1, s1, s2, hb, hrun⟩ := eqFlat_sound ok ht hk hx h1
    have hag := agg_struct ok ht hk
    have hk' := hk
    rw [ok.kinds _ _ ht] at hk'
    have hnow : ti.agg = false → ∀ L, Instr.sameNow ti.desc (conc L ρ k) (conc L ρ e.1) = some b := by
      intro ha L
      rw [ha] at s1 s2
      rw [s1.cells_false, s2.cells_false] at hb
      exact sameNow_of (ok.desc _ _ ht) hk' (fun hs => by rw [hag.2 hs] at ha; cases ha) hb L
    have heq : ∀ (L : Nat → Loc) (w : World), (Op.equal t (conc L ρ k) (conc L ρ e.1)).run P w = .ok b w := fun L w => hrun L 10000 w (by omega)
    cases b with
    | true =>
      have h : (T.ret (some (i, e.2.1), fx1)).at_ ρ = some (r, fx') := h
      replace h := ret_at h; obtain ⟨rfl, rfl⟩ := h
      refine ⟨hx1, fun L w => ?_, fun ha L => ?_, ?_⟩
      · simp only [List.map_cons, Instr.findAsking, Sem.run_bind]
        rw [show (concE L ρ e).key = conc L ρ e.1 from rfl, heq L w]
        rfl
      · simp only [List.map_cons, Instr.findNow]
        rw [show (concE L ρ e).key = conc L ρ e.1 from rfl, hnow ha L]
        rfl
      · intro j v hj
        simp at hj
        obtain ⟨rfl, rfl⟩ := hj
        exact ⟨Nat.le_refl _, e, by simp, rfl, s1, s2, hb⟩
    | false =>
      have h : (findE ti.agg qs k es (i + 1) fx1).at_ ρ = some (r, fx') := h
      obtain ⟨hx2, h1, h2, h3⟩ := ih (i + 1) hx1 h
      refine ⟨hx2, fun L w => ?_, fun ha L => ?_, ?_⟩
      · simp only [List.map_cons, Instr.findAsking, Sem.run_bind]
        rw [show (concE L ρ e).key = conc L ρ e.1 from rfl, heq L w]
        simpa using h1 L w
      · simp only [List.map_cons, Instr.findNow]
        rw [show (concE L ρ e).key = conc L ρ e.1 from rfl, hnow ha L]
        exact h2 ha L
      · intro j v hj
        obtain ⟨hle, e', he, hr⟩ := h3 j v hj
        refine ⟨by omega, e', ?_, hr⟩
        obtain ⟨m, rfl⟩ : ∃ m, j = i + 1 + m := ⟨j - (i + 1), by omega⟩
        rw [show i + 1 + m - i = m + 1 by omega]
        rw [show i + 1 + m - (i + 1) = m by omega] at he
        simpa using he
theorem findKey_sound (ok : cx.Ok P) {t : TypeId} {ti : TI} (ht : cx.tt.get t = some ti) {qs : List Nat} (hk : ti.kinds = some qs) {k : AV} {es : List (AV × AV × Nat)} {fx fx' : Facts} {r : Option (Nat × AV)}
    (hx : FxOk ρ fx) (h : (findE ti.agg qs k es 0 fx).at_ ρ = some (r, fx')) : FxOk ρ fx' ∧
      (∀ (L : Nat → Loc) (w : World), (Instr.findKey t (conc L ρ k) (es.map (concE L ρ))).run P w = .ok (concF L ρ r) w) ∧
      (∀ j v, r = some (j, v) → ∃ e, es[j]? = some e ∧ e.2.1 = v ∧ Shaped ti.agg qs.length k ∧ Shaped ti.agg qs.length e.1 ∧ eqAllD ρ qs k.cells e.1.cells = some true) := by
  obtain ⟨hx', h1, h2, h3⟩ := findE_sound ok ht hk es 0 hx h
  refine ⟨hx', fun L w => ?_, fun j v hj => by simpa using (h3 j v hj).2⟩
  have hd := ok.desc _ _ ht
  unfold Instr.findKey
  simp only [Sem.run_bind, run_underlying hd, Result.andThen_ok]
  cases ha : ti.agg with
  | false => rw [h2 ha L]; rfl
  | true =>
    obtain ⟨fs, hf⟩ := (agg_struct ok ht hk).1 ha
    rw [hd] at hf
    simp at hf
    cases es with
    | nil =>
      simp only [List.map_nil, Instr.findNow]
      have := h1 L w
      simp only [List.map_nil, Instr.findAsking] at this
      exact this
    | cons e es =>
      have : Instr.findNow ti.desc (conc L ρ k) ((e :: es).map (concE L ρ)) 0 = none := by
        rw [hf]
        simp only [List.map_cons, Instr.findNow]
        have : ∀ X Y, Instr.sameNow (.struct fs) X Y = none := by intro X Y; cases X <;> rfl
        rw [this]
      rw [this]
      exact h1 L w

/-- A key of known kinds passes the model's look at keys. -/
theorem run_checkKey_kinds : ∀ (d D : Nat) (t : TypeId) (qs : List Nat), kindsT P d t = some qs → d ≤ D → ∀ (L : Nat → Loc) (x : AV) (w : World) (ag empty : Bool),
    ((ag = true) ↔ ∃ fs, P.underlying t = some (.struct fs)) → Shaped ag qs.length x → (Instr.checkKey empty D t (conc L ρ x)).run P w = .ok () w := by
  intro d
  induction d with
  | zero => intro D t qs h; simp [kindsT] at h
  | succ d ih =>
    intro D t qs h hD L x w ag empty hag hx
    obtain ⟨D, rfl⟩ : ∃ m, D = m + 1 := ⟨D - 1, by omega⟩
    by_cases hst : ∃ fs, P.underlying t = some (.struct fs)
    · have hag : ag = true := hag.2 hst
      subst hag
      rcases kindsT_agg h with ⟨k, hu, rfl⟩ | ⟨hu, rfl⟩ | ⟨hu, rfl⟩ | ⟨d', fs, e, hu, hs, hk⟩
      · obtain ⟨fs, hf⟩ := hst; rw [hu] at hf; cases hf
      · obtain ⟨fs, hf⟩ := hst; rw [hu] at hf; cases hf
      · obtain ⟨fs, hf⟩ := hst; rw [hu] at hf; cases hf
      obtain rfl : d = d' := by omega
      cases x <;> simp [Shaped] at hx
      rename_i xs
      rw [conc_agg]
      unfold Instr.checkKey
      simp only [Sem.run_bind, run_underlying hu, Result.andThen_ok]
      rw [← Array.forIn_toList]
      have key : ∀ (fl : List Field) (off : Nat) (q : List Nat) (u : PUnit), kindsF P (kindsT P d) fl off = some q → off + q.length ≤ xs.length →
          (forIn fl u fun f (_ : PUnit) => (if f.name ≠ "_" then do
            let v ← part f.type (xs.map (conc L ρ)).toArray f.offset
            Instr.checkKey empty D f.type v
            pure (ForInStep.yield PUnit.unit) else pure (ForInStep.yield PUnit.unit) : Sem (ForInStep PUnit))).run P w = .ok PUnit.unit w := by
        intro fl
        induction fl with
        | nil => intro off q u hq h1; simp
        | cons f fl ihf =>
          intro off q u hq h1
          obtain ⟨hn, ho, a, q', ha, hal, hq', rfl⟩ := kindsF_cons hq
          subst ho
          rw [List.length_append] at h1
          obtain ⟨v, agv, hrv, hcv, hav, hsv⟩ := run_part_kinds (ρ := ρ) ha hal L w xs f.offset (by omega) hx.2
          simp only [List.forIn_cons, hn, ne_eq, not_false_eq_true, if_true, Sem.run_bind, hrv, Result.andThen_ok, ih D f.type a ha (by omega) L v w agv empty hav hsv, Sem.run_pure]
          exact ihf (f.offset + a.length) q' _ hq' (by omega)
      have := key fs.toList 0 qs PUnit.unit hk (by omega)
      rw [this]
      rfl
    · have hnb : ∃ dd, P.underlying t = some dd ∧ ((∃ k, dd = .int k) ∨ dd = .string ∨ dd = .bool) := by
        rcases kindsT_agg h with ⟨k, hu, rfl⟩ | ⟨hu, rfl⟩ | ⟨hu, rfl⟩ | ⟨d', fs, e, hu, hs, hk⟩
        · exact ⟨_, hu, .inl ⟨k, rfl⟩⟩
        · exact ⟨_, hu, .inr (.inl rfl)⟩
        · exact ⟨_, hu, .inr (.inr rfl)⟩
        · exact absurd ⟨fs, hu⟩ hst
      obtain ⟨dd, hu, hdd⟩ := hnb
      unfold Instr.checkKey
      simp only [Sem.run_bind, run_underlying hu, Result.andThen_ok]
      rcases hdd with ⟨k, rfl⟩ | rfl | rfl <;> rfl
end Ab

/- E, part 12: operations that read, together; operations that make memory. -/
namespace Ab
open Go

variable {P : Program} {cx : Ctx} {ρ : Env}

theorem kinds_shape (ok : cx.Ok P) {t : TypeId} {ti : TI} (ht : cx.tt.get t = some ti) {qs : List Nat} (hk : ti.kinds = some qs) {k : AV} (h : shapeOk ti.agg qs k = true) : Shaped ti.agg qs.length k := by
  have hag := agg_struct ok ht hk
  rw [ok.kinds _ _ ht] at hk
  exact shapeOk_iff h (fun ha => kindsT_plain hk (fun hs => by rw [hag.2 hs] at ha; cases ha))
theorem run_checkKey (ok : cx.Ok P) {t : TypeId} {ti : TI} (ht : cx.tt.get t = some ti) {qs : List Nat} (hk : ti.kinds = some qs) {k : AV} (h : shapeOk ti.agg qs k = true) (L : Nat → Loc) (w : World) (empty : Bool) :
    (Instr.checkKey empty 10000 t (conc L ρ k)).run P w = .ok () w := by
  have hag := agg_struct ok ht hk
  have hs := kinds_shape ok ht hk h
  rw [ok.kinds _ _ ht] at hk
  exact run_checkKey_kinds 8 10000 t qs hk (by omega) L k w ti.agg empty hag hs

theorem eqOneD_same {q : Nat} {x y : AV} (h : eqOneD ρ q x y = some true) (L : Nat → Loc) (n : Nat) : Instr.sameBits n (conc L ρ y) (conc L ρ x) = true := by
  unfold eqOneD at h
  split at h
  · split at h
    · rename_i hk
      subst hk
      simp at h
      cases n <;> simp [conc, Instr.sameBits, h]
    · cases h
  · simp at h
    cases n <;> simp only [conc, Instr.sameBits, conc_string_beq] <;> simp [h]
  · simp at h
    subst h
    cases n <;> simp [conc, Instr.sameBits]
  · cases h
theorem eqAllD_same : ∀ {qs : List Nat} {xs ys : List AV}, eqAllD ρ qs xs ys = some true → ∀ (L : Nat → Loc) (n : Nat),
    ys.length = xs.length ∧ ((ys.map (conc L ρ)).zip (xs.map (conc L ρ))).all (fun (x, y) => Instr.sameBits n x y) = true := by
  intro qs
  induction qs with
  | nil => intro xs ys h; cases xs <;> cases ys <;> simp [eqAllD] at h ⊢
  | cons q qs ih =>
    intro xs ys h L n
    cases xs <;> cases ys <;> simp only [eqAllD] at h <;> try (cases h)
    rename_i x xs y ys
    cases he : eqOneD ρ q x y with
    | none => simp [he] at h
    | some b =>
      rw [he] at h
      cases b with
      | false => simp at h
      | true =>
        obtain ⟨h1, h2⟩ := ih h L n
        refine ⟨by simp [h1], ?_⟩
        simp only [List.map_cons, List.zip_cons_cons, List.all_cons, eqOneD_same he L n, Bool.true_and]
        exact h2
theorem key_same {ag : Bool} {n : Nat} {qs : List Nat} {x y : AV} (hx : Shaped ag n x) (hy : Shaped ag n y) (h : eqAllD ρ qs x.cells y.cells = some true) (L : Nat → Loc) :
    Instr.sameBits 10000 (conc L ρ y) (conc L ρ x) = true := by
  cases ag with
  | false =>
    rw [hx.cells_false, hy.cells_false] at h
    obtain ⟨q, rfl⟩ : ∃ q, qs = [q] := by
      match qs, h with
      | [q], _ => exact ⟨q, rfl⟩
      | [], h => simp [eqAllD] at h
      | q :: q' :: qs, h =>
        simp only [eqAllD] at h
        split at h <;> first | (simp at h; done) | cases h
    exact eqOneD_same (eqAllD_one h) L _
  | true =>
    cases x <;> simp [Shaped] at hx
    cases y <;> simp [Shaped] at hy
    rename_i xs ys
    obtain ⟨h1, h2⟩ := eqAllD_same (xs := xs) (ys := ys) h L 9999
    rw [conc_agg, conc_agg]
    show (((ys.map (conc L ρ)).toArray.size == (xs.map (conc L ρ)).toArray.size) && ((ys.map (conc L ρ)).toArray.toList.zip (xs.map (conc L ρ)).toArray.toList).all fun (x, y) => Instr.sameBits 9999 x y) = true
    simp only [List.size_toArray, List.length_map, h1, beq_self_eq_true, Bool.true_and]
    exact h2

/-! ## Maps of which the order is not known -/
theorem perm_lift {α β : Type} (h : α → β) {a b : List β} (hp : a.Perm b) : ∀ m : List α, b = m.map h → ∃ m' : List α, m'.Perm m ∧ a = m'.map h := by
  induction hp with
  | nil => intro m e; exact ⟨m, List.Perm.refl _, e⟩
  | cons x _ ih =>
    intro m e
    cases m with
    | nil => cases e
    | cons y m =>
      rw [List.map_cons, List.cons.injEq] at e
      obtain ⟨m', h1, h2⟩ := ih m e.2
      exact ⟨y :: m', h1.cons y, by rw [List.map_cons, ← e.1, h2]⟩
  | swap x y l =>
    intro m e
    match m, e with
    | u :: v :: m, e =>
      simp only [List.map_cons, List.cons.injEq] at e
      exact ⟨v :: u :: m, List.Perm.swap u v m, by simp only [List.map_cons, e.1, e.2.1, e.2.2]⟩
  | trans _ _ ih1 ih2 =>
    intro m e
    obtain ⟨m1, h1, e1⟩ := ih2 m e
    obtain ⟨m2, h2, e2⟩ := ih1 m1 e1
    exact ⟨m2, h2.trans h1, e2⟩
theorem kval_cst0 {v : AV} (h : v.cst0 = true) (L : Nat → Loc) (ρ : Env) : conc L ρ v = kval v := by
  unfold AV.cst0 at h
  split at h <;> first | rfl | cases h
theorem kval_all (L : Nat → Loc) (ρ : Env) : ∀ {l : List AV}, allCst l = true → concs L ρ l = concs (fun _ => ⟨0, 0, 0⟩) kenv l
  | [], _ => rfl
  | v :: l, h => by
    have h : (bif v.cst0 then allCst l else false) = true := h
    cases hv : v.cst0 with
    | false => rw [hv] at h; cases h
    | true =>
      rw [hv, cond_true] at h
      simp only [concs]
      rw [kval_cst0 hv L ρ, kval_all L ρ h]
      rfl
theorem kval_cst {v : AV} (h : v.cst = true) (L : Nat → Loc) (ρ : Env) : conc L ρ v = kval v := by
  unfold AV.cst at h
  split at h
  · rename_i l
    show Value.agg _ = Value.agg _
    rw [kval_all L ρ h]
  · exact kval_cst0 h L ρ
theorem lift_ents (L : Nat → Loc) (ρ : Env) : ∀ (fs : List MapEntry) (m : List (AV × AV)), (∀ p ∈ m, p.1.cst = true ∧ p.2.cst = true) → (fs.map fun e => (e.key, e.val)) = (m.map fun p => (kval p.1, kval p.2)) →
    ∃ es : List (AV × AV × Nat), es.map (concE L ρ) = fs ∧ (es.map fun e => (e.1, e.2.1)) = m
  | [], [], _, _ => ⟨[], rfl, rfl⟩
  | [], _ :: _, _, h => by cases h
  | _ :: _, [], _, h => by cases h
  | f :: fs, p :: m, hc, h => by
    simp only [List.map_cons, List.cons.injEq, Prod.mk.injEq] at h
    obtain ⟨es, h1, h2⟩ := lift_ents L ρ fs m (fun q hq => hc q (List.mem_cons_of_mem _ hq)) h.2
    have hp := hc p List.mem_cons_self
    refine ⟨(p.1, p.2, f.born) :: es, ?_, ?_⟩
    · rw [List.map_cons, h1]
      show (⟨conc L ρ p.1, conc L ρ p.2, f.born⟩ : MapEntry) :: fs = f :: fs
      rw [kval_cst hp.1, kval_cst hp.2, ← h.1.1, ← h.1.2]
    · rw [List.map_cons, h2]
def locU (h : AV → Bool) : List (AV × AV) → Nat → Option (Nat × AV)
  | [], _ => none
  | p :: l, i => if h p.1 = true then some (i, p.2) else locU h l (i + 1)
theorem uHit_eq {ag : Bool} {qs : List Nat} {k e : AV} {b : Bool} (h : uHit ag qs k e = some b) : eqFlat ag qs k e [] = .ret (b, []) := by
  unfold uHit at h
  split at h
  · rename_i c hc
    cases h
    exact hc
  · cases h
theorem isHit_of {ag : Bool} {qs : List Nat} {k e : AV} {b : Bool} (h : uHit ag qs k e = some b) : isHit ag qs k e = b := by
  unfold isHit
  rw [h]
theorem findE_u (ag : Bool) (qs : List Nat) (k : AV) : ∀ (es : List (AV × AV × Nat)) (m : List (AV × AV)) (i : Nat), (es.map fun e => (e.1, e.2.1)) = m → (∀ p ∈ m, ∃ b, uHit ag qs k p.1 = some b) →
    findE ag qs k es i [] = .ret (locU (isHit ag qs k) m i, [])
  | [], [], i, _, _ => rfl
  | [], _ :: _, _, h, _ => by cases h
  | _ :: _, [], _, h, _ => by cases h
  | e :: es, p :: m, i, h, hd => by
    simp only [List.map_cons, List.cons.injEq] at h
    obtain ⟨b, hb⟩ := hd p List.mem_cons_self
    have ih := findE_u ag qs k es m (i + 1) h.2 (fun q hq => hd q (List.mem_cons_of_mem _ hq))
    have he : e.1 = p.1 := congrArg Prod.fst h.1
    have he2 : e.2.1 = p.2 := congrArg Prod.snd h.1
    rw [findE_cons, he, uHit_eq hb]
    unfold locU
    rw [isHit_of hb]
    cases b with
    | true =>
      rw [if_pos rfl, ← he2]
      rfl
    | false =>
      rw [if_neg (by decide)]
      exact ih
theorem locU_some {h : AV → Bool} : ∀ {m : List (AV × AV)} {i j : Nat} {v : AV}, locU h m i = some (j, v) → i ≤ j ∧ ∃ k, m[j - i]? = some (k, v) ∧ h k = true
  | [], i, j, v, hl => by cases hl
  | p :: m, i, j, v, hl => by
    unfold locU at hl
    split at hl
    · rename_i e
      simp only [Option.some.injEq, Prod.mk.injEq] at hl
      obtain ⟨rfl, rfl⟩ := hl
      exact ⟨Nat.le_refl _, p.1, by simp, e⟩
    · obtain ⟨h1, k, h2, h3⟩ := locU_some hl
      refine ⟨by omega, k, ?_, h3⟩
      rw [show j - i = (j - (i + 1)) + 1 by omega, List.getElem?_cons_succ]
      exact h2
theorem locU_none {h : AV → Bool} : ∀ {m : List (AV × AV)} {i : Nat}, locU h m i = none → ∀ p ∈ m, h p.1 = false
  | [], _, _, p, hp => by cases hp
  | q :: m, i, hl, p, hp => by
    unfold locU at hl
    split at hl
    · cases hl
    · rename_i e
      rcases List.mem_cons.1 hp with rfl | hp
      · simpa using e
      · exact locU_none hl p hp
theorem uHits_eq (ag : Bool) (qs : List Nat) (k : AV) : ∀ (es : List (AV × AV)), uHits ag qs k es = es.filter fun p => isHit ag qs k p.1
  | [] => rfl
  | p :: es => by
    show (bif isHit ag qs k p.1 then p :: uHits ag qs k es else uHits ag qs k es) = _
    rw [uHits_eq ag qs k es, List.filter_cons]
    cases isHit ag qs k p.1 <;> rfl
theorem uDel_eq (ag : Bool) (qs : List Nat) (k : AV) : ∀ (es : List (AV × AV)), uDel ag qs k es = es.filter fun p => !isHit ag qs k p.1
  | [] => rfl
  | p :: es => by
    show (bif isHit ag qs k p.1 then uDel ag qs k es else p :: uDel ag qs k es) = _
    rw [uDel_eq ag qs k es, List.filter_cons]
    cases isHit ag qs k p.1 <;> rfl
theorem uDec_at {ag : Bool} {qs : List Nat} {k : AV} : ∀ {es : List (AV × AV)}, uDec ag qs k es = true → ∀ p ∈ es, p.1.cst = true ∧ p.2.cst = true ∧ ∃ b, uHit ag qs k p.1 = some b
  | [], _, p, hp => by cases hp
  | q :: es, h, p, hp => by
    have h : (bif q.1.cst then (bif q.2.cst then Option.rec (motive := fun _ => Bool) false (fun _ => uDec ag qs k es) (uHit ag qs k q.1) else false) else false) = true := h
    cases h1 : q.1.cst with
    | false => rw [h1] at h; cases h
    | true =>
      rw [h1, cond_true] at h
      cases h2 : q.2.cst with
      | false => rw [h2] at h; cases h
      | true =>
        rw [h2, cond_true] at h
        cases h3 : uHit ag qs k q.1 with
        | none => rw [h3] at h; cases h
        | some b =>
          rw [h3] at h
          rcases List.mem_cons.1 hp with rfl | hp
          · exact ⟨h1, h2, b, h3⟩
          · exact uDec_at h p hp
/-- One place alone is hit. -/
theorem one_hit {h : AV → Bool} {m : List (AV × AV)} {p : AV × AV} (hf : m.filter (fun q => h q.1) = [p]) {i j : Nat} {a b : AV × AV} (hi : m[i]? = some a) (hj : m[j]? = some b) (ha : h a.1 = true) (hb : h b.1 = true) : i = j := by
  induction m generalizing i j with
  | nil => cases hi
  | cons q m ih =>
    rw [List.filter_cons] at hf
    cases hq : h q.1 with
    | false =>
      rw [hq] at hf
      cases i with
      | zero => simp only [List.getElem?_cons_zero, Option.some.injEq] at hi; subst hi; rw [hq] at ha; cases ha
      | succ i =>
        cases j with
        | zero => simp only [List.getElem?_cons_zero, Option.some.injEq] at hj; subst hj; rw [hq] at hb; cases hb
        | succ j =>
          rw [List.getElem?_cons_succ] at hi hj
          rw [ih (by simpa using hf) hi hj]
    | true =>
      rw [hq, if_pos rfl, List.cons.injEq] at hf
      have hn := hf.2
      rw [List.filter_eq_nil_iff] at hn
      cases i with
      | zero =>
        cases j with
        | zero => rfl
        | succ j => rw [List.getElem?_cons_succ] at hj; exact absurd hb (hn b (List.mem_of_getElem? hj))
      | succ i => rw [List.getElem?_cons_succ] at hi; exact absurd ha (hn a (List.mem_of_getElem? hi))
theorem withU_at {β : Type} {H : Tr AObj} {id : Nat} {qs : List Nat} {ag : Bool} {k : AV} {f : List (AV × AV) → Option AV → T β} {r : β} (h : (withU H id qs ag k f).at_ ρ = some r) :
    ∃ es o, H.get id = some (.mapU es) ∧ k.cst = true ∧ uDec ag qs k es = true ∧ ((o = none ∧ es.filter (fun p => isHit ag qs k p.1) = []) ∨ ∃ p, o = some p.2 ∧ es.filter (fun p => isHit ag qs k p.1) = [p]) ∧ (f es o).at_ ρ = some r := by
  unfold withU at h
  split at h
  · rename_i es ho
    cases hk : k.cst with
    | false => rw [hk] at h; simp [T.at_bad] at h
    | true =>
      rw [hk, cond_true] at h
      cases hu : uDec ag qs k es with
      | false => rw [hu] at h; simp [T.at_bad] at h
      | true =>
        rw [hu, cond_true] at h
        split at h
        · rename_i e
          rw [uHits_eq] at e
          exact ⟨es, none, ho, rfl, hu, .inl ⟨rfl, e⟩, h⟩
        · rename_i p e
          rw [uHits_eq] at e
          exact ⟨es, some p.2, ho, rfl, hu, .inr ⟨p, rfl, e⟩, h⟩
        · simp [T.at_bad] at h
  · simp [T.at_bad] at h
/-- What a key's search comes to in such a map. -/
theorem findKey_u (ok : cx.Ok P) {t : TypeId} {ti : TI} (ht : cx.tt.get t = some ti) {qs : List Nat} (hk : ti.kinds = some qs) {L : Nat → Loc} {w : World} {H : Tr AObj} (hs : Sim L ρ H w) {id : Nat} {es : List (AV × AV)}
    (ho : H.get id = some (.mapU es)) {k : AV} (hu : uDec ti.agg qs k es = true) : ∃ (fs : List MapEntry) (ck : Nat) (m : List (AV × AV)), w.heap[(L id).b]? = some (.map fs.toArray ck) ∧ m.Perm es ∧ (fs.map fun e => (e.key, e.val)) = (m.map fun p => (kval p.1, kval p.2)) ∧
      (Instr.findKey t (conc L ρ k) fs).run P w = .ok ((locU (isHit ti.agg qs k) m 0).map fun p => (p.1, conc L ρ p.2)) w ∧
      (∀ j v, locU (isHit ti.agg qs k) m 0 = some (j, v) → ∃ k' e, m[j]? = some (k', v) ∧ fs[j]? = some e ∧ e.key = conc L ρ k' ∧ isHit ti.agg qs k k' = true ∧ Instr.sameBits 10000 e.key (conc L ρ k) = true) := by
  obtain ⟨fs, ck, h1, h2⟩ := hs.at_ id _ ho
  obtain ⟨m, hm, e⟩ := perm_lift _ h2 es rfl
  have hcst : ∀ p ∈ m, p.1.cst = true ∧ p.2.cst = true := fun p hp => (fun q => ⟨q.1, q.2.1⟩) (uDec_at hu p (hm.mem_iff.1 hp))
  obtain ⟨es2, e1, e2⟩ := lift_ents L ρ fs m hcst e
  have hf := findE_u ti.agg qs k es2 m 0 e2 (fun p hp => (uDec_at hu p (hm.mem_iff.1 hp)).2.2)
  have hfx : FxOk ρ [] := fun p hp => by cases hp
  have hfk := findKey_sound ok ht hk (k := k) (es := es2) (r := locU (isHit ti.agg qs k) m 0) (fx' := []) hfx (by rw [hf]; rfl)
  have hrun := hfk.2.1 L w
  rw [e1] at hrun
  refine ⟨fs, ck, m, h1, hm, e, hrun, fun j v hj => ?_⟩
  obtain ⟨_, k', hk', hh⟩ := locU_some hj
  rw [Nat.sub_zero] at hk'
  obtain ⟨e0, he0, _, s1, s2, heq⟩ := hfk.2.2 j v hj
  have hee : (es2.map fun e => (e.1, e.2.1))[j]? = some (k', v) := by rw [e2]; exact hk'
  rw [List.getElem?_map, he0] at hee
  simp only [Option.map_some, Option.some.injEq, Prod.mk.injEq] at hee
  have hfs : fs[j]? = some (concE L ρ e0) := by rw [← e1, List.getElem?_map, he0]; rfl
  refine ⟨k', _, hk', hfs, ?_, hh, ?_⟩
  · show conc L ρ e0.1 = _
    rw [hee.1]
  · exact key_same s1 s2 heq L
def lookV (okb : Bool) (c : AV → Value) (z : AV) (o : Option AV) : Value := match o with
  | some u => if okb then .tuple #[c u, .bool true] else c u
  | none => if okb then .tuple #[c z, .bool false] else c z
theorem lookupE_sound (ok : cx.Ok P) {H : Tr AObj} {t : TypeId} {m k v : AV} {okb : Bool} {fx fx' : Facts} (hx : FxOk ρ fx) (h : (lookupE cx H t m k okb fx).at_ ρ = some (v, fx')) :
    FxOk ρ fx' ∧ ∀ (L : Nat → Loc) (w : World), Sim L ρ H w → (Instr.lookup t (conc L ρ m) (conc L ρ k) okb).run P w = .ok (conc L ρ v) w := by
  unfold lookupE at h
  replace h := tyE_at.1 h; obtain ⟨ti, ht, h⟩ := h
  have hd := ok.desc _ _ ht
  split at h
  case h_2 => simp [T.at_bad] at h
  rename_i kt el hdd
  rw [hdd] at hd
  replace h := tyE_at.1 h; obtain ⟨ki, hki, h⟩ := h
  replace h := T.at_opt_some.1 h; obtain ⟨qs, hqs, h⟩ := h
  replace h := chk_at h; obtain ⟨hsh, h⟩ := h
  replace h := tyE_at.1 h; obtain ⟨ei, hei, h⟩ := h
  replace h := T.at_opt_some.1 h; obtain ⟨z, hz, h⟩ := h
  have hck := fun L w e => run_checkKey (ρ := ρ) ok hki hqs hsh L w e
  have hzr := fun L w => ok.run_zero (ρ := ρ) hei hz L w
  split at h
  · replace h := ret_at h; obtain ⟨rfl, rfl⟩ := h
    refine ⟨hx, fun L w hs => ?_⟩
    obtain ⟨dk, hdk⟩ : ∃ dk, P.underlying kt = some dk := ⟨_, ok.desc _ _ hki⟩
    have hfk : (Instr.findKey kt (conc L ρ k) []).run P w = .ok none w := by
      unfold Instr.findKey
      simp only [Sem.run_bind, run_underlying hdk, Result.andThen_ok, Instr.findNow]
      rfl
    simp only [conc, Instr.lookup, Sem.run_bind, run_underlying hd, Result.andThen_ok, Sem.run_pure, hck, hfk, hzr L w]
    cases okb <;> simp [conc, concs]
  · rename_i id
    cases hU : isU H id with
    | true =>
      rw [hU, cond_true] at h
      obtain ⟨es, o, ho, hkc, hu, hone, h⟩ := withU_at h
      have main : ∀ (L : Nat → Loc) (w : World), Sim L ρ H w → (Instr.lookup t (.map (some (L id).b)) (conc L ρ k) okb).run P w =
          .ok (lookV okb (conc L ρ) z o) w := by
        intro L w hs
        obtain ⟨fs, ck, m, h1, hm, hp, h3, h4⟩ := findKey_u ok hki hqs hs ho hu
        have hg := run_getObj (P := P) h1 rfl
        have hloc : (locU (isHit ki.agg qs k) m 0).map (·.2) = o := by
          have hfil := hm.filter (fun p => isHit ki.agg qs k p.1)
          cases hl : locU (isHit ki.agg qs k) m 0 with
          | none =>
            have hnil : m.filter (fun p => isHit ki.agg qs k p.1) = [] := List.filter_eq_nil_iff.2 (fun p hp => by rw [locU_none hl p hp]; decide)
            rw [hnil] at hfil
            rcases hone with ⟨rfl, _⟩ | ⟨p, rfl, e⟩
            · rfl
            · rw [e] at hfil
              exact absurd hfil.length_eq (by simp)
          | some q =>
            obtain ⟨j, v⟩ := q
            obtain ⟨_, k', hk', hh⟩ := locU_some hl
            have hin : (k', v) ∈ m.filter (fun p => isHit ki.agg qs k p.1) := List.mem_filter.2 ⟨List.mem_of_getElem? hk', hh⟩
            have hin2 := hfil.mem_iff.1 hin
            rcases hone with ⟨_, e⟩ | ⟨p, rfl, e⟩
            · rw [e] at hin2; cases hin2
            · rw [e] at hin2
              rw [← List.mem_singleton.1 hin2]
              rfl
        unfold Instr.lookup
        simp only [Sem.run_bind, run_underlying hd, Result.andThen_ok, Sem.run_pure, hck, hg, h3]
        rw [← hloc]
        cases hl : locU (isHit ki.agg qs k) m 0 with
        | none => simp [lookV, hzr L w]
        | some p => simp [lookV]
      cases o with
      | none =>
        replace h := ret_at h; obtain ⟨rfl, rfl⟩ := h
        refine ⟨hx, fun L w hs => ?_⟩
        have := main L w hs
        simp only [conc] at this ⊢
        rw [this]
        cases okb <;> simp [conc, concs, lookV]
      | some u =>
        replace h := ret_at h; obtain ⟨rfl, rfl⟩ := h
        refine ⟨hx, fun L w hs => ?_⟩
        have := main L w hs
        simp only [conc] at this ⊢
        rw [this]
        cases okb <;> simp [conc, concs, lookV]
    | false =>
    rw [hU, cond_false] at h
    replace h := withMap_at h; obtain ⟨es, ck, ho, h⟩ := h
    replace h := T.at_bind_some.1 h; obtain ⟨⟨r, fx1⟩, hf, h⟩ := h
    obtain ⟨hx1, hrun, _⟩ := findKey_sound ok hki hqs hx hf
    dsimp only at h
    have main : ∀ (L : Nat → Loc) (w : World), Sim L ρ H w → (Instr.lookup t (.map (some (L id).b)) (conc L ρ k) okb).run P w =
        .ok (match r with | some (_, u) => (if okb then .tuple #[conc L ρ u, .bool true] else conc L ρ u) | none => (if okb then .tuple #[conc L ρ z, .bool false] else conc L ρ z)) w := by
      intro L w hs
      have hg := run_getObj (P := P) (hs.map ho) rfl
      unfold Instr.lookup
      simp only [Sem.run_bind, run_underlying hd, Result.andThen_ok, Sem.run_pure, hck, hg, hrun L w]
      cases r with
      | none => simp [concF, hzr L w]
      | some p => simp [concF]
    cases r with
    | none =>
      replace h := ret_at h; obtain ⟨rfl, rfl⟩ := h
      refine ⟨hx1, fun L w hs => ?_⟩
      have := main L w hs
      simp only [conc] at this ⊢
      rw [this]
      cases okb <;> simp [conc, concs]
    | some p =>
      obtain ⟨j, u⟩ := p
      replace h := ret_at h; obtain ⟨rfl, rfl⟩ := h
      refine ⟨hx1, fun L w hs => ?_⟩
      have := main L w hs
      simp only [conc] at this ⊢
      rw [this]
      cases okb <;> simp [conc, concs]
  · simp [T.at_bad] at h

theorem lenE_sound (ok : cx.Ok P) {H : Tr AObj} {t : TypeId} {x v : AV} {fx fx' : Facts} (h : (lenE cx H t x fx).at_ ρ = some (v, fx')) :
    fx' = fx ∧ ∀ (L : Nat → Loc) (w : World) (ty : TypeId), Sim L ρ H w → (Builtin.len_ #[t] ty #[conc L ρ x]).run P w = .ok (conc L ρ v) w := by
  unfold lenE at h
  replace h := tyE_at.1 h; obtain ⟨ti, ht, h⟩ := h
  have hd := ok.desc _ _ ht
  split at h
  case h_1 s hdd =>
    rw [hdd] at hd
    replace h := ret_at h; obtain ⟨rfl, rfl⟩ := h
    refine ⟨rfl, fun L w ty hs => ?_⟩
    simp [Builtin.len_, run_underlying hd, conc, STm.den, size_mk, Tm.den, llen_eq, goInt]
  case h_2 i hdd =>
    rw [hdd] at hd
    replace h := ret_at h; obtain ⟨rfl, rfl⟩ := h
    refine ⟨rfl, fun L w ty hs => ?_⟩
    simp [Builtin.len_, run_underlying hd, conc, STm.den, size_mk, Tm.den, goInt]
  case h_3 l hdd =>
    rw [hdd] at hd
    replace h := ret_at h; obtain ⟨rfl, rfl⟩ := h
    refine ⟨rfl, fun L w ty hs => ?_⟩
    simp [Builtin.len_, run_underlying hd, conc, STm.den, size_mk, Tm.den, llen_eq, goInt]
  case h_4 hdd =>
    rw [hdd] at hd
    replace h := ret_at h; obtain ⟨rfl, rfl⟩ := h
    refine ⟨rfl, fun L w ty hs => ?_⟩
    simp [Builtin.len_, run_underlying hd, conc, Tm.den, goInt]
  case h_5 hdd =>
    rw [hdd] at hd
    replace h := ret_at h; obtain ⟨rfl, rfl⟩ := h
    refine ⟨rfl, fun L w ty hs => ?_⟩
    simp [Builtin.len_, run_underlying hd, conc, Tm.den, goInt]
  case h_6 i hdd =>
    rw [hdd] at hd
    replace h := ret_at h; obtain ⟨rfl, rfl⟩ := h
    refine ⟨rfl, fun L w ty hs => ?_⟩
    simp [Builtin.len_, run_underlying hd, conc, Tm.den, goInt]
  case h_7 g i hdd =>
    rw [hdd] at hd
    replace h := ret_at h; obtain ⟨rfl, rfl⟩ := h
    refine ⟨rfl, fun L w ty hs => ?_⟩
    simp [Builtin.len_, run_underlying hd, conc, Tm.den, goInt]
  case h_8 hdd =>
    rw [hdd] at hd
    replace h := ret_at h; obtain ⟨rfl, rfl⟩ := h
    refine ⟨rfl, fun L w ty hs => ?_⟩
    simp [Builtin.len_, run_underlying hd, conc, Tm.den, goInt]
  case h_9 id hdd =>
    rw [hdd] at hd
    cases hU : isU H id with
    | true =>
      rw [hU, cond_true] at h
      split at h
      · rename_i es ho
        replace h := ret_at h; obtain ⟨rfl, rfl⟩ := h
        refine ⟨rfl, fun L w ty hs => ?_⟩
        obtain ⟨fs, ck, h1, h2⟩ := hs.at_ id _ ho
        have hg := run_getObj (P := P) h1 rfl
        have hl : fs.length = es.length := by have := h2.length_eq; simpa using this
        simp [Builtin.len_, run_underlying hd, conc, hg, Tm.den, llen_eq, goInt, hl]
      · simp [T.at_bad] at h
    | false =>
    rw [hU, cond_false] at h
    replace h := withMap_at h; obtain ⟨es, ck, ho, h⟩ := h
    replace h := ret_at h; obtain ⟨rfl, rfl⟩ := h
    refine ⟨rfl, fun L w ty hs => ?_⟩
    have hg := run_getObj (P := P) (hs.map ho) rfl
    simp [Builtin.len_, run_underlying hd, conc, hg, Tm.den, llen_eq, goInt]
  case h_10 n hdd =>
    rw [hdd] at hd
    replace h := ret_at h; obtain ⟨rfl, rfl⟩ := h
    refine ⟨rfl, fun L w ty hs => ?_⟩
    simp [Builtin.len_, run_underlying hd, conc, Tm.den, goInt]
  case h_11 => simp [T.at_bad] at h

theorem constBytes_map {l : List Tm} {r : List UInt8} (h : constBytes l = some r) : l.map (fun t => byteOf (t.den ρ)) = r := by
  have := lopt_map (fun x : UInt8 => x) (fun t : Tm => byteOf (t.den ρ)) (by
    intro x y hxy
    split at hxy
    · simp at hxy; subst hxy; rfl
    · cases hxy) h
  simpa using this.symm
theorem textOf_den (l : List Tm) : (textOf l).den ρ = l.map fun t => byteOf (t.den ρ) := by
  unfold textOf
  cases h : constBytes l with
  | none => rfl
  | some r => exact (constBytes_map h).symm
theorem bytesOf_map {l : List AV} {r : List Tm} (L : Nat → Loc) (h : bytesOf l = some r) : l.map (conc L ρ) = r.map fun t => .int .u8 (t.den ρ) := by
  have := lopt_map (fun t : Tm => (Value.int .u8 (t.den ρ))) (conc L ρ) (by
    intro x y hxy
    split at hxy
    · simp at hxy; subst hxy; simp [conc]
    · cases hxy) h
  exact this.symm
theorem run_bytesString {w : World} {b s len cap : Nat} {ts : List Tm} (h : (loadCells ⟨b, s, none⟩ len).run P w = .ok (ts.map fun t => Value.int .u8 (t.den ρ)).toArray w) :
    (Conv.bytesToString (.slice (some ⟨b, s, none⟩) len cap)).run P w = .ok (.string ⟨(ts.map fun t => byteOf (t.den ρ)).toArray⟩) w := by
  unfold Conv.bytesToString
  simp only [Sem.run_bind, h, Result.andThen_ok]
  rw [← Array.forIn_toList]
  have key : ∀ (ts : List Tm) (acc : ByteArray), (forIn (ts.map fun t => Value.int .u8 (t.den ρ)) acc fun c (r : ByteArray) =>
      (match c with
        | .int .u8 n => pure (ForInStep.yield (r.push (UInt8.ofNat n.toNat)))
        | _ => do
          stuck "bytesToString: byte expected"
          pure (ForInStep.yield r) : Sem (ForInStep ByteArray))).run P w = .ok ⟨acc.data ++ (ts.map fun t => byteOf (t.den ρ)).toArray⟩ w := by
    intro ts
    induction ts with
    | nil => intro acc; simp
    | cons t ts ih =>
      intro acc
      simp only [List.map_cons, List.forIn_cons, Sem.run_bind, Sem.run_pure, Result.andThen_ok]
      rw [ih]
      congr 1
      apply ByteArray.ext
      simp [ByteArray.push, byteOf]
  have := key ts ByteArray.empty
  refine (congrArg (fun r => Result.andThen r (fun a w' => Sem.run P (pure (Value.string a)) w')) this).trans ?_
  simp only [Result.andThen_ok, Sem.run_pure]
  congr 2
  apply ByteArray.ext
  simp
theorem bytesStrE_sound (ok : cx.Ok P) {H : Tr AObj} {s d : TypeId} {x v : AV} {fx fx' : Facts} (h : (bytesStrE cx H s d x fx).at_ ρ = some (v, fx')) :
    fx' = fx ∧ ∀ (L : Nat → Loc) (w : World), Sim L ρ H w → (convert s d (conc L ρ x)).run P w = .ok (conc L ρ v) w := by
  unfold bytesStrE at h
  replace h := tyE_at.1 h; obtain ⟨si, hsi, h⟩ := h
  replace h := tyE_at.1 h; obtain ⟨di, hdi, h⟩ := h
  have h1 := ok.desc _ _ hsi
  have h2 := ok.desc _ _ hdi
  split at h
  case h_2 => simp [T.at_bad] at h
  rename_i el e1 e2
  rw [e1] at h1
  rw [e2] at h2
  replace h := tyE_at.1 h; obtain ⟨ei, hei, h⟩ := h
  have h3 := ok.desc _ _ hei
  split at h
  case h_2 => simp [T.at_bad] at h
  rename_i e3
  rw [e3] at h3
  have red : ∀ (X : Value) (w : World), (∀ k n, X ≠ .int k n) → (∀ k n, X ≠ .float k n) → (∀ k a b, X ≠ .complex k a b) → (∀ b, X ≠ .string b) →
      (convert s d X).run P w = (Conv.bytesToString X).run P w := by
    intro X w n1 n2 n3 n4
    unfold convert
    simp only [Sem.run_bind, run_underlying h1, run_underlying h2, Result.andThen_ok]
    cases X <;> first
      | exact absurd rfl (n1 _ _)
      | exact absurd rfl (n2 _ _)
      | exact absurd rfl (n3 _ _ _)
      | exact absurd rfl (n4 _)
      | (simp only [run_underlying h3, Result.andThen_ok])
  split at h
  · replace h := ret_at h; obtain ⟨rfl, rfl⟩ := h
    refine ⟨rfl, fun L w hs => ?_⟩
    rw [red _ _ (by simp [conc]) (by simp [conc]) (by simp [conc]) (by simp [conc])]
    simp only [conc, STm.den]
    rfl
  · rename_i id off0 off len cap op
    cases hb : Nat.beq len 0 with
    | true =>
      have hl := Nat.eq_of_beq_eq_true hb
      subst hl
      simp only [hb, cond_true] at h
      replace h := ret_at h; obtain ⟨rfl, rfl⟩ := h
      refine ⟨rfl, fun L w hs => ?_⟩
      rw [red _ _ (by simp [conc]) (by simp [conc]) (by simp [conc]) (by simp [conc])]
      have := run_bytesString (P := P) (ρ := ρ) (w := w) (b := (L id).b) (s := (L id).o + (if cap + (if op then (L id).x else 0) = 0 then off0 else off)) (len := 0) (cap := cap + (if op then (L id).x else 0)) (ts := []) rfl
      simp only [conc]
      exact this
    | false =>
      simp only [hb, cond_false] at h
      replace h := chk_at h; obtain ⟨hc, h⟩ := h
      have hc := Nat.le_of_ble_eq_true hc
      replace h := withCells_at h; obtain ⟨tr, dd, n, el', sz, ho, h⟩ := h
      replace h := chk_at h; obtain ⟨hn, h⟩ := h
      have hn := Nat.le_of_ble_eq_true hn
      replace h := T.at_opt_some.1 h; obtain ⟨cs, hcs, h⟩ := h
      replace h := T.at_opt_some.1 h; obtain ⟨ts, hts, h⟩ := h
      replace h := ret_at h; obtain ⟨rfl, rfl⟩ := h
      refine ⟨rfl, fun L w hs => ?_⟩
      rw [red _ _ (by simp [conc]) (by simp [conc]) (by simp [conc]) (by simp [conc])]
      have hl := hs.cells (P := P) ho hn hcs
      rw [bytesOf_map L hts] at hl
      have := run_bytesString (P := P) (cap := cap + (if op then (L id).x else 0)) hl
      simp only [conc, textOf_den]
      rw [if_neg (by omega)]
      exact this
  · simp [T.at_bad] at h

/-- OPERATIONS THAT READ: in a world in which the heap lies they yield what E says. -/
theorem selT_den (m : Nat) (t : Tm) : (selT m t).den ρ = ρ.num (m + (t.den ρ).toNat) := by
  unfold selT
  split
  · rfl
  · rfl
theorem loadFE_sound (ok : cx.Ok P) {H : Tr AObj} {t : TypeId} {gi i : Nat} {j : Tm} {v : AV} {fx fx' : Facts} (hx : FxOk ρ fx) (h : (loadFE cx H t gi i j fx).at_ ρ = some (v, fx')) :
    fx' = fx ∧ ∀ (L : Nat → Loc) (w : World), Sim L ρ H w → (loadVar t ⟨(L gi).b, (L gi).o + (j.den ρ).toNat, none⟩).run P w = .ok (conc L ρ v) w := by
  unfold loadFE at h
  replace h := tyE_at.1 h; obtain ⟨ti, ht, h⟩ := h
  replace h := chk_at h; obtain ⟨ha, h⟩ := h
  replace h := chk_at h; obtain ⟨h0, h⟩ := h
  have h0 := nonneg_at hx h0
  replace h := chk_at h; obtain ⟨hk, h⟩ := h
  replace h := T.at_opt_some.1 h; obtain ⟨o, ho, h⟩ := h
  split at h
  · rename_i k i' m
    replace h := chk_at h; obtain ⟨hi, h⟩ := h
    have hi := Nat.eq_of_beq_eq_true hi
    replace h := ret_at h; obtain ⟨rfl, rfl⟩ := h
    subst hi
    refine ⟨rfl, fun L w hs => ?_⟩
    obtain ⟨hb, c, el, fz, he, hc⟩ := hs.at_ gi _ ho
    rw [he] at hb
    have hlt : j.den ρ < ((ρ.txt i).length : Int) := of_decide_eq_true (knownSo_at hx hk)
    have hcell := hc (j.den ρ).toNat (by omega)
    rw [← selT_den] at hcell
    have ha : ti.agg = false := by cases h : ti.agg <;> rw [h] at ha <;> first | rfl | cases ha
    simp only [loadVar, Sem.run_bind, ok.run_agg ht, ha, Result.andThen_ok, Bool.false_eq_true, if_false]
    exact run_load_cell (by simp [World.cell?, hb]; exact hcell)
  · simp [T.at_bad] at h
theorem readE_sound (ok : cx.Ok P) {g : Operand → Option AV} {op : Op} {H : Tr AObj} {v : AV} {fx fx' : Facts} (hx : FxOk ρ fx) (h : (readE cx g op H fx).at_ ρ = some (v, fx')) :
    FxOk ρ fx' ∧ ∀ (L : Nat → Loc) (w : World) (a : Operand → Value) (o : Oper), o.op = op → GRel L ρ g a → Sim L ρ H w → (execOp a o).run P w = .ok (.value (conc L ρ v)) w := by
  unfold readE at h
  split at h
  case h_1 t x =>
    replace h := gE_at.1 h; obtain ⟨u, hu, h⟩ := h
    unfold AV.onFp at h
    split at h
    · rename_i gi i j
      obtain ⟨rfl, hrun⟩ := loadFE_sound ok hx h
      refine ⟨hx, fun L w a o ho hg hs => ?_⟩
      unfold execOp; rw [ho]
      have had : conc L ρ (.fptr gi i j) = .pointer (some ⟨(L gi).b, (L gi).o + (j.den ρ).toNat, none⟩) := rfl
      simp only [hg _ _ hu, had, Instr.loadAt, Instr.sureAddr, Sem.run_bind, Sem.run_pure, Result.andThen_ok, hrun L w hs]
    · replace h := T.at_bind_some.1 h; obtain ⟨r, hl, h⟩ := h
      replace h := ret_at h; obtain ⟨rfl, rfl⟩ := h
      refine ⟨hx, fun L w a o ho hg hs => ?_⟩
      obtain ⟨ad, had, hrun⟩ := loadE_sound ok hl L w hs
      unfold execOp; rw [ho]
      simp only [hg _ _ hu, had, Instr.loadAt, Instr.sureAddr, Sem.run_bind, Sem.run_pure, Result.andThen_ok, hrun]
  case h_2 t m k okb =>
    replace h := gE_at.1 h; obtain ⟨u, hu, h⟩ := h
    replace h := gE_at.1 h; obtain ⟨u', hu', h⟩ := h
    obtain ⟨h1, h2⟩ := lookupE_sound ok hx h
    refine ⟨h1, fun L w a o ho hg hs => ?_⟩
    unfold execOp; rw [ho]
    simp only [hg _ _ hu, hg _ _ hu', Sem.run_bind, h2 L w hs, Result.andThen_ok]; rfl
  case h_3 s d x =>
    replace h := gE_at.1 h; obtain ⟨u, hu, h⟩ := h
    obtain ⟨rfl, h2⟩ := bytesStrE_sound ok h
    refine ⟨hx, fun L w a o ho hg hs => ?_⟩
    unfold execOp; rw [ho]
    simp only [hg _ _ hu, Sem.run_bind, h2 L w hs, Result.andThen_ok]; rfl
  case h_4 c =>
    split at h
    · rename_i hc
      split at h
      · rename_i x t hx1 ht1
        replace h := gE_at.1 h; obtain ⟨u, hu, h⟩ := h
        obtain ⟨rfl, h2⟩ := lenE_sound ok h
        refine ⟨hx, fun L w a o ho hg hs => ?_⟩
        unfold execOp; rw [ho]
        have e : c.args.map a = #[conc L ρ u] := Array.toList_inj.1 (by simp [hx1, hg _ _ hu])
        have e' : c.argTypes = #[t] := Array.toList_inj.1 (by simp [ht1])
        simp only [resolve, hc, Sem.run_bind, Sem.run_pure, Result.andThen_ok, invoke, builtin, e, e', h2 L w _ hs]
      · simp [T.at_bad] at h
    · simp [T.at_bad] at h
  case h_5 => simp [T.at_bad] at h
end Ab

/- E, part 13: how the heap turns: a new object, an object that is put anew. -/
namespace Ab
open Go

variable {P : Program} {cx : Ctx} {ρ : Env}

/-- What an operation does to the state, and to the world. -/
def Turns (ρ : Env) (L : Nat → Loc) (st : St) (w : World) (v : AV) (st' : St) (x : Value) (w' : World) : Prop :=
  ∃ L1, Agree st.nx L L1 ∧ st.nx ≤ st'.nx ∧ Fr L st.H w L1 st'.H w' ∧ FxOk ρ st'.fx ∧ ∀ L', Agree st'.nx L1 L' → x = conc L' ρ v ∧ Sim L' ρ st'.H w'

/-- One block is put anew. -/
structure WPut (w : World) (b : Nat) (o : Obj) (w' : World) : Prop where
  size : w'.heap.size = w.heap.size
  at_ : w'.heap[b]? = some o
  other : ∀ k, k ≠ b → w'.heap[k]? = w.heap[k]?
  os : w'.os = w.os
  tape : w'.tape = w.tape
  output : w'.output = w.output
/-- One block more. -/
structure WNew (w : World) (o : Obj) (w' : World) : Prop where
  size : w'.heap.size = w.heap.size + 1
  at_ : w'.heap[w.heap.size]? = some o
  other : ∀ k, k < w.heap.size → w'.heap[k]? = w.heap[k]?
  os : w'.os = w.os
  tape : w'.tape = w.tape
  output : w'.output = w.output
theorem WNew.push (w : World) (o : Obj) : WNew w o { w with heap := w.heap.push o } :=
  ⟨by simp, by simp, fun k hk => by simp [Array.getElem?_push, Nat.ne_of_lt hk], rfl, rfl, rfl⟩
theorem WNew.push' {w w1 : World} (h : w1.heap = w.heap) (h1 : w1.os = w.os) (h2 : w1.tape = w.tape) (h3 : w1.output = w.output) (o : Obj) : WNew w o { w1 with heap := w1.heap.push o } := by
  have := WNew.push w1 o
  exact ⟨by rw [this.size, h], by rw [← h]; exact this.at_, fun k hk => by rw [this.other k (by rw [h]; exact hk), h], this.os.trans h1, this.tape.trans h2, this.output.trans h3⟩
theorem WPut.set {w : World} {b : Nat} {o o' : Obj} (h : w.heap[b]? = some o) : WPut w b o' { w with heap := w.heap.setIfInBounds b o' } := by
  have hb : b < w.heap.size := by
    rcases Nat.lt_or_ge b w.heap.size with hh | hh
    · exact hh
    · rw [Array.getElem?_eq_none hh] at h; cases h
  exact ⟨by simp, by simp [hb], fun k hk => by simp [Array.getElem?_setIfInBounds_ne (Ne.symm hk)], rfl, rfl, rfl⟩
theorem WPut.trans {w w1 w2 : World} {b : Nat} {o o' : Obj} (h : WPut w b o w1) (k : WPut w1 b o' w2) : WPut w b o' w2 :=
  ⟨k.size.trans h.size, k.at_, fun j hj => (k.other j hj).trans (h.other j hj), k.os.trans h.os, k.tape.trans h.tape, k.output.trans h.output⟩

theorem lt_of_some {w : World} {b : Nat} {o : Obj} (h : w.heap[b]? = some o) : b < w.heap.size := by
  rcases Nat.lt_or_ge b w.heap.size with hh | hh
  · exact hh
  · rw [Array.getElem?_eq_none hh] at h; cases h
theorem ObjAt.block {L : Nat → Loc} {w : World} {l : Loc} {o : AObj} (h : ObjAt L ρ w l o) : ∃ x, w.heap[l.b]? = some x := by
  cases o with
  | cells t d n el sz => obtain ⟨c, fz, h, _⟩ := h; exact ⟨_, h⟩
  | map es ck => exact ⟨_, h⟩
  | iter m s sn last => obtain ⟨_, sn', h, _⟩ := h; exact ⟨_, h⟩
  | loop => obtain ⟨r, h, _⟩ := h; exact ⟨_, h⟩
  | dfr => exact ⟨_, h⟩
  | ro i cs => exact ⟨_, h.2⟩
  | fr k i m => exact ⟨_, h.1⟩
  | mapU es => obtain ⟨fs, ck, h, _⟩ := h; exact ⟨_, h⟩
theorem ObjAt.keep {L : Nat → Loc} {w w' : World} {l : Loc} {o : AObj} (h : ObjAt L ρ w l o) (hk : w'.heap[l.b]? = w.heap[l.b]?) : ObjAt L ρ w' l o := by
  cases o with
  | cells t d n el sz => obtain ⟨c, fz, h, r⟩ := h; exact ⟨c, fz, hk.trans h, r⟩
  | map es ck => exact hk.trans h
  | iter m s sn last => obtain ⟨h0, sn', h, r⟩ := h; exact ⟨h0, sn', hk.trans h, r⟩
  | loop => obtain ⟨r, h, k⟩ := h; exact ⟨r, hk.trans h, k⟩
  | dfr => exact hk.trans h
  | ro i cs => exact ⟨h.1, hk.trans h.2⟩
  | fr k i m => exact ⟨hk.trans h.1, h.2⟩
  | mapU es => obtain ⟨fs, ck, h, r⟩ := h; exact ⟨fs, ck, hk.trans h, r⟩

/-- The state is as it was; so is the world's heap. -/
theorem Turns.same {L : Nat → Loc} {st : St} {w w' : World} {v : AV} {fx : Facts} {x : Value} (hs : ∀ L', Agree st.nx L L' → Sim L' ρ st.H w) (hv : ∀ L', Agree st.nx L L' → x = conc L' ρ v) (hx : FxOk ρ fx)
    (hh : w'.heap = w.heap) (h1 : w'.os = w.os) (h2 : w'.tape = w.tape) (h3 : w'.output = w.output) : Turns ρ L st w v ⟨st.H, st.nx, fx⟩ x w' :=
  ⟨L, Agree.refl _ _, Nat.le_refl _, ⟨by rw [hh]; exact Nat.le_refl _, h1, h2, h3, fun b _ _ => by rw [hh], fun b _ h => h⟩, hx, fun L' ha => ⟨hv L' ha, by
    have := hs L' ha
    exact ⟨fun id o ho => (this.at_ id o ho).keep (by rw [hh]), this.inj, this.pin⟩⟩⟩

theorem Turns.new {L : Nat → Loc} {st : St} {w w' : World} {v : AV} {o : AObj} {x : Value} {c : Obj} {k : Nat} {fx : Facts} (hs : ∀ L', Agree st.nx L L' → Sim L' ρ st.H w) (hx : FxOk ρ fx) (hn : WNew w c w')
    (hv : ∀ L', Agree st.nx L L' → L' st.nx = ⟨w.heap.size, 0, k⟩ → x = conc L' ρ v) (ho : ∀ L', Agree st.nx L L' → L' st.nx = ⟨w.heap.size, 0, k⟩ → ObjAt L' ρ w' ⟨w.heap.size, 0, k⟩ o) :
    Turns ρ L st w v ⟨st.H.set st.nx o, Nat.succ st.nx, fx⟩ x w' := by
  refine ⟨fun i => if i = st.nx then ⟨w.heap.size, 0, k⟩ else L i, fun i hi => if_neg (by omega), Nat.le_succ _, ?_, hx, fun L' ha => ?_⟩
  · refine ⟨by rw [hn.size]; omega, hn.os, hn.tape, hn.output, fun b hb _ => hn.other b hb, fun b hb hnb id o' ho' => ?_⟩
    dsimp only at ho' ⊢
    by_cases e : id = st.nx
    · rw [if_pos e]; simp; omega
    · rw [if_neg e]
      rw [Tr.get_set_ne _ _ e] at ho'
      exact hnb id o' ho'
  · have ha0 : Agree st.nx L L' := fun i hi => by rw [ha i (Nat.lt_succ_of_lt hi)]; exact if_neg (by omega)
    have hn0 : L' st.nx = ⟨w.heap.size, 0, k⟩ := by rw [ha st.nx (Nat.lt_succ_self _)]; exact if_pos rfl
    have hsim := hs L' ha0
    have hlt : ∀ id o', st.H.get id = some o' → (L' id).b < w.heap.size := fun id o' h => by
      obtain ⟨y, hy⟩ := (hsim.at_ id o' h).block
      exact lt_of_some hy
    refine ⟨hv L' ha0 hn0, ?_, ?_, hsim.pin⟩
    · intro id o' h
      by_cases e : id = st.nx
      · subst e
        rw [Tr.get_set_same] at h
        simp at h
        subst h
        rw [hn0]
        exact ho L' ha0 hn0
      · rw [Tr.get_set_ne _ _ e] at h
        exact (hsim.at_ id o' h).keep (hn.other _ (hlt id o' h))
    · intro i j oi oj hi hj hb
      by_cases ei : i = st.nx <;> by_cases ej : j = st.nx
      · rw [ei, ej]
      · rw [Tr.get_set_ne _ _ ej] at hj
        have := hlt j oj hj
        rw [← hb, ei, hn0] at this
        simp at this
      · rw [Tr.get_set_ne _ _ ei] at hi
        have := hlt i oi hi
        rw [hb, ej, hn0] at this
        simp at this
      · rw [Tr.get_set_ne _ _ ei] at hi
        rw [Tr.get_set_ne _ _ ej] at hj
        exact hsim.inj i j oi oj hi hj hb

theorem Turns.put {L : Nat → Loc} {st : St} {w w' : World} {v : AV} {id : Nat} {o0 o : AObj} {x : Value} {c : Obj} {fx : Facts} (hs : ∀ L', Agree st.nx L L' → Sim L' ρ st.H w) (hx : FxOk ρ fx)
    (h0 : st.H.get id = some o0) (hb : ∀ L', Agree st.nx L L' → (L' id).b = (L id).b) (hp : WPut w (L id).b c w') (hv : ∀ L', Agree st.nx L L' → x = conc L' ρ v)
    (ho : ∀ L', Agree st.nx L L' → ObjAt L' ρ w' (L' id) o) : Turns ρ L st w v ⟨st.H.set id o, st.nx, fx⟩ x w' := by
  refine ⟨L, Agree.refl _ _, Nat.le_refl _, ⟨by rw [hp.size]; exact Nat.le_refl _, hp.os, hp.tape, hp.output, fun b hb' hn => hp.other b (Ne.symm (hn id o0 h0)), fun b hb' hn id' o' h' => ?_⟩, hx, fun L' ha => ?_⟩
  · dsimp only at h'
    by_cases e : id' = id
    · subst e; exact hn id' o0 h0
    · rw [Tr.get_set_ne _ _ e] at h'; exact hn id' o' h'
  · have hsim := hs L' ha
    refine ⟨hv L' ha, ?_, ?_, hsim.pin⟩
    · intro id' o' h'
      by_cases e : id' = id
      · subst e
        rw [Tr.get_set_same] at h'
        simp at h'
        subst h'
        exact ho L' ha
      · rw [Tr.get_set_ne _ _ e] at h'
        refine (hsim.at_ id' o' h').keep (hp.other _ ?_)
        rw [← hb L' ha]
        exact fun hh => e (hsim.inj id' id o' o0 h' h0 hh)
    · intro i j oi oj hi hj hbb
      have gi : ∃ o', st.H.get i = some o' := by
        by_cases e : i = id
        · subst e; exact ⟨_, h0⟩
        · rw [Tr.get_set_ne _ _ e] at hi; exact ⟨_, hi⟩
      have gj : ∃ o', st.H.get j = some o' := by
        by_cases e : j = id
        · subst e; exact ⟨_, h0⟩
        · rw [Tr.get_set_ne _ _ e] at hj; exact ⟨_, hj⟩
      obtain ⟨o1, g1⟩ := gi
      obtain ⟨o2, g2⟩ := gj
      exact hsim.inj i j o1 o2 g1 g2 hbb

/-! ## Cells that are written -/
theorem run_storeCells {b s : Nat} {el : TypeId} {fz : Nat × Nat} : ∀ (vs : List Value) (i : Nat) (w : World) (c : Array Value), w.heap[b]? = some (.cells c el fz) → s + i + vs.length ≤ c.size →
    (∀ j, j < c.size → ¬ (fz.1 ≤ j ∧ j < fz.2)) → (∀ v ∈ vs, v.oneCell' = true) → ∃ w' c', (storeCells ⟨b, s, none⟩ vs i).run P w = .ok () w' ∧ WPut w b (.cells c' el fz) w' ∧ c'.size = c.size ∧
      (∀ j, c'[j]? = if s + i ≤ j ∧ j < s + i + vs.length then vs[j - (s + i)]? else c[j]?)
  | [], i, w, c, h, _, _, _ => ⟨w, c, rfl, ⟨rfl, h, fun _ _ => rfl, rfl, rfl, rfl⟩, rfl, fun j => by rw [if_neg (by simp only [List.length_nil]; omega)]⟩
  | v :: vs, i, w, c, h, hl, hf, ho => by
    simp only [List.length_cons] at hl
    have hc : w.cell? (Addr.add ⟨b, s, none⟩ i) = some c[s + i] := by
      rw [addr_add, cell_of_heap h]
      exact Array.getElem?_eq_getElem (by omega)
    have hfr : w.frozen? (Addr.add ⟨b, s, none⟩ i) = false := by
      rw [addr_add]
      have := hf (s + i) (by omega)
      simp [World.frozen?, h]
      omega
    have hst : (store (Addr.add ⟨b, s, none⟩ i) v).run P w = .ok () (w.setCell (Addr.add ⟨b, s, none⟩ i) v) := by
      rw [run_store _ _ _ _ _ (ho v (by simp)), hc]
      simp [hfr]
    have hset : WPut w b (.cells (c.setIfInBounds (s + i) v) el fz) (w.setCell (Addr.add ⟨b, s, none⟩ i) v) := by
      rw [addr_add]
      have hb := lt_of_some h
      refine ⟨by simp [World.setCell], ?_, fun k hk => ?_, rfl, rfl, rfl⟩
      · simp only [World.setCell, Array.getElem?_modify, h]
        rfl
      · simp only [World.setCell, Array.getElem?_modify, if_neg (Ne.symm hk)]
    obtain ⟨w', c', hrun, hp, hsz, hcells⟩ := run_storeCells (b := b) (s := s) (el := el) (fz := fz) vs (i + 1) (w.setCell (Addr.add ⟨b, s, none⟩ i) v) (c.setIfInBounds (s + i) v) hset.at_ (by rw [Array.size_setIfInBounds]; omega) (fun j hj => hf j (by simpa using hj)) (fun u hu => ho u (by simp [hu]))
    refine ⟨w', c', ?_, hset.trans hp, by rw [hsz]; simp, fun j => ?_⟩
    · simp only [storeCells, Sem.run_bind, hst, Result.andThen_ok, hrun]
    · rw [hcells]
      by_cases e : j = s + i
      · subst e
        rw [if_neg (by omega), if_pos (by simp only [List.length_cons]; omega), Array.getElem?_setIfInBounds_self_of_lt (by omega)]
        simp
      · by_cases hj : s + (i + 1) ≤ j ∧ j < s + (i + 1) + vs.length
        · rw [if_pos hj, if_pos (by simp only [List.length_cons]; omega)]
          obtain ⟨m, rfl⟩ : ∃ m, j = s + (i + 1) + m := ⟨j - (s + (i + 1)), by omega⟩
          rw [show s + (i + 1) + m - (s + (i + 1)) = m by omega, show s + (i + 1) + m - (s + i) = m + 1 by omega]
          rfl
        · rw [if_neg hj, if_neg (by simp only [List.length_cons]; omega), Array.getElem?_setIfInBounds_ne (by omega)]
theorem one_conc {v : AV} (h : v.one = true) (L : Nat → Loc) : (conc L ρ v).oneCell' = true := by
  cases v <;> simp [AV.one] at h <;> rfl
theorem look_lay (l : List AV) (off : Nat) (t : Tr AV) (d : Option AV) (i : Nat) : look (lay l off t) d i = if off ≤ i ∧ i < off + l.length then l[i - off]? else look t d i := by
  unfold look lay
  rw [Tr.get_fill]
  by_cases h : off ≤ i ∧ i < off + l.length
  · rw [if_pos h, if_pos h]
    have : i - off < l.length := by omega
    simp [this]
  · rw [if_neg h, if_neg h]
/-- Cells of an object are written: the world, and the object anew. -/
theorem put_cells {L : Nat → Loc} {st : St} {w : World} {id : Nat} {t : Tr AV} {d : Option AV} {n : Nat} {el : TypeId} {sz : Nat} (hs : ∀ L', Agree st.nx L L' → Sim L' ρ st.H w)
    (h0 : st.H.get id = some (.cells t d n el sz)) (hb : ∀ L', Agree st.nx L L' → L' id = L id) {cs : List AV} {off : Nat} (ho : ∀ v ∈ cs, v.one = true) (hn : off + cs.length ≤ n)
    {vs : List Value} (hvs : ∀ L', Agree st.nx L L' → vs = cs.map (conc L' ρ)) :
    ∃ w' c, (storeCells ⟨(L id).b, (L id).o + off, none⟩ vs).run P w = .ok () w' ∧ WPut w (L id).b c w' ∧ ∀ L', Agree st.nx L L' → ObjAt L' ρ w' (L' id) (.cells (lay cs off t) d n el sz) := by
  obtain ⟨c, fz, hc, hsz, hf, hk, h00⟩ := (hs L (Agree.refl _ _)).at_ id _ h0
  have hlen : vs.length = cs.length := by rw [hvs L (Agree.refl _ _)]; simp
  obtain ⟨w', c', hrun, hp, hsz', hcells⟩ := run_storeCells (P := P) (b := (L id).b) (s := (L id).o + off) vs 0 w c hc (by omega) hf (fun v hv => by
    rw [hvs L (Agree.refl _ _)] at hv
    obtain ⟨u, hu, rfl⟩ := List.mem_map.1 hv
    exact one_conc (ho u hu) L)
  refine ⟨w', _, hrun, hp, fun L' ha => ?_⟩
  rw [hb L' ha]
  obtain ⟨c2, fz2, hc2, _, _, hk2, _⟩ := (hs L' ha).at_ id _ h0
  rw [hb L' ha] at hc2 hk2
  rw [hc] at hc2
  simp at hc2
  obtain ⟨rfl, rfl⟩ := hc2
  refine ⟨c', fz, hp.at_, by rw [hsz', hsz], fun j hj => hf j (by rw [← hsz']; exact hj), fun i v hi hv => ?_, h00⟩
  rw [look_lay] at hv
  rw [hcells]
  by_cases h : off ≤ i ∧ i < off + cs.length
  · rw [if_pos h] at hv
    rw [if_pos (by omega), hvs L' ha, show (L id).o + i - ((L id).o + off + 0) = i - off by omega]
    simp [hv]
  · rw [if_neg h] at hv
    rw [if_neg (by omega)]
    exact hk2 i v hi hv
end Ab

/- E, part 14: operations that make memory. -/
namespace Ab
open Go

variable {P : Program} {cx : Ctx} {ρ : Env}

theorem look_ofList (l : List AV) (i : Nat) : look (Tr.ofList l) none i = l[i]? := by
  unfold look
  rw [Tr.get_ofList]
  cases l[i]? <;> rfl
theorem objAt_list {L : Nat → Loc} {w : World} {b k sz : Nat} {el : TypeId} {cs : List AV} {rest : Array Value} (h : w.heap[b]? = some (.cells ((cs.map (conc L ρ)).toArray ++ rest) el)) (hr : rest.size = k * sz) :
    ObjAt L ρ w ⟨b, 0, k⟩ (.cells (Tr.ofList cs) none cs.length el sz) := by
  refine ⟨_, _, h, by simp [hr], fun i _ => by simp, fun i v hi hv => ?_, fun _ => rfl⟩
  rw [look_ofList] at hv
  simp only [Nat.zero_add]
  rw [Array.getElem?_append_left (by simpa using hi)]
  simp [hv]
theorem lrep_length {α : Type} (l : List α) (n : Nat) : (lrep l n).length = n * l.length := by
  induction n with
  | zero => rw [show lrep l 0 = [] from rfl]; simp
  | succ n ih =>
    have e : lrep l (n + 1) = lapp l (lrep l n) := rfl
    rw [e, lapp_eq, List.length_append, ih, Nat.succ_mul]
    omega
theorem lrep_get {α : Type} (l : List α) : ∀ (n i : Nat), i < n * l.length → (lrep l n)[i]? = l[i % l.length]? := by
  intro n
  induction n with
  | zero => intro i h; simp at h
  | succ n ih =>
    intro i h
    have e : lrep l (n + 1) = lapp l (lrep l n) := rfl
    rw [e, lapp_eq, List.getElem?_append]
    rw [Nat.succ_mul] at h
    split
    · rename_i hi
      rw [Nat.mod_eq_of_lt hi]
    · rename_i hi
      rw [ih (i - l.length) (by omega)]
      rw [← Nat.mod_eq_sub_mod (Nat.le_of_not_lt hi)]
theorem range_rep (vs : Array Value) (n m : Nat) (hm : m = n * vs.size) : (Array.range m).map (fun i => vs[i % vs.size]!) = (lrep vs.toList n).toArray := by
  apply Array.ext_getElem?
  intro i
  rw [Array.getElem?_map]
  by_cases hi : i < m
  · have hpos : 0 < vs.size := by
      rcases Nat.eq_zero_or_pos vs.size with h | h
      · rw [h] at hm; simp at hm; omega
      · exact h
    have hlt : i % vs.size < vs.size := Nat.mod_lt _ hpos
    rw [show (lrep vs.toList n).toArray[i]? = (lrep vs.toList n)[i]? by simp, lrep_get _ _ _ (by simp; omega)]
    simp [hi, hlt, getElem!_pos]
  · have h2 : ¬ i < (lrep vs.toList n).length := by rw [lrep_length]; simp; omega
    simp [hi, List.getElem?_eq_none (Nat.le_of_not_lt h2)]
theorem lrep_map {α β : Type} (f : α → β) (l : List α) (n : Nat) : (lrep l n).map f = lrep (l.map f) n := by
  induction n with
  | zero => rfl
  | succ n ih =>
    have e : lrep l (n + 1) = lapp l (lrep l n) := rfl
    have e' : lrep (l.map f) (n + 1) = lapp (l.map f) (lrep (l.map f) n) := rfl
    rw [e, e', lapp_eq, lapp_eq, List.map_append, ih]

/-- OPERATIONS THAT MAKE MEMORY. -/
theorem allocE_core (ok : cx.Ok P) {g : Operand → Option AV} {op : Op} {fx : Facts} {ao : AObj} {f : Nat → AV} (hx : FxOk ρ fx) (h : (allocE cx g op fx).at_ ρ = some (ao, f)) (L : Nat → Loc) (w : World)
    (a : Operand → Value) (hg0 : GRel L ρ g a) (o : Oper) (ho : o.op = op) :
    ∃ x c, (execOp a o).run P w = .ok (.value x) { w with heap := w.heap.push c } ∧
      ∀ L', GRel L' ρ g a → ∀ m, L' m = ⟨w.heap.size, 0, 0⟩ → x = conc L' ρ (f m) ∧ ObjAt L' ρ { w with heap := w.heap.push c } ⟨w.heap.size, 0, 0⟩ ao := by
  unfold allocE at h
  split at h
  case h_1 t =>
    replace h := tyE_at.1 h; obtain ⟨ti, ht, h⟩ := h
    replace h := T.at_opt_some.1 h; obtain ⟨z, hz, h⟩ := h
    replace h := ret_at h; obtain ⟨rfl, rfl⟩ := h
    refine ⟨.pointer (some ⟨w.heap.size, 0, none⟩), (.cells (conc L ρ z).cells t), ?_, ?_⟩
    · unfold execOp; rw [ho]
      simp only [Instr.alloc, Sem.run_bind, ok.run_zero (ρ := ρ) ht hz L w, Result.andThen_ok, newVar, newRow, run_newObj, Sem.run_pure]
    · refine fun L' ha m hn => ⟨by simp [conc, hn], ?_⟩
      have e : conc L ρ z = conc L' ρ z := by
        obtain ⟨v, hv, hz'⟩ := ok.zero _ _ _ ht hz
        rw [conc_ofV L ρ hz', conc_ofV L' ρ hz']
      rw [llen_eq]
      refine objAt_list (rest := #[]) ?_ (by simp)
      simp [e, conc_cells]
  case h_2 t x =>
    replace h := gE_at.1 h; obtain ⟨u, hu, h⟩ := h
    replace h := ret_at h; obtain ⟨rfl, rfl⟩ := h
    refine ⟨.pointer (some ⟨w.heap.size, 0, none⟩), (.cells (a x).cells t), ?_, ?_⟩
    · unfold execOp; rw [ho]
      simp only [Instr.box, Sem.run_bind, Result.andThen_ok, newVar, newRow, run_newObj, Sem.run_pure]
    · refine fun L' ha m hn => ⟨by simp [conc, hn], ?_⟩
      rw [llen_eq]
      refine objAt_list (rest := #[]) ?_ (by simp)
      simp [ha _ _ hu, conc_cells]
  case h_3 t len ps =>
    replace h := T.at_opt_some.1 h; obtain ⟨l, hl, h⟩ := h
    replace h := tyE_at.1 h; obtain ⟨ti, ht, h⟩ := h
    have hd := ok.desc _ _ ht
    split at h
    case h_2 => simp [T.at_bad] at h
    rename_i el hdd
    rw [hdd] at hd
    replace h := tyE_at.1 h; obtain ⟨ei, hei, h⟩ := h
    replace h := chk_at h; obtain ⟨hc, h⟩ := h
    have hc : len * ei.info.size ≤ 65536 := Nat.le_of_ble_eq_true hc
    replace h := T.at_opt_some.1 h; obtain ⟨z, hz, h⟩ := h
    replace h := T.at_opt_some.1 h; obtain ⟨cs, hcs, h⟩ := h
    replace h := chk_at h; obtain ⟨hzl, h⟩ := h
    have hzl := Nat.eq_of_beq_eq_true hzl
    rw [llen_eq] at hzl
    replace h := ret_at h; obtain ⟨rfl, rfl⟩ := h
    have fillAt : ∀ L', GRel L' ρ g a → Instr.fill (fun i => some (i * ei.info.size, ei.info.size)) (lrep ((z.cells).map (conc L' ρ)) len).toArray (ps.map fun (i, x) => (i, a x)).toList = some (cs.map (conc L' ρ)).toArray := by
      intro L' ha
      have := overlay_fill (ρ := ρ) L' l (lrep z.cells len) cs hcs
      rw [lrep_map, partsE_map (ha) hl] at this
      rw [← this]
      congr 1
      simp
    have cse : ∀ L', GRel L' ρ g a → (cs.map (conc L ρ)).toArray = (cs.map (conc L' ρ)).toArray := by
      intro L' ha
      have h1 := fillAt L hg0
      have h2 := fillAt L' ha
      obtain ⟨v, hv, hz'⟩ := ok.zero _ _ _ hei hz
      have ez : (z.cells).map (conc L ρ) = (z.cells).map (conc L' ρ) := by
        have a1 := conc_cells L ρ z
        have a2 := conc_cells L' ρ z
        rw [conc_ofV L ρ hz'] at a1
        rw [conc_ofV L' ρ hz', a1] at a2
        exact List.toArray_inj a2
      rw [ez] at h1
      rw [h1] at h2
      exact Option.some.inj h2
    refine ⟨.slice (some ⟨w.heap.size, 0, none⟩) len len, .cells (cs.map (conc L ρ)).toArray el, ?_, ?_⟩
    · unfold execOp; rw [ho]
      have hzz : ∀ k : Array Value → Sem Value, (if len * ei.info.size = 0 then pure #[] >>= k else zeroValue el >>= fun v => pure v.cells >>= k).run P w = (k (if len * ei.info.size = 0 then #[] else (conc L ρ z).cells)).run P w := by
        intro k
        split
        · simp only [Sem.run_bind, Sem.run_pure, Result.andThen_ok]
        · simp only [Sem.run_bind, Sem.run_pure, Result.andThen_ok, ok.run_zero (ρ := ρ) hei hz L w]
      have hcells : (Array.range (len * ei.info.size)).map ((if len * ei.info.size = 0 then #[] else (conc L ρ z).cells)[· % (if len * ei.info.size = 0 then #[] else (conc L ρ z).cells).size]!) =
          (lrep ((z.cells).map (conc L ρ)) len).toArray := by
        have hsz : (conc L ρ z).cells.size = ei.info.size := by rw [conc_cells]; simp [hzl]
        by_cases h0 : len * ei.info.size = 0
        · simp only [h0, if_true]
          have : (lrep ((z.cells).map (conc L ρ)) len) = [] := by
            apply List.length_eq_zero_iff.1
            rw [lrep_length]
            simp only [List.length_map, hzl, h0]
          rw [this]
          simp
        · simp only [h0, if_false]
          rw [range_rep _ len _ (by rw [hsz]), conc_cells]
      unfold Instr.buildSlice
      simp only [Sem.run_bind, run_underlying hd, Result.andThen_ok, ok.run_size hei]
      rw [if_neg (by omega)]
      refine (congrArg (fun r => Result.andThen r _) (hzz _)).trans ?_
      simp only [Result.andThen_ok, hcells, fillAt L hg0, Sem.run_bind, newRow, run_newObj, Sem.run_pure]
    · refine fun L' ha m hn => ⟨by simp [conc, hn], ?_⟩
      rw [llen_eq]
      refine objAt_list (rest := #[]) ?_ (by simp)
      rw [cse L' ha]
      simp
  case h_4 t r =>
    cases r with
    | some r => simp [T.at_bad] at h
    | none =>
      replace h := ret_at h; obtain ⟨rfl, rfl⟩ := h
      refine ⟨.map (some w.heap.size), (.map #[] 0), ?_, ?_⟩
      · unfold execOp; rw [ho]
        simp [Instr.makeMap]
      · refine fun L' ha m hn => ⟨by simp [conc, hn], ?_⟩
        show (w.heap.push (.map #[] 0))[w.heap.size]? = _
        simp
  case h_5 t lo co =>
    replace h := gE_at.1 h; obtain ⟨lv, hlv, h⟩ := h
    replace h := gE_at.1 h; obtain ⟨cv, hcv, h⟩ := h
    replace h := constN_at hx h; obtain ⟨kl, l, hl, h⟩ := h
    replace h := constN_at hx h; obtain ⟨kc, c, hc, h⟩ := h
    replace h := tyE_at.1 h; obtain ⟨ti, ht, h⟩ := h
    have hd := ok.desc _ _ ht
    split at h
    case h_2 => simp [T.at_bad] at h
    rename_i el hdd
    rw [hdd] at hd
    replace h := tyE_at.1 h; obtain ⟨ei, hei, h⟩ := h
    replace h := chk_at h; obtain ⟨h1, h⟩ := h
    have h1 := Nat.le_of_ble_eq_true h1
    replace h := chk_at h; obtain ⟨h2, h⟩ := h
    have h2 : c * ei.info.bytes ≤ 1073741824 := Nat.le_of_ble_eq_true h2
    replace h := chk_at h; obtain ⟨h3, h⟩ := h
    have h3 := Nat.le_of_ble_eq_true h3
    replace h := T.at_opt_some.1 h; obtain ⟨z, hz, h⟩ := h
    replace h := chk_at h; obtain ⟨hzl, h⟩ := h
    have hzl := Nat.eq_of_beq_eq_true hzl
    rw [llen_eq] at hzl
    have hal : a lo = .int kl (.ofNat l) := (hg0 _ _ hlv).trans (hl L)
    have hac : a co = .int kc (.ofNat c) := (hg0 _ _ hcv).trans (hc L)
    have hrun : (execOp a o).run P w = .ok (.value (.slice (some ⟨w.heap.size, 0, none⟩) l c)) { w with heap := w.heap.push (.cells (lrep ((z.cells).map (conc L ρ)) c).toArray el) } := by
      unfold execOp; rw [ho]
      simp only [hal, hac]
      unfold Instr.makeSlice
      simp only [Sem.run_bind, run_underlying hd, Result.andThen_ok, asInt, asIntOf, Sem.run_pure, ok.run_info hei]
      have w1 : IntKind.i64.wrap (Int.ofNat l) = (l : Int) := wrap_in (by show IntKind.i64.min ≤ (l : Int); simp [IntKind.min, IntKind.signed, IntKind.bits]) (by rw [IntKind.max_i64]; show (l : Int) ≤ _; omega)
      have w2 : IntKind.i64.wrap (Int.ofNat c) = (c : Int) := wrap_in (by show IntKind.i64.min ≤ (c : Int); simp [IntKind.min, IntKind.signed, IntKind.bits]) (by rw [IntKind.max_i64]; show (c : Int) ≤ _; omega)
      simp only [w1, w2]
      have hb : ((ei.info.bytes : Int) * (c : Int)) ≤ 1073741824 := by
        have h4 : ((c * ei.info.bytes : Nat) : Int) ≤ ((1073741824 : Nat) : Int) := Int.ofNat_le.2 h2
        rw [Int.natCast_mul, Int.mul_comm] at h4
        exact h4
      have hcond : (decide ((c : Int) < 0) || decide ((ei.info.bytes : Int) * (c : Int) > 2 ^ 48) || decide ((l : Int) < 0) || decide ((l : Int) > (c : Int))) = false := by
        simp
        omega
      rw [if_neg (by rw [hcond]; simp)]
      have hzz : ∀ k : Array Value → Sem Value, (if (c : Int).toNat * ei.info.size = 0 then pure #[] >>= k else zeroValue el >>= fun v => pure v.cells >>= k).run P w = (k (if c * ei.info.size = 0 then #[] else (conc L ρ z).cells)).run P w := by
        intro k
        simp only [Int.toNat_natCast]
        split
        · simp only [Sem.run_bind, Sem.run_pure, Result.andThen_ok]
        · simp only [Sem.run_bind, Sem.run_pure, Result.andThen_ok, ok.run_zero (ρ := ρ) hei hz L w]
      have hcells : (Array.range (c * ei.info.size)).map ((if c * ei.info.size = 0 then #[] else (conc L ρ z).cells)[· % (if c * ei.info.size = 0 then #[] else (conc L ρ z).cells).size]!) =
          (lrep ((z.cells).map (conc L ρ)) c).toArray := by
        have hsz : (conc L ρ z).cells.size = ei.info.size := by rw [conc_cells]; simp [hzl]
        by_cases h0 : c * ei.info.size = 0
        · simp only [h0, if_true]
          have : (lrep ((z.cells).map (conc L ρ)) c) = [] := by
            apply List.length_eq_zero_iff.1
            rw [lrep_length]
            simp only [List.length_map, hzl, h0]
          rw [this]
          simp
        · simp only [h0, if_false]
          rw [range_rep _ c _ (by rw [hsz]), conc_cells]
      simp only [Sem.run_bind, run_askRoom, Result.andThen_ok, ok.run_size hei]
      refine (congrArg (fun r => Result.andThen r _) (hzz _)).trans ?_
      simp only [Result.andThen_ok, Int.toNat_natCast, hcells, newRow, run_newObj, Sem.run_bind, Sem.run_pure]
    have ze : ∀ L', (z.cells).map (conc L ρ) = (z.cells).map (conc L' ρ) := by
      intro L'
      obtain ⟨v, hv, hz'⟩ := ok.zero _ _ _ hei hz
      have a1 := conc_cells L ρ z
      have a2 := conc_cells L' ρ z
      rw [conc_ofV L ρ hz'] at a1
      rw [conc_ofV L' ρ hz', a1] at a2
      exact List.toArray_inj a2
    split at h
    · rename_i v hzc
      replace h := ret_at h; obtain ⟨rfl, rfl⟩ := h
      refine ⟨_, _, hrun, fun L' ha m hn => ⟨by simp [conc, hn], ?_⟩⟩
      refine ⟨(lrep ((z.cells).map (conc L ρ)) c).toArray, _, by show (w.heap.push _)[w.heap.size]? = _; exact Array.getElem?_push_size, ?_, fun i _ => by simp, fun i u hi hu => ?_, fun _ => rfl⟩
      · simp [lrep_length, hzc]
      · have hu : u = v := by
          have : look Tr.nil (some v) i = some v := rfl
          rw [this] at hu
          exact (Option.some.inj hu).symm
        subst hu
        rw [ze L', hzc]
        have := lrep_get [conc L' ρ u] c i (by simpa using hi)
        rw [show i % [conc L' ρ u].length = 0 from Nat.mod_one i] at this
        simp at this ⊢
        exact this
    · rename_i cs hne
      replace h := ret_at h; obtain ⟨rfl, rfl⟩ := h
      refine ⟨_, _, hrun, fun L' ha m hn => ⟨by simp [conc, hn], ?_⟩⟩
      have e : Nat.mul c ei.info.size = (lrep z.cells c).length := by rw [lrep_length, hzl]; rfl
      rw [e]
      refine objAt_list (rest := #[]) ?_ (by simp)
      rw [ze L', lrep_map]
      simp
  case h_6 => simp [T.at_bad] at h
theorem allocE_sound (ok : cx.Ok P) {g : Operand → Option AV} {op : Op} {st : St} {ao : AObj} {f : Nat → AV} (hx : FxOk ρ st.fx) (h : (allocE cx g op st.fx).at_ ρ = some (ao, f)) (L : Nat → Loc) (w : World)
    (hs : ∀ L', Agree st.nx L L' → Sim L' ρ st.H w) (a : Operand → Value) (hg : ∀ L', Agree st.nx L L' → GRel L' ρ g a) (o : Oper) (ho : o.op = op) :
    ∃ x w', (execOp a o).run P w = .ok (.value x) w' ∧ Turns ρ L st w (f st.nx) (st.new ao) x w' := by
  obtain ⟨x, c, hr, hc⟩ := allocE_core ok hx h L w a (hg L (Agree.refl _ _)) o ho
  exact ⟨x, _, hr, Turns.new (k := 0) hs hx (WNew.push _ _) (fun L' ha hn => (hc L' (hg L' ha) _ hn).1) (fun L' ha hn => (hc L' (hg L' ha) _ hn).2)⟩
end Ab

/- E, part 15: operations that write: variables, maps. -/
namespace Ab
open Go

variable {P : Program} {cx : Ctx} {ρ : Env}

theorem ret1_at {α : Type} {a a' : α} (h : (T.ret a).at_ ρ = some a') : a' = a := by
  simp [T.at_ret] at h
  exact h.symm
theorem stE_at {x : T St} {v : AV} {st' : St} (h : (stE x).at_ ρ = some (v, st')) : v = undefA ∧ x.at_ ρ = some st' := by
  unfold stE at h
  replace h := T.at_bind_some.1 h
  obtain ⟨s, hs, h⟩ := h
  replace h := ret_at h
  exact ⟨h.1, h.2 ▸ hs⟩
theorem conc_undefA (L : Nat → Loc) : undef = conc L ρ undefA := rfl
theorem fx_same {st : St} : (⟨st.H, st.nx, st.fx⟩ : St) = st := by cases st; rfl

theorem storeE_sound (ok : cx.Ok P) {st st' : St} {t : TypeId} {av xv : AV} (hx : FxOk ρ st.fx) (h : (storeE cx st t av xv).at_ ρ = some st') {L : Nat → Loc} {w : World}
    (hs : ∀ L', Agree st.nx L L' → Sim L' ρ st.H w) {x1 x2 : Value} (h1 : ∀ L', Agree st.nx L L' → x1 = conc L' ρ av) (h2 : ∀ L', Agree st.nx L L' → x2 = conc L' ρ xv) :
    ∃ w', (Instr.storeAt t x1 x2).run P w = .ok () w' ∧ Turns ρ L st w undefA st' undef w' := by
  unfold storeE at h
  split at h
  case h_2 => simp [T.at_bad] at h
  rename_i id off
  replace h := chk_at h; obtain ⟨hid, h⟩ := h
  have hid := Nat.le_of_ble_eq_true hid
  replace h := tyE_at.1 h; obtain ⟨ti, ht, h⟩ := h
  replace h := withCells_at h; obtain ⟨tr, d, n, el, sz, ho, h⟩ := h
  replace h := chk_at h; obtain ⟨hl, h⟩ := h
  have hl := Nat.eq_of_beq_eq_true hl
  rw [llen_eq] at hl
  replace h := chk_at h; obtain ⟨hone, h⟩ := h
  replace h := chk_at h; obtain ⟨hn, h⟩ := h
  have hn := Nat.le_of_ble_eq_true hn
  replace h := ret1_at h
  subst h
  obtain ⟨w', c, hrun, hp, hob⟩ := put_cells (P := P) hs ho (fun L' ha => ha id hid) (cs := xv.cells) (off := off) ((allOne_iff _).1 hone) (by rw [hl]; exact hn)
    (vs := xv.cells.map (conc L ρ)) (fun L' ha => by
      have e1 := conc_cells L ρ xv
      have e2 := conc_cells L' ρ xv
      rw [← h2 L (Agree.refl _ _)] at e1
      rw [← h2 L' ha, e1] at e2
      exact List.toArray_inj e2)
  have e1 := h1 L (Agree.refl _ _)
  have e2 := h2 L (Agree.refl _ _)
  refine ⟨w', ?_, Turns.put hs hx ho (fun L' ha => by rw [ha id hid]) hp (fun L' ha => rfl) hob⟩
  rw [e1, e2]
  simp only [Instr.storeAt, Sem.run_bind]
  have hsa : (Instr.sureAddr (conc L ρ (.ptr id off))).run P w = .ok ⟨(L id).b, (L id).o + off, none⟩ w := rfl
  rw [hsa]
  simp only [Result.andThen_ok, storeVar, Sem.run_bind, ok.run_size ht]
  have hsz : (conc L ρ xv).cells.size = ti.info.size := by rw [conc_cells]; simp [hl]
  rw [if_neg (by rw [hsz]; simp)]
  rw [conc_cells]
  exact hrun

/-! ## Maps -/
theorem run_setObj {w : World} {r : Nat} {o o' : Obj} (h : w.heap[r]? = some o) (hc : notCells o = true) : (setObj r o').run P w = .ok () { w with heap := w.heap.setIfInBounds r o' } := by
  simp only [setObj, Sem.run, h]
  cases o <;> first | rfl | (simp [notCells] at hc)

theorem uIns_perm (k v : AV) : ∀ (l : List (AV × AV)), (uIns k v l).Perm ((k, v) :: l)
  | [] => List.Perm.refl _
  | p :: l => by
    show (bif kLt k p.1 then (k, v) :: p :: l else p :: uIns k v l).Perm _
    cases kLt k p.1 with
    | true => exact List.Perm.refl _
    | false => exact ((uIns_perm k v l).cons p).trans (List.Perm.swap _ _ _)
/-- Where a key stands is where one alone stands. -/
theorem locU_one {h : AV → Bool} {m es : List (AV × AV)} (hm : m.Perm es) {o : Option AV} (hone : (o = none ∧ es.filter (fun p => h p.1) = []) ∨ ∃ p, o = some p.2 ∧ es.filter (fun p => h p.1) = [p]) :
    (locU h m 0 = none ∧ o = none ∧ ∀ p ∈ m, h p.1 = false) ∨ ∃ j v k' p, locU h m 0 = some (j, v) ∧ m[j]? = some (k', v) ∧ h k' = true ∧ o = some v ∧ m.filter (fun p => h p.1) = [p] := by
  have hfil := hm.filter (fun p => h p.1)
  cases hl : locU h m 0 with
  | none =>
    left
    have hn := locU_none hl
    have hnil : m.filter (fun p => h p.1) = [] := List.filter_eq_nil_iff.2 (fun p hp => by rw [hn p hp]; decide)
    rw [hnil] at hfil
    rcases hone with ⟨rfl, _⟩ | ⟨p, rfl, e⟩
    · exact ⟨rfl, rfl, hn⟩
    · rw [e] at hfil
      exact absurd hfil.length_eq (by simp)
  | some q =>
    obtain ⟨j, v⟩ := q
    right
    obtain ⟨_, k', hk', hh⟩ := locU_some hl
    rw [Nat.sub_zero] at hk'
    have hin : (k', v) ∈ m.filter (fun p => h p.1) := List.mem_filter.2 ⟨List.mem_of_getElem? hk', hh⟩
    have hin2 := hfil.mem_iff.1 hin
    rcases hone with ⟨_, e⟩ | ⟨p, rfl, e⟩
    · rw [e] at hin2; cases hin2
    · rw [e] at hin2 hfil
      refine ⟨j, v, k', p, rfl, hk', hh, ?_, ?_⟩
      · rw [← List.mem_singleton.1 hin2]
      · exact List.perm_singleton.1 hfil
theorem mapSetE_sound (ok : cx.Ok P) {st st' : St} {t : TypeId} {mv kv xv : AV} (hx : FxOk ρ st.fx) (h : (mapSetE cx st t mv kv xv).at_ ρ = some st') {L : Nat → Loc} {w : World}
    (hs : ∀ L', Agree st.nx L L' → Sim L' ρ st.H w) {m k x : Value} (h1 : ∀ L', Agree st.nx L L' → m = conc L' ρ mv) (h2 : ∀ L', Agree st.nx L L' → k = conc L' ρ kv) (h3 : ∀ L', Agree st.nx L L' → x = conc L' ρ xv) :
    ∃ w', (Instr.mapUpdate t m k x).run P w = .ok () w' ∧ Turns ρ L st w undefA st' undef w' := by
  unfold mapSetE at h
  replace h := tyE_at.1 h; obtain ⟨ti, ht, h⟩ := h
  have hd := ok.desc _ _ ht
  split at h
  case h_2 => simp [T.at_bad] at h
  rename_i kt el hdd
  rw [hdd] at hd
  replace h := tyE_at.1 h; obtain ⟨ki, hki, h⟩ := h
  replace h := T.at_opt_some.1 h; obtain ⟨qs, hqs, h⟩ := h
  replace h := chk_at h; obtain ⟨hsh, h⟩ := h
  split at h
  case h_2 => simp [T.at_bad] at h
  rename_i id
  replace h := chk_at h; obtain ⟨hid, h⟩ := h
  have hid := Nat.le_of_ble_eq_true hid
  cases hU : isU st.H id with
  | true =>
    rw [hU, cond_true] at h
    replace h := chk_at h; obtain ⟨hvc, h⟩ := h
    obtain ⟨es, o, ho, hkc, hu, hone, h⟩ := withU_at h
    replace h := ret1_at h
    subst h
    have hkk := hqs
    rw [ok.kinds _ _ hki] at hkk
    have hag := agg_struct ok hki hqs
    have hshp := shapeOk_iff hsh (fun ha => by
      rcases kindsT_agg hkk with ⟨_, _, rfl⟩ | ⟨_, rfl⟩ | ⟨_, rfl⟩ | ⟨_, fs, _, hu, _, _⟩
      · rfl
      · rfl
      · rfl
      · rw [hag.2 ⟨fs, hu⟩] at ha; cases ha)
    have hck : (Instr.checkKey false 10000 kt (conc L ρ kv)).run P w = .ok () w := run_checkKey_kinds 8 10000 kt qs hkk (by omega) L kv w ki.agg false hag hshp
    obtain ⟨fs, ck, m0, hm, hperm, hpair, hfind, hloc⟩ := findKey_u ok hki hqs (hs L (Agree.refl _ _)) ho hu
    have hgo := run_getObj (P := P) hm rfl
    have e1 := h1 L (Agree.refl _ _)
    have e2 := h2 L (Agree.refl _ _)
    have e3 := h3 L (Agree.refl _ _)
    have ck1 : conc L ρ kv = kval kv := kval_cst hkc L ρ
    have cv1 : conc L ρ xv = kval xv := kval_cst hvc L ρ
    rcases locU_one hperm hone with ⟨hl, rfl, hno⟩ | ⟨j, v0, k', p, hl, hj, hh, rfl, hfil⟩
    · rw [hl] at hfind
      refine ⟨_, ?_, Turns.put (c := .map (fs.toArray.push { key := conc L ρ kv, val := conc L ρ xv, born := ck }) (ck + 1)) hs hx ho (fun L' ha => by rw [ha id hid]) (WPut.set hm) (fun L' ha => rfl) (fun L' ha => ?_)⟩
      · rw [e1, e2, e3]
        simp only [Instr.mapUpdate, Sem.run_bind, run_underlying hd, Result.andThen_ok, conc, hgo, hck, hfind, Option.map]
        exact run_setObj hm rfl
      · rw [ha id hid]
        refine ⟨fs ++ [{ key := conc L ρ kv, val := conc L ρ xv, born := ck }], ck + 1, ?_, ?_⟩
        · show (w.heap.setIfInBounds _ _)[_]? = _
          rw [Array.getElem?_setIfInBounds_self_of_lt (lt_of_some hm)]
          simp
        · rw [List.map_append, hpair]
          show (_ ++ [(conc L ρ kv, conc L ρ xv)]).Perm _
          rw [ck1, cv1]
          refine List.Perm.trans ?_ ((uIns_perm kv xv es).symm.map _)
          refine List.Perm.trans (List.perm_append_comm) ?_
          exact (hperm.map _).cons _
    · rw [hl] at hfind
      obtain ⟨k2, e, hk2, hfe, hek, _, hsame⟩ := hloc j v0 hl
      refine ⟨_, ?_, Turns.put (c := .map (fs.toArray.modify j fun e => { e with key := conc L ρ kv, val := conc L ρ xv }) ck) hs hx ho (fun L' ha => by rw [ha id hid]) (WPut.set hm) (fun L' ha => rfl) (fun L' ha => ?_)⟩
      · rw [e1, e2, e3]
        simp only [Instr.mapUpdate, Sem.run_bind, run_underlying hd, Result.andThen_ok, conc, hgo, hck, hfind, Option.map_some]
        have hkt : (Instr.keyThatStays (((fs.toArray[j]?).map (·.key)).getD (conc L ρ kv)) (conc L ρ kv)).run P w = .ok (conc L ρ kv) w := by
          have : ((fs.toArray[j]?).map (·.key)).getD (conc L ρ kv) = e.key := by simp [hfe]
          rw [this]
          unfold Instr.keyThatStays
          rw [if_pos hsame]
          rfl
        rw [hkt]
        exact run_setObj hm rfl
      · rw [ha id hid]
        refine ⟨fs.modify j fun e => { e with key := conc L ρ kv, val := conc L ρ xv }, ck, ?_, ?_⟩
        · show (w.heap.setIfInBounds _ _)[_]? = _
          rw [Array.getElem?_setIfInBounds_self_of_lt (lt_of_some hm)]
          simp
        · have hset : ((fs.modify j fun e => { e with key := conc L ρ kv, val := conc L ρ xv }).map fun e => (e.key, e.val)) = (m0.map fun p => bif isHit ki.agg qs kv p.1 then (kv, xv) else p).map fun p => (kval p.1, kval p.2) := by
            apply List.ext_getElem?
            intro i
            rw [List.getElem?_map, List.getElem?_modify, List.getElem?_map, List.getElem?_map]
            have hpi : (fs[i]?).map (fun e => (e.key, e.val)) = (m0[i]?).map fun p => (kval p.1, kval p.2) := by rw [← List.getElem?_map, hpair, List.getElem?_map]
            by_cases hij : j = i
            · subst hij
              rw [hfe, hj]
              simp [hh, ck1, cv1]
            · cases hmi : m0[i]? with
              | none => rw [hmi] at hpi; cases hfi : fs[i]? <;> rw [hfi] at hpi <;> simp_all
              | some q =>
                have hne : isHit ki.agg qs kv q.1 = false := by
                  cases hs : isHit ki.agg qs kv q.1 with
                  | false => rfl
                  | true => exact absurd (one_hit hfil hj hmi hh hs) hij
                rw [hmi] at hpi
                simp only [Option.map_some, hne, cond_false]
                rw [← Option.map_some (f := fun p : AV × AV => (kval p.1, kval p.2)), ← hpi]
                cases fs[i]? <;> simp [hij]
          rw [hset]
          show (List.map _ (m0.map _)).Perm (List.map _ (uRepl ki.agg qs kv xv es))
          unfold uRepl
          rw [lmap_eq]
          exact (hperm.map _).map _
  | false =>
  rw [hU, cond_false] at h
  replace h := withMap_at h; obtain ⟨es, ck, ho, h⟩ := h
  replace h := T.at_bind_some.1 h
  obtain ⟨⟨r, fx1⟩, hf, h⟩ := h
  obtain ⟨hx1, hrf, hre⟩ := findKey_sound ok hki hqs hx hf
  have hkk := hqs
  rw [ok.kinds _ _ hki] at hkk
  have hag := agg_struct ok hki hqs
  have hshp := shapeOk_iff hsh (fun ha => by
    rcases kindsT_agg hkk with ⟨_, _, rfl⟩ | ⟨_, rfl⟩ | ⟨_, rfl⟩ | ⟨_, fs, _, hu, _, _⟩
    · rfl
    · rfl
    · rfl
    · rw [hag.2 ⟨fs, hu⟩] at ha; cases ha)
  have hck : (Instr.checkKey false 10000 kt (conc L ρ kv)).run P w = .ok () w := run_checkKey_kinds 8 10000 kt qs hkk (by omega) L kv w ki.agg false hag hshp
  have hm := (hs L (Agree.refl _ _)).map ho
  have hgo := run_getObj (P := P) hm rfl
  have e1 := h1 L (Agree.refl _ _)
  have e2 := h2 L (Agree.refl _ _)
  have e3 := h3 L (Agree.refl _ _)
  have concE_eq : ∀ L', Agree st.nx L L' → es.map (concE L' ρ) = es.map (concE L ρ) := fun L' ha => by
    have a1 := (hs L' ha).map ho
    rw [ha id hid, hm] at a1
    simp only [Option.some.injEq, Obj.map.injEq, and_true] at a1
    exact (List.toArray_inj a1).symm
  cases r with
  | none =>
    replace h := ret1_at h
    subst h
    refine ⟨_, ?_, Turns.put (c := .map ((es.map (concE L ρ)).toArray.push { key := conc L ρ kv, val := conc L ρ xv, born := ck }) (ck + 1)) hs hx1 ho (fun L' ha => by rw [ha id hid]) (WPut.set hm) (fun L' ha => rfl) (fun L' ha => ?_)⟩
    · rw [e1, e2, e3]
      simp only [Instr.mapUpdate, Sem.run_bind, run_underlying hd, Result.andThen_ok, conc, hgo, hck, hrf L w, concF, Option.map]
      exact run_setObj hm rfl
    · rw [ha id hid]
      show (w.heap.setIfInBounds _ _)[_]? = _
      rw [Array.getElem?_setIfInBounds_self_of_lt (lt_of_some hm)]
      rw [lapp_eq, List.map_append, ← h2 L' ha |>.symm.trans e2, ← (h3 L' ha).symm.trans e3, ← concE_eq L' ha]
      simp [concE]
  | some p =>
    obtain ⟨j, u⟩ := p
    replace h := ret1_at h
    subst h
    obtain ⟨e, he, _, s1, s2, heq⟩ := hre j u rfl
    have hks := key_same s1 s2 heq L
    refine ⟨_, ?_, Turns.put (c := .map ((es.map (concE L ρ)).toArray.modify j fun e => { e with key := conc L ρ kv, val := conc L ρ xv }) ck) hs hx1 ho (fun L' ha => by rw [ha id hid]) (WPut.set hm) (fun L' ha => rfl) (fun L' ha => ?_)⟩
    · rw [e1, e2, e3]
      simp only [Instr.mapUpdate, Sem.run_bind, run_underlying hd, Result.andThen_ok, conc, hgo, hck, hrf L w, concF, Option.map_some]
      have hkt : (Instr.keyThatStays ((((es.map (concE L ρ)).toArray[j]?).map (·.key)).getD (conc L ρ kv)) (conc L ρ kv)).run P w = .ok (conc L ρ kv) w := by
        have : (((es.map (concE L ρ)).toArray[j]?).map (·.key)).getD (conc L ρ kv) = conc L ρ e.1 := by simp [he, concE]
        rw [this]
        unfold Instr.keyThatStays
        rw [if_pos hks]
        rfl
      rw [hkt]
      exact run_setObj hm rfl
    · rw [ha id hid]
      show (w.heap.setIfInBounds _ _)[_]? = _
      rw [Array.getElem?_setIfInBounds_self_of_lt (lt_of_some hm)]
      congr 2
      have hlt : j < es.length := by
        rcases Nat.lt_or_ge j es.length with hh | hh
        · exact hh
        · rw [List.getElem?_eq_none hh] at he; cases he
      have hu : updEntry es j kv xv = es.set j (kv, xv, e.2.2) := by
        unfold updEntry
        rw [lget_eq, he]
        exact lset_eq _ _ _
      rw [hu]
      apply Array.ext_getElem?
      intro i
      rw [Array.getElem?_modify]
      simp only [List.getElem?_toArray, List.getElem?_map]
      rw [show (es[i]?).map (concE L ρ) = (es[i]?).map (concE L' ρ) by rw [← List.getElem?_map, ← List.getElem?_map, concE_eq L' ha]]
      by_cases hi : j = i
      · subst hi
        rw [if_pos rfl, List.getElem?_set_self hlt, he]
        simp only [Option.map_some, ← e2, ← e3, h2 L' ha, h3 L' ha]
        rfl
      · rw [if_neg hi, List.getElem?_set_ne hi]
        rfl
end Ab

/- E, part 16: delete, clear, copy. -/
namespace Ab
open Go

variable {P : Program} {cx : Ctx} {ρ : Env}

theorem lerase_eq {α : Type} (l : List α) (i : Nat) : lerase l i = l.eraseIdx i := by
  induction l generalizing i with
  | nil => rfl
  | cons x l ih =>
    cases i with
    | zero => rfl
    | succ i => exact congrArg (x :: ·) (ih i)
theorem map_erase {α β : Type} (f : α → β) (l : List α) (i : Nat) : (l.map f).eraseIdx i = (l.eraseIdx i).map f := by
  induction l generalizing i with
  | nil => rfl
  | cons x l ih =>
    cases i with
    | zero => rfl
    | succ i => exact congrArg (f x :: ·) (ih i)
theorem eraseIn_toList {α : Type} (a : Array α) (j : Nat) : (a.eraseIdxIfInBounds j).toList = a.toList.eraseIdx j := by
  unfold Array.eraseIdxIfInBounds
  split
  · simp
  · rename_i h
    rw [List.eraseIdx_of_length_le (by simpa using h)]

theorem erase_one {h : AV → Bool} : ∀ {m : List (AV × AV)} {p : AV × AV} (_ : m.filter (fun q => h q.1) = [p]) {j : Nat} {a : AV × AV} (_ : m[j]? = some a) (_ : h a.1 = true), m.eraseIdx j = m.filter fun q => !h q.1
  | [], _, hf, _, _, _, _ => by cases hf
  | q :: m, p, hf, j, a, hj, ha => by
    rw [List.filter_cons] at hf
    cases hq : h q.1 with
    | true =>
      rw [hq, if_pos rfl, List.cons.injEq] at hf
      have hn := List.filter_eq_nil_iff.1 hf.2
      cases j with
      | zero =>
        rw [List.eraseIdx_cons_zero, List.filter_cons, hq]
        simp only [Bool.not_true, Bool.false_eq_true, if_false]
        exact (List.filter_eq_self.2 (fun x hx => by simpa using hn x hx)).symm
      | succ j => rw [List.getElem?_cons_succ] at hj; exact absurd ha (hn a (List.mem_of_getElem? hj))
    | false =>
      rw [hq] at hf
      cases j with
      | zero => simp only [List.getElem?_cons_zero, Option.some.injEq] at hj; subst hj; rw [hq] at ha; cases ha
      | succ j =>
        rw [List.getElem?_cons_succ] at hj
        rw [List.eraseIdx_cons_succ, List.filter_cons, hq]
        simp only [Bool.not_false, if_true]
        rw [erase_one (by simpa using hf) hj ha]
theorem mapDelE_sound (ok : cx.Ok P) {st st' : St} {t : TypeId} {mv kv : AV} (hx : FxOk ρ st.fx) (h : (mapDelE cx st t mv kv).at_ ρ = some st') {L : Nat → Loc} {w : World}
    (hs : ∀ L', Agree st.nx L L' → Sim L' ρ st.H w) {m k : Value} (h1 : ∀ L', Agree st.nx L L' → m = conc L' ρ mv) (h2 : ∀ L', Agree st.nx L L' → k = conc L' ρ kv) (ty : TypeId) (ts : Array TypeId) (hts : ts[0]? = some t) :
    ∃ w', (Builtin.delete_ ts ty #[m, k]).run P w = .ok undef w' ∧ Turns ρ L st w undefA st' undef w' := by
  unfold mapDelE at h
  replace h := tyE_at.1 h; obtain ⟨ti, ht, h⟩ := h
  have hd := ok.desc _ _ ht
  split at h
  case h_2 => simp [T.at_bad] at h
  rename_i kt el hdd
  rw [hdd] at hd
  replace h := tyE_at.1 h; obtain ⟨ki, hki, h⟩ := h
  replace h := T.at_opt_some.1 h; obtain ⟨qs, hqs, h⟩ := h
  replace h := chk_at h; obtain ⟨hsh, h⟩ := h
  have hkk := hqs
  rw [ok.kinds _ _ hki] at hkk
  have hag := agg_struct ok hki hqs
  have hshp := shapeOk_iff hsh (fun ha => by
    rcases kindsT_agg hkk with ⟨_, _, rfl⟩ | ⟨_, rfl⟩ | ⟨_, rfl⟩ | ⟨_, fs, _, hu, _, _⟩
    · rfl
    · rfl
    · rfl
    · rw [hag.2 ⟨fs, hu⟩] at ha; cases ha)
  have hck : ∀ b, (Instr.checkKey b 10000 kt (conc L ρ kv)).run P w = .ok () w := fun b => run_checkKey_kinds 8 10000 kt qs hkk (by omega) L kv w ki.agg b hag hshp
  have e1 := h1 L (Agree.refl _ _)
  have e2 := h2 L (Agree.refl _ _)
  split at h
  case h_3 => simp [T.at_bad] at h
  case h_1 =>
    replace h := ret1_at h
    subst h
    refine ⟨w, ?_, ?_⟩
    · rw [e1, e2]
      simp [Builtin.delete_, hts, run_underlying hd, conc, hck, undef]
    · have := Turns.same (v := undefA) (x := undef) (w' := w) hs (fun L' ha => rfl) hx rfl rfl rfl rfl
      exact this
  rename_i id
  replace h := chk_at h; obtain ⟨hid, h⟩ := h
  have hid := Nat.le_of_ble_eq_true hid
  cases hU : isU st.H id with
  | true =>
    rw [hU, cond_true] at h
    obtain ⟨es, o, ho, hkc, hu, hone, h⟩ := withU_at h
    replace h := ret1_at h
    subst h
    obtain ⟨fs, ck, m0, hm, hperm, hpair, hfind, hloc⟩ := findKey_u ok hki hqs (hs L (Agree.refl _ _)) ho hu
    have hgo := run_getObj (P := P) hm rfl
    have hrun0 : ∀ o' : Obj, (setObj (L id).b o').run P w = .ok () { w with heap := w.heap.setIfInBounds (L id).b o' } := fun o' => run_setObj hm rfl
    rcases locU_one hperm hone with ⟨hl, rfl, hno⟩ | ⟨j, v0, k', p, hl, hj, hh, rfl, hfil⟩
    · rw [hl] at hfind
      refine ⟨_, ?_, Turns.put (c := .map fs.toArray ck) hs hx ho (fun L' ha => by rw [ha id hid]) (WPut.set hm) (fun L' ha => rfl) (fun L' ha => ?_)⟩
      · rw [e1, e2]
        have hfind' : (Instr.findKey kt (conc L ρ kv) fs).run P w = .ok none w := hfind
        simp [Builtin.delete_, hts, run_underlying hd, conc, hgo, hck, hfind', hrun0, undef]
      · rw [ha id hid]
        refine ⟨fs, ck, ?_, ?_⟩
        · show (w.heap.setIfInBounds _ _)[_]? = _
          rw [Array.getElem?_setIfInBounds_self_of_lt (lt_of_some hm)]
        · rw [hpair]
          exact hperm.map _
    · rw [hl] at hfind
      refine ⟨_, ?_, Turns.put (c := .map (fs.toArray.eraseIdxIfInBounds j) ck) hs hx ho (fun L' ha => by rw [ha id hid]) (WPut.set hm) (fun L' ha => rfl) (fun L' ha => ?_)⟩
      · rw [e1, e2]
        have hfind' : (Instr.findKey kt (conc L ρ kv) fs).run P w = .ok (some (j, conc L ρ v0)) w := hfind
        simp [Builtin.delete_, hts, run_underlying hd, conc, hgo, hck, hfind', hrun0, undef]
      · rw [ha id hid]
        refine ⟨fs.eraseIdx j, ck, ?_, ?_⟩
        · show (w.heap.setIfInBounds _ _)[_]? = _
          rw [Array.getElem?_setIfInBounds_self_of_lt (lt_of_some hm)]
          congr 2
          apply Array.ext'
          rw [eraseIn_toList]
        · have e5 : (fs.eraseIdx j).map (fun e => (e.key, e.val)) = (m0.eraseIdx j).map fun p => (kval p.1, kval p.2) := by
            rw [← map_erase, hpair, map_erase]
          rw [e5]
          show (List.map _ (m0.eraseIdx j)).Perm (List.map _ (uDel ki.agg qs kv es))
          rw [uDel_eq]
          refine List.Perm.map _ (List.Perm.trans ?_ (hperm.filter _))
          rw [erase_one hfil hj hh]
  | false =>
  rw [hU, cond_false] at h
  replace h := withMap_at h; obtain ⟨es, ck, ho, h⟩ := h
  replace h := T.at_bind_some.1 h
  obtain ⟨⟨r, fx1⟩, hf, h⟩ := h
  obtain ⟨hx1, hrf, hre⟩ := findKey_sound ok hki hqs hx hf
  have hm := (hs L (Agree.refl _ _)).map ho
  have hgo := run_getObj (P := P) hm rfl
  have concE_eq : ∀ L', Agree st.nx L L' → es.map (concE L' ρ) = es.map (concE L ρ) := fun L' ha => by
    have a1 := (hs L' ha).map ho
    rw [ha id hid, hm] at a1
    simp only [Option.some.injEq, Obj.map.injEq, and_true] at a1
    exact (List.toArray_inj a1).symm
  have hrun0 : ∀ o' : Obj, (setObj (L id).b o').run P w = .ok () { w with heap := w.heap.setIfInBounds (L id).b o' } := fun o' => run_setObj hm rfl
  cases r with
  | none =>
    replace h := ret1_at h
    subst h
    refine ⟨_, ?_, Turns.put (c := .map (es.map (concE L ρ)).toArray ck) hs hx1 ho (fun L' ha => by rw [ha id hid]) (WPut.set hm) (fun L' ha => rfl) (fun L' ha => ?_)⟩
    · rw [e1, e2]
      simp [Builtin.delete_, hts, run_underlying hd, conc, hgo, hck, hrf L w, concF, hrun0, undef]
    · rw [ha id hid]
      show (w.heap.setIfInBounds _ _)[_]? = _
      rw [Array.getElem?_setIfInBounds_self_of_lt (lt_of_some hm), ← concE_eq L' ha]
      rfl
  | some p =>
    obtain ⟨j, u⟩ := p
    replace h := ret1_at h
    subst h
    refine ⟨_, ?_, Turns.put (c := .map ((es.map (concE L ρ)).toArray.eraseIdxIfInBounds j) ck) hs hx1 ho (fun L' ha => by rw [ha id hid]) (WPut.set hm) (fun L' ha => rfl) (fun L' ha => ?_)⟩
    · rw [e1, e2]
      simp [Builtin.delete_, hts, run_underlying hd, conc, hgo, hck, hrf L w, concF, hrun0, undef]
    · rw [ha id hid]
      show (w.heap.setIfInBounds _ _)[_]? = _
      rw [Array.getElem?_setIfInBounds_self_of_lt (lt_of_some hm), ← concE_eq L' ha, lerase_eq]
      congr 2
      apply Array.toList_inj.1
      rw [eraseIn_toList]
      exact map_erase _ _ _

/-! ## Cells that are copied -/
theorem firstE_sound {H : Tr AObj} {size n : Nat} {x : AV} {cs : List AV} (h : (firstE H size n x).at_ ρ = some cs) :
    ∀ (L : Nat → Loc) (w : World), Sim L ρ H w → (Builtin.firstCells size n (conc L ρ x)).run P w = .ok (cs.map (conc L ρ)).toArray w := by
  unfold firstE at h
  split at h
  · replace h := ret1_at h
    subst h
    intro L w hs
    rfl
  · rename_i id off0 off len cap op
    cases hn : Nat.beq n 0 with
    | true =>
      rw [hn, cond_true] at h
      replace h := ret1_at h
      subst h
      have hn := Nat.eq_of_beq_eq_true hn
      subst hn
      intro L w hs
      simp only [conc, Builtin.firstCells, Nat.zero_mul]
      rfl
    | false =>
      rw [hn, cond_false] at h
      cases hz : Nat.beq size 0 with
      | true => rw [hz, cond_true] at h; simp [T.at_bad] at h
      | false =>
        rw [hz, cond_false] at h
        replace h := chk_at h; obtain ⟨hc, h⟩ := h
        have hc := Nat.le_of_ble_eq_true hc
        replace h := withCells_at h; obtain ⟨tr, d, m, el, sz, ho, h⟩ := h
        replace h := chk_at h; obtain ⟨hm, h⟩ := h
        have hm := Nat.le_of_ble_eq_true hm
        replace h := T.at_opt_some.1 h; obtain ⟨cs', hcs, h⟩ := h
        replace h := ret1_at h
        subst h
        intro L w hs
        simp only [conc, Builtin.firstCells]
        rw [if_neg (by omega)]
        exact hs.cells ho hm hcs
  · rename_i s
    replace h := ret1_at h
    subst h
    intro L w hs
    simp only [conc, Builtin.firstCells, STm.den, Sem.run_pure, lmap_eq, ltake_eq]
    congr 1
    apply Array.toList_inj.1
    rw [List.map_map]
    have : (ByteArray.extract ⟨s.toArray⟩ 0 n).data.toList = s.take n := by
      simp [ByteArray.data_extract]
    simp only [Array.toList_map, this]
    apply List.map_congr_left
    intro b _
    simp [conc, Tm.den]
  · simp [T.at_bad] at h
theorem firstE_len {H : Tr AObj} {size n : Nat} {x : AV} {cs : List AV} (h : (firstE H size n x).at_ ρ = some cs) (h1 : 1 ≤ size) : cs.length ≤ n * size := by
  unfold firstE at h
  split at h
  · replace h := ret1_at h
    subst h
    simp
  · cases hn : Nat.beq n 0 with
    | true =>
      rw [hn, cond_true] at h
      replace h := ret1_at h
      subst h
      simp
    | false =>
      rw [hn, cond_false] at h
      cases hz : Nat.beq size 0 with
      | true => rw [hz, cond_true] at h; simp [T.at_bad] at h
      | false =>
        rw [hz, cond_false] at h
        replace h := chk_at h; obtain ⟨hc, h⟩ := h
        replace h := withCells_at h; obtain ⟨tr, d, m, el, sz, ho, h⟩ := h
        replace h := chk_at h; obtain ⟨hm, h⟩ := h
        replace h := T.at_opt_some.1 h; obtain ⟨cs', hcs, h⟩ := h
        replace h := ret1_at h
        subst h
        exact Nat.le_of_eq (gather_some hcs).1
  · replace h := ret1_at h
    subst h
    rw [lmap_eq, ltake_eq, List.length_map, List.length_take]
    have : n * 1 ≤ n * size := Nat.mul_le_mul_left n h1
    omega
  · simp [T.at_bad] at h
theorem lenOfE_at {x : AV} {f : Nat → T (AV × St)} {r : AV × St} (h : (lenOfE x f).at_ ρ = some r) : ∃ n, (f n).at_ ρ = some r ∧ (∀ (L : Nat → Loc) (w : World), (Builtin.lenOf (conc L ρ x)).run P w = .ok n w) ∧
    ∀ (L : Nat → Loc) (w : World) (size : Nat), (Builtin.firstCells size 0 (conc L ρ x)).run P w = .ok #[] w := by
  unfold lenOfE at h
  split at h
  · exact ⟨0, h, fun L w => rfl, fun L w s => rfl⟩
  · refine ⟨_, h, fun L w => rfl, fun L w s => ?_⟩
    simp only [conc, Builtin.firstCells, Nat.zero_mul]
    rfl
  · rename_i s
    refine ⟨_, h, fun L w => ?_, fun L w s => ?_⟩
    · simp only [conc, STm.den, Builtin.lenOf, llen_eq]
      rfl
    · simp [conc, Builtin.firstCells]
  · simp [T.at_bad] at h
theorem cs_same {cs : List AV} {X : Sem (Array Value)} {w : World} {L L' : Nat → Loc} (h1 : X.run P w = .ok (cs.map (conc L ρ)).toArray w) (h2 : X.run P w = .ok (cs.map (conc L' ρ)).toArray w) :
    cs.map (conc L ρ) = cs.map (conc L' ρ) := by
  rw [h1] at h2
  simp only [Result.ok.injEq, and_true] at h2
  exact List.toArray_inj h2

theorem copyE_sound (ok : cx.Ok P) {st st' : St} {t u : TypeId} {dv xv v : AV} (hx : FxOk ρ st.fx) (h : (copyE cx st t dv xv).at_ ρ = some (v, st')) {L : Nat → Loc} {w : World}
    (hs : ∀ L', Agree st.nx L L' → Sim L' ρ st.H w) {x1 x2 : Value} (h1 : ∀ L', Agree st.nx L L' → x1 = conc L' ρ dv) (h2 : ∀ L', Agree st.nx L L' → x2 = conc L' ρ xv) (ty : TypeId) :
    ∃ x w', (Builtin.copy_ #[t, u] ty #[x1, x2]).run P w = .ok x w' ∧ Turns ρ L st w v st' x w' := by
  unfold copyE at h
  replace h := tyE_at.1 h; obtain ⟨ti, ht, h⟩ := h
  have hd := ok.desc _ _ ht
  split at h
  case h_2 => simp [T.at_bad] at h
  rename_i el hdd
  rw [hdd] at hd
  replace h := tyE_at.1 h; obtain ⟨ei, hei, h⟩ := h
  replace h := chk_at h; obtain ⟨hsize, h⟩ := h
  have hsize := Nat.le_of_ble_eq_true hsize
  replace h := lenOfE_at (P := P) h; obtain ⟨m, h, hlen, hzero⟩ := h
  have e1 := h1 L (Agree.refl _ _)
  have e2 := h2 L (Agree.refl _ _)
  have hsz := ok.run_size hei w
  split at h
  case h_3 => simp [T.at_bad] at h
  case h_1 =>
    replace h := ret_at h; obtain ⟨rfl, rfl⟩ := h
    refine ⟨goInt 0, w, ?_, ?_⟩
    · rw [e1, e2]
      simp [Builtin.copy_, conc, run_underlying hd, hlen L w, hsz, hzero L w]
    · exact Turns.same hs (fun L' ha => rfl) hx rfl rfl rfl rfl
  rename_i id off0 off len cap op
  simp only at h
  have hmin : (bif Nat.ble m len then m else len) = Nat.min m len := by
    show _ = min m len
    cases hb : Nat.ble m len with
    | true => rw [cond_true, Nat.min_eq_left (Nat.le_of_ble_eq_true hb)]
    | false =>
      have : ¬ m ≤ len := fun hh => by rw [Nat.ble_eq_true_of_le hh] at hb; cases hb
      rw [cond_false, Nat.min_eq_right (by omega)]
  rw [hmin] at h
  cases hn : Nat.beq (Nat.min m len) 0 with
  | true =>
    have hn' := Nat.eq_of_beq_eq_true hn
    rw [hn, cond_true] at h
    replace h := ret_at h; obtain ⟨rfl, rfl⟩ := h
    refine ⟨goInt 0, w, ?_, ?_⟩
    · rw [e1, e2]
      simp only [conc]
      simp [Builtin.copy_, run_underlying hd, hlen L w, hsz, hn', hzero L w, storeCells]
    · exact Turns.same hs (fun L' ha => rfl) hx rfl rfl rfl rfl
  | false =>
    rw [hn, cond_false] at h
    replace h := T.at_bind_some.1 h
    obtain ⟨cs, hcs, h⟩ := h
    replace h := chk_at h; obtain ⟨hid, h⟩ := h
    have hid := Nat.le_of_ble_eq_true hid
    replace h := chk_at h; obtain ⟨hc, h⟩ := h
    have hc := Nat.le_of_ble_eq_true hc
    replace h := withCells_at h; obtain ⟨tr, dd, k, el', sz, ho, h⟩ := h
    replace h := chk_at h; obtain ⟨hone, h⟩ := h
    replace h := chk_at h; obtain ⟨hk, h⟩ := h
    have hk := Nat.le_of_ble_eq_true hk
    replace h := ret_at h; obtain ⟨rfl, rfl⟩ := h
    have hf := firstE_sound (P := P) hcs
    have hfl := hf L w (hs L (Agree.refl _ _))
    have hcl := firstE_len hcs hsize
    obtain ⟨w', c, hrun, hp, hob⟩ := put_cells (P := P) hs ho (fun L' ha => ha id hid) (cs := cs) (off := off) ((allOne_iff _).1 hone) (Nat.le_trans (Nat.add_le_add_left hcl off) hk)
      (vs := cs.map (conc L ρ)) (fun L' ha => by
        have := hf L' w (hs L' ha)
        rw [← h2 L' ha, e2] at this
        exact cs_same hfl this)
    refine ⟨goInt (Nat.min m len), w', ?_, Turns.put hs hx ho (fun L' ha => by rw [ha id hid]) hp (fun L' ha => rfl) hob⟩
    rw [e1, e2]
    simp only [conc]
    rw [if_neg (by omega)]
    simp only [Builtin.copy_, Sem.run_bind, hlen L w, run_underlying hd, hsz, hfl, Result.andThen_ok, List.getElem?_toArray, List.getElem?_cons_zero, List.getElem?_cons_succ, hrun]
    rfl
theorem zeroCells_eq (vs : Array Value) (n : Nat) : Builtin.zeroCells vs n = (lrep vs.toList n).toArray := range_rep vs n _ rfl
theorem clearE_sound (ok : cx.Ok P) {st st' : St} {t : TypeId} {xv : AV} (hx : FxOk ρ st.fx) (h : (clearE cx st t xv).at_ ρ = some st') {L : Nat → Loc} {w : World}
    (hs : ∀ L', Agree st.nx L L' → Sim L' ρ st.H w) {x1 : Value} (h1 : ∀ L', Agree st.nx L L' → x1 = conc L' ρ xv) (ty : TypeId) :
    ∃ w', (Builtin.clear_ #[t] ty #[x1]).run P w = .ok undef w' ∧ Turns ρ L st w undefA st' undef w' := by
  unfold clearE at h
  replace h := tyE_at.1 h; obtain ⟨ti, ht, h⟩ := h
  have hd := ok.desc _ _ ht
  have e1 := h1 L (Agree.refl _ _)
  have same : Turns ρ L st w undefA st undef w := Turns.same hs (fun L' ha => rfl) hx rfl rfl rfl rfl
  split at h
  case h_5 => simp [T.at_bad] at h
  case h_1 =>
    replace h := ret1_at h
    subst h
    refine ⟨w, ?_, same⟩
    rw [e1]
    simp [Builtin.clear_, conc, run_underlying hd, undef]
  case h_2 =>
    replace h := ret1_at h
    subst h
    refine ⟨w, ?_, same⟩
    rw [e1]
    simp [Builtin.clear_, conc, run_underlying hd, undef]
  case h_3 _ _ id hdd =>
    rw [hdd] at hd
    replace h := chk_at h; obtain ⟨hid, h⟩ := h
    have hid := Nat.le_of_ble_eq_true hid
    replace h := withMap_at h; obtain ⟨es, ck, ho, h⟩ := h
    replace h := ret1_at h
    subst h
    have hm := (hs L (Agree.refl _ _)).map ho
    have hgo := run_getObj (P := P) hm rfl
    refine ⟨_, ?_, Turns.put (c := .map #[] ck) hs hx ho (fun L' ha => by rw [ha id hid]) (WPut.set hm) (fun L' ha => rfl) (fun L' ha => ?_)⟩
    · rw [e1]
      simp [Builtin.clear_, conc, run_underlying hd, hgo, run_setObj (P := P) (o' := .map #[] ck) hm rfl, undef]
    · rw [ha id hid]
      show (w.heap.setIfInBounds _ _)[_]? = _
      rw [Array.getElem?_setIfInBounds_self_of_lt (lt_of_some hm)]
      rfl
  case h_4 _ el id off0 off len cap op hdd =>
    rw [hdd] at hd
    cases hn : Nat.beq len 0 with
    | true =>
      have hn := Nat.eq_of_beq_eq_true hn
      subst hn
      rw [show Nat.beq 0 0 = true from rfl, cond_true] at h
      replace h := ret1_at h
      subst h
      refine ⟨w, ?_, same⟩
      rw [e1]
      simp [Builtin.clear_, conc, run_underlying hd, undef]
    | false =>
      rw [hn, cond_false] at h
      have hn0 : len ≠ 0 := fun hh => by rw [hh] at hn; cases hn
      replace h := tyE_at.1 h; obtain ⟨ei, hei, h⟩ := h
      replace h := T.at_opt_some.1 h; obtain ⟨z, hz, h⟩ := h
      replace h := chk_at h; obtain ⟨hid, h⟩ := h
      have hid := Nat.le_of_ble_eq_true hid
      replace h := chk_at h; obtain ⟨hc, h⟩ := h
      have hc := Nat.le_of_ble_eq_true hc
      replace h := withCells_at h; obtain ⟨tr, d, n, el', sz, ho, h⟩ := h
      replace h := chk_at h; obtain ⟨hzl, h⟩ := h
      have hzl := Nat.eq_of_beq_eq_true hzl
      rw [llen_eq] at hzl
      replace h := chk_at h; obtain ⟨hone, h⟩ := h
      replace h := chk_at h; obtain ⟨hk, h⟩ := h
      have hk := Nat.le_of_ble_eq_true hk
      replace h := ret1_at h
      subst h
      have ze : ∀ L', (z.cells).map (conc L ρ) = (z.cells).map (conc L' ρ) := by
        intro L'
        obtain ⟨v, hv, hz'⟩ := ok.zero _ _ _ hei hz
        have a1 := conc_cells L ρ z
        have a2 := conc_cells L' ρ z
        rw [conc_ofV L ρ hz'] at a1
        rw [conc_ofV L' ρ hz', a1] at a2
        exact List.toArray_inj a2
      have hmem : ∀ c ∈ lrep z.cells len, c.one = true := by
        intro c hc
        obtain ⟨i, hi⟩ := List.getElem?_of_mem hc
        have hlt : i < (lrep z.cells len).length := by
          rcases Nat.lt_or_ge i (lrep z.cells len).length with hh | hh
          · exact hh
          · rw [List.getElem?_eq_none hh] at hi; cases hi
        rw [lrep_length] at hlt
        rw [lrep_get _ _ _ hlt] at hi
        exact (allOne_iff _).1 hone c (List.mem_of_getElem? hi)
      obtain ⟨w', c, hrun, hp, hob⟩ := put_cells (P := P) hs ho (fun L' ha => ha id hid) (cs := lrep z.cells len) (off := off) hmem (by rw [lrep_length, hzl]; exact hk)
        (vs := (lrep z.cells len).map (conc L ρ)) (fun L' ha => by rw [lrep_map, lrep_map, ze L'])
      refine ⟨w', ?_, Turns.put hs hx ho (fun L' ha => by rw [ha id hid]) hp (fun L' ha => rfl) hob⟩
      rw [e1]
      simp only [conc]
      rw [if_neg (by omega)]
      have hzr := ok.run_zero (ρ := ρ) hei hz L w
      have hzc : (Builtin.zeroCells (conc L ρ z).cells len).toList = (lrep z.cells len).map (conc L ρ) := by
        rw [zeroCells_eq, conc_cells, lrep_map]
      obtain ⟨len, rfl⟩ : ∃ k, len = k + 1 := ⟨len - 1, by omega⟩
      simp only [Builtin.clear_, Sem.run_bind, run_underlying hd, hzr, Result.andThen_ok, List.getElem?_toArray, List.getElem?_cons_zero, hzc, hrun]
      rfl
end Ab

/- E, part 17: append; a text as bytes; ranges. -/
namespace Ab
open Go

variable {P : Program} {cx : Ctx} {ρ : Env}

theorem Sim.keep {L : Nat → Loc} {H : Tr AObj} {w w' : World} (h : Sim L ρ H w) (hh : w'.heap = w.heap) : Sim L ρ H w' :=
  ⟨fun id o ho => (h.at_ id o ho).keep (by rw [hh]), h.inj, h.pin⟩
theorem Turns.weaken {L : Nat → Loc} {st : St} {H0 : Tr AObj} {w w' : World} {v : AV} {st' : St} {x : Value} (hsub : ∀ id o, H0.get id = some o → st.H.get id = some o)
    (h : Turns ρ L ⟨H0, st.nx, st.fx⟩ w v st' x w') : Turns ρ L st w v st' x w' := by
  obtain ⟨L1, ha, hn, hf, r⟩ := h
  exact ⟨L1, ha, hn, ⟨hf.size, hf.os, hf.tape, hf.output, fun b hb hnb => hf.keep b hb (fun id o ho => hnb id o (hsub id o ho)), fun b hb hnb => hf.owns b hb (fun id o ho => hnb id o (hsub id o ho))⟩, r⟩
theorem Turns.move {L : Nat → Loc} {st : St} {w w' : World} {v : AV} {id : Nat} {o0 o : AObj} {x : Value} {c : Obj} {l : Loc} (hs : ∀ L', Agree st.nx L L' → Sim L' ρ st.H w) (hx : FxOk ρ st.fx)
    (h0 : st.H.get id = some o0) (hid : id < st.nx) (hp : WPut w (L id).b c w') (hl : l.b = (L id).b) (hv : ∀ L', Agree st.nx L L' → L' st.nx = l → x = conc L' ρ v)
    (ho : ∀ L', Agree st.nx L L' → L' st.nx = l → ObjAt L' ρ w' l o) : Turns ρ L st w v ⟨(st.H.upd id none).set st.nx o, Nat.succ st.nx, st.fx⟩ x w' := by
  have get : ∀ id' o', ((st.H.upd id none).set st.nx o).get id' = some o' → (id' = st.nx ∧ o' = o) ∨ (id' ≠ st.nx ∧ id' ≠ id ∧ st.H.get id' = some o') := by
    intro id' o' h
    rw [Tr.get_set] at h
    split at h
    · rename_i e
      exact .inl ⟨e, by simpa using h.symm⟩
    · rename_i e
      rw [Tr.get_upd] at h
      split at h
      · cases h
      · rename_i e'
        exact .inr ⟨e, e', h⟩
  refine ⟨fun i => if i = st.nx then l else L i, fun i hi => if_neg (by omega), Nat.le_succ _, ?_, hx, fun L' ha => ?_⟩
  · refine ⟨by rw [hp.size]; exact Nat.le_refl _, hp.os, hp.tape, hp.output, fun b hb hnb => hp.other b (Ne.symm (hnb id o0 h0)), fun b hb hnb id' o' ho' => ?_⟩
    dsimp only at ho' ⊢
    rcases get id' o' ho' with ⟨e, _⟩ | ⟨e, e', h⟩
    · rw [if_pos e, hl]; exact hnb id o0 h0
    · rw [if_neg e]; exact hnb id' o' h
  · have ha0 : Agree st.nx L L' := fun i hi => by rw [ha i (Nat.lt_succ_of_lt hi)]; exact if_neg (by omega)
    have hn0 : L' st.nx = l := by rw [ha st.nx (Nat.lt_succ_self _)]; exact if_pos rfl
    have hsim := hs L' ha0
    have hb : (L' id).b = (L id).b := by rw [ha0 id hid]
    refine ⟨hv L' ha0 hn0, ?_, ?_, hsim.pin⟩
    · intro id' o' h
      rcases get id' o' h with ⟨rfl, rfl⟩ | ⟨e, e', h⟩
      · rw [hn0]; exact ho L' ha0 hn0
      · refine (hsim.at_ id' o' h).keep (hp.other _ ?_)
        rw [← hb]
        exact fun hh => e' (hsim.inj id' id o' o0 h h0 hh)
    · intro i j oi oj hi hj hbb
      rcases get i oi hi with ⟨rfl, rfl⟩ | ⟨ei, ei', hi1⟩ <;> rcases get j oj hj with ⟨rfl, rfl⟩ | ⟨ej, ej', hj1⟩
      · rfl
      · rw [hn0, hl, ← hb] at hbb
        exact absurd (hsim.inj id j o0 oj h0 hj1 hbb).symm ej'
      · rw [hn0, hl, ← hb] at hbb
        exact absurd (hsim.inj i id oi o0 hi1 h0 hbb) ei'
      · exact hsim.inj i j oi oj hi1 hj1 hbb

/-! ## append -/
/-- append where there is no room. -/
theorem run_append_new {t u el ty : TypeId} {ei : TypeInfo} {z : Value} {uds : TypeDesc} (ht : P.underlying t = some (.slice el)) (hu : P.underlying u = some uds) (hui : ∀ k, uds ≠ .int k) (hi : P.info? el = some ei) (hz : ei.zero = some z)
    {w : World} {base : Option Addr} {len cap n : Nat} {x : Value} {old new : List Value} (hn : (Builtin.lenOf x).run P w = .ok n w) (hc : cap < len + n) (hb : (len + n) * (ei.bytes + 1) ≤ 16777216)
    (ho : (Builtin.firstCells ei.size len (.slice base len cap)).run P w.drew = .ok old.toArray w.drew) (hnew : (Builtin.firstCells ei.size n x).run P w.drew = .ok new.toArray w.drew) :
    (Builtin.append_ #[t, u] ty #[.slice base len cap, x]).run P w = .ok (.slice (some ⟨w.heap.size, 0, none⟩) (len + n) (grownCap w (len + n) cap el))
      { w.drew with heap := w.drew.heap.push (.cells ((old ++ new).toArray ++ Builtin.zeroCells z.cells (grownCap w (len + n) cap el - (len + n))) el) } := by
  rw [Nat.mul_add] at hb
  have h63 : ¬ (IntKind.i64.max < ((len + n : Nat) : Int)) := by rw [IntKind.max_i64]; omega
  have hfit : ¬ (2 ^ 48 < Builtin.nextslicecap (len + n) cap * ei.bytes) := by
    have := growslice_fits (bytes := ei.bytes) hc (by omega)
    omega
  have h63' : ¬ (9223372036854775807 < ((len : Int) + (n : Int))) := by omega
  have hle : ¬ (len + n ≤ cap) := by omega
  simp [Builtin.append_, run_underlying ht, run_underlying hu, Go.sizeOf, typeInfo, zeroValue, hi, hz, hn, hle, h63', hfit, Question.forced, ho, hnew, newRow, grownCap]
  show w.drew.alloc _ = w.drew.alloc _
  congr 2
  rw [← Array.append_assoc]
  simp
/-- append where there is room. -/
theorem run_append_in {t u el ty : TypeId} {ei : TypeInfo} {uds : TypeDesc} (ht : P.underlying t = some (.slice el)) (hu : P.underlying u = some uds) (hui : ∀ k, uds ≠ .int k) (hi : P.info? el = some ei)
    {w w' : World} {base : Option Addr} {len cap n : Nat} {x : Value} {new : List Value} (hn : (Builtin.lenOf x).run P w = .ok n w) (hc : len + n ≤ cap)
    (hnew : (Builtin.firstCells ei.size n x).run P w = .ok new.toArray w)
    (hst : match base with | none => w' = w | some a => (storeCells (a.add (len * ei.size)) new).run P w = .ok () w') :
    (Builtin.append_ #[t, u] ty #[.slice base len cap, x]).run P w = .ok (.slice base (len + n) cap) w' := by
  cases base with
  | none =>
    simp only at hst
    subst hst
    simp [Builtin.append_, run_underlying ht, run_underlying hu, Go.sizeOf, typeInfo, hi, hn, hc, hnew]
  | some a =>
    simp only at hst
    simp [Builtin.append_, run_underlying ht, run_underlying hu, Go.sizeOf, typeInfo, hi, hn, hc, hnew, hst]
end Ab

/- E, part 18: append; a text as bytes; ranges. -/
namespace Ab
open Go

variable {P : Program} {cx : Ctx} {ρ : Env}

/-- The common ground of the ways of append. -/
structure App (P : Program) (ρ : Env) (cx : Ctx) (L : Nat → Loc) (st : St) (w : World) (t u el : TypeId) (ei : TI) (z : Value) (n : Nat) (new : List AV) (sv : AV) (s x : Value) : Prop where
  ut : P.underlying t = some (.slice el)
  uu : ∃ d, P.underlying u = some d ∧ ∀ k, d ≠ .int k
  info : P.info? el = some ei.info
  zero : ei.info.zero = some z
  zsize : z.cells.size = ei.info.size
  size : 1 ≤ ei.info.size
  fx : FxOk ρ st.fx
  sim : ∀ L', Agree st.nx L L' → Sim L' ρ st.H w
  s_ : ∀ L', Agree st.nx L L' → s = conc L' ρ sv
  len : ∀ w, (Builtin.lenOf x).run P w = .ok n w
  news : ∀ L' w', Agree st.nx L L' → w'.heap = w.heap → (Builtin.firstCells ei.info.size n x).run P w' = .ok (new.map (conc L' ρ)).toArray w'
  nlen : new.length = n * ei.info.size

theorem appNew_sound {L : Nat → Loc} {st st' : St} {w : World} {t u el : TypeId} {ei : TI} {z : Value} {n : Nat} {new : List AV} {sv v : AV} {s x : Value} (A : App P ρ cx L st w t u el ei z n new sv s x)
    {base : Option Addr} {len cap bytes : Nat} (hsl : s = .slice base len cap) (hc : cap < len + n) (hb : (bytes + 1) * (len + n) ≤ 16777216) (hby : ei.info.bytes = bytes)
    (h : (appNew st el ei.info.size n new sv len).at_ ρ = some (v, st')) (ty : TypeId) :
    ∃ y w', (Builtin.append_ #[t, u] ty #[s, x]).run P w = .ok y w' ∧ Turns ρ L st w v st' y w' := by
  unfold appNew at h
  replace h := T.at_bind_some.1 h
  obtain ⟨old, hold, h⟩ := h
  replace h := chk_at h; obtain ⟨hol, h⟩ := h
  have hol := Nat.eq_of_beq_eq_true hol
  rw [llen_eq] at hol
  replace h := ret_at h; obtain ⟨rfl, rfl⟩ := h
  obtain ⟨uds, hu, hui⟩ := A.uu
  have hof : ∀ L' w', Agree st.nx L L' → w'.heap = w.heap → (Builtin.firstCells ei.info.size len s).run P w' = .ok (old.map (conc L' ρ)).toArray w' := fun L' w' ha hw => by
    rw [A.s_ L' ha]; exact firstE_sound hold L' w' ((A.sim L' ha).keep hw)
  have hoe : ∀ L', Agree st.nx L L' → old.map (conc L ρ) = old.map (conc L' ρ) := fun L' ha => cs_same (hof L w (Agree.refl _ _) rfl) (hof L' w ha rfl)
  have hne : ∀ L', Agree st.nx L L' → new.map (conc L ρ) = new.map (conc L' ρ) := fun L' ha => cs_same (A.news L w (Agree.refl _ _) rfl) (A.news L' w ha rfl)
  have hrun := run_append_new (ty := ty) A.ut hu hui A.info A.zero (w := w) (base := base) (len := len) (cap := cap) (n := n) (x := x) (old := old.map (conc L ρ)) (new := new.map (conc L ρ)) (A.len w) hc
    (by rw [hby, Nat.mul_comm]; exact hb) (by have := hof L w.drew (Agree.refl _ _) rfl; rw [hsl] at this; exact this) (A.news L w.drew (Agree.refl _ _) rfl)
  rw [hsl]
  have hge := grownCap_ge w (len + n) cap el
  refine ⟨_, _, hrun, Turns.new (k := grownCap w (len + n) cap el - (len + n)) A.sim A.fx (WNew.push' (w := w) (w1 := w.drew) rfl rfl rfl rfl _) (fun L' ha hn => ?_) (fun L' ha hn => ?_)⟩
  · have : Nat.add len n = len + n := rfl
    simp only [conc, hn, if_true, this]
    rw [show len + n + (grownCap w (len + n) cap el - (len + n)) = grownCap w (len + n) cap el by omega]
    simp
  · rw [lapp_eq, show Nat.mul (Nat.add len n) ei.info.size = (old ++ new).length by rw [List.length_append, hol, A.nlen]; exact Nat.add_mul _ _ _]
    refine objAt_list (rest := Builtin.zeroCells z.cells (grownCap w (len + n) cap el - (len + n))) ?_ (by rw [size_zeroCells, A.zsize])
    rw [List.map_append, ← hoe L' ha, ← hne L' ha]
    exact Array.getElem?_push_size

theorem appIn_sound {L : Nat → Loc} {st st' : St} {w : World} {t u el : TypeId} {ei : TI} {z : Value} {n : Nat} {new : List AV} {v : AV} {s x : Value} {id off0 off len cap : Nat} {op : Bool}
    (A : App P ρ cx L st w t u el ei z n new (.slice id off0 off len cap op) s x) (hc : len + n ≤ cap)
    (h : (appIn st ei.info.size n new id off0 off len cap op).at_ ρ = some (v, st')) (ty : TypeId) :
    ∃ y w', (Builtin.append_ #[t, u] ty #[s, x]).run P w = .ok y w' ∧ Turns ρ L st w v st' y w' := by
  unfold appIn at h
  obtain ⟨uds, hu, hui⟩ := A.uu
  have e1 := A.s_ L (Agree.refl _ _)
  cases hn : Nat.beq n 0 with
  | true =>
    have hn := Nat.eq_of_beq_eq_true hn
    subst hn
    rw [show Nat.beq 0 0 = true from rfl, cond_true] at h
    replace h := ret_at h; obtain ⟨rfl, rfl⟩ := h
    refine ⟨s, w, ?_, Turns.same A.sim A.s_ A.fx rfl rfl rfl rfl⟩
    rw [e1]
    simp only [conc]
    have hne := A.news L w (Agree.refl _ _) rfl
    have hz : new = [] := List.length_eq_zero_iff.1 (by rw [A.nlen]; simp)
    subst hz
    exact run_append_in (ty := ty) A.ut hu hui A.info (new := []) (A.len w) (by omega) hne rfl
  | false =>
    rw [hn, cond_false] at h
    have hn0 : n ≠ 0 := fun hh => by rw [hh] at hn; cases hn
    replace h := chk_at h; obtain ⟨hid, h⟩ := h
    have hid := Nat.le_of_ble_eq_true hid
    replace h := withCells_at h; obtain ⟨tr, d, m, el', sz, ho, h⟩ := h
    replace h := chk_at h; obtain ⟨hone, h⟩ := h
    replace h := chk_at h; obtain ⟨hm, h⟩ := h
    have hm : off + (len + n) * ei.info.size ≤ m := Nat.le_of_ble_eq_true hm
    replace h := ret_at h; obtain ⟨rfl, rfl⟩ := h
    have hmm : off + len * ei.info.size + new.length ≤ m := by rw [A.nlen, Nat.add_assoc, ← Nat.add_mul]; exact hm
    obtain ⟨w', c, hrun, hp, hob⟩ := put_cells (P := P) A.sim ho (fun L' ha => ha id hid) (cs := new) (off := off + len * ei.info.size) ((allOne_iff _).1 hone) hmm
      (vs := new.map (conc L ρ)) (fun L' ha => cs_same (A.news L w (Agree.refl _ _) rfl) (A.news L' w ha rfl))
    refine ⟨conc L ρ (.slice id off0 off (Nat.add len n) cap op), w', ?_, Turns.put A.sim A.fx ho (fun L' ha => by rw [ha id hid]) hp (fun L' ha => by simp only [conc, ha id hid]) hob⟩
    rw [e1]
    simp only [conc]
    rw [if_neg (by omega)]
    refine run_append_in (ty := ty) A.ut hu hui A.info (new := new.map (conc L ρ)) (A.len w) (by omega) (A.news L w (Agree.refl _ _) rfl) ?_
    simp only [addr_add]
    rw [Nat.add_assoc]
    exact hrun

theorem appOpen_sound {L : Nat → Loc} {st st' : St} {w : World} {t u el : TypeId} {ei : TI} {z : Value} {n : Nat} {new : List AV} {v : AV} {s x : Value} {id off0 off len cap bytes : Nat}
    (A : App P ρ cx L st w t u el ei z n new (.slice id off0 off len cap true) s x) (hb : (bytes + 1) * (len + n) ≤ 16777216) (hby : ei.info.bytes = bytes)
    (h : (appOpen st el ei.info.size n new id off len cap).at_ ρ = some (v, st')) (ty : TypeId) :
    ∃ y w', (Builtin.append_ #[t, u] ty #[s, x]).run P w = .ok y w' ∧ Turns ρ L st w v st' y w' := by
  unfold appOpen at h
  obtain ⟨uds, hu, hui⟩ := A.uu
  have e1 := A.s_ L (Agree.refl _ _)
  replace h := chk_at h; obtain ⟨hid, h⟩ := h
  have hid := Nat.le_of_ble_eq_true hid
  replace h := chk_at h; obtain ⟨hlc, h⟩ := h
  have hlc := Nat.le_of_ble_eq_true hlc
  replace h := chk_at h; obtain ⟨hcap, h⟩ := h
  have hcap := Nat.le_of_ble_eq_true hcap
  replace h := withCells_at h; obtain ⟨tr, d, m, el', sz, ho, h⟩ := h
  replace h := chk_at h; obtain ⟨hel, h⟩ := h
  have hel := Nat.eq_of_beq_eq_true hel
  subst hel
  replace h := chk_at h; obtain ⟨hsz, h⟩ := h
  have hsz := Nat.eq_of_beq_eq_true hsz
  subst hsz
  replace h := chk_at h; obtain ⟨hm, h⟩ := h
  have hm : off + cap * ei.info.size = m := Nat.eq_of_beq_eq_true hm
  replace h := chk_at h; obtain ⟨hone, h⟩ := h
  replace h := T.at_opt_some.1 h; obtain ⟨old, hold, h⟩ := h
  replace h := ret_at h; obtain ⟨rfl, rfl⟩ := h
  obtain ⟨hol, hog⟩ := gather_some hold
  have hol : old.length = len * ei.info.size := hol
  have hol2 : off + len * ei.info.size ≤ m := by
    have := Nat.mul_le_mul_right ei.info.size hlc
    omega
  have hof : ∀ L' w', Agree st.nx L L' → w'.heap = w.heap → (Builtin.firstCells ei.info.size len s).run P w' = .ok (old.map (conc L' ρ)).toArray w' := fun L' w' ha hw => by
    rw [A.s_ L' ha]
    simp only [conc, Builtin.firstCells]
    rw [if_neg (by omega)]
    exact ((A.sim L' ha).keep hw).cells ho hol2 hold
  have hoe : ∀ L', Agree st.nx L L' → old.map (conc L ρ) = old.map (conc L' ρ) := fun L' ha => cs_same (hof L w (Agree.refl _ _) rfl) (hof L' w ha rfl)
  have hne : ∀ L', Agree st.nx L L' → new.map (conc L ρ) = new.map (conc L' ρ) := fun L' ha => cs_same (A.news L w (Agree.refl _ _) rfl) (A.news L' w ha rfl)
  have hlen : Nat.mul (Nat.add len n) ei.info.size = (old ++ new).length := by rw [List.length_append, hol, A.nlen]; exact Nat.add_mul _ _ _
  have e1' : s = .slice (some ⟨(L id).b, (L id).o + off, none⟩) len (cap + (L id).x) := by
    rw [e1]
    simp only [conc, if_true]
    rw [if_neg (by omega)]
  by_cases hroom : len + n ≤ cap + (L id).x
  · obtain ⟨c, fz, hcs, hcsz, hfz, hk, _⟩ := (A.sim L (Agree.refl _ _)).at_ id _ ho
    have hmul := Nat.mul_le_mul_right ei.info.size hroom
    rw [Nat.add_mul, Nat.add_mul] at hmul
    have hnl := A.nlen
    obtain ⟨w', c', hrun, hp, hsz', hcells⟩ := run_storeCells (P := P) (b := (L id).b) (s := (L id).o + off + len * ei.info.size) (new.map (conc L ρ)) 0 w c hcs (by rw [List.length_map]; omega) hfz (fun y hy => by
      obtain ⟨y', hy', rfl⟩ := List.mem_map.1 hy
      exact one_conc ((allOne_iff _).1 hone y' hy') L)
    refine ⟨.slice (some ⟨(L id).b, (L id).o + off, none⟩) (len + n) (cap + (L id).x), w', ?_, ?_⟩
    · rw [e1']
      refine run_append_in (ty := ty) A.ut hu hui A.info (new := new.map (conc L ρ)) (A.len w) hroom (A.news L w (Agree.refl _ _) rfl) ?_
      simp only [addr_add]
      exact hrun
    · refine Turns.move (l := ⟨(L id).b, (L id).o + off, cap + (L id).x - (len + n)⟩) A.sim A.fx ho hid hp rfl (fun L' ha hn => ?_) (fun L' ha hn => ?_)
      · have : Nat.add len n = len + n := rfl
        simp only [conc, hn, if_true, this]
        rw [show len + n + (cap + (L id).x - (len + n)) = cap + (L id).x by omega, if_neg (by omega)]
        rfl
      · refine ⟨c', fz, hp.at_, ?_, fun j hj => hfz j (by rw [← hsz']; exact hj), fun i v hi hv => ?_, fun h0 => by have := A.size; omega⟩
        · rw [hsz', hcsz]
          show _ = (L id).o + off + (len + n) * ei.info.size + (cap + (L id).x - (len + n)) * ei.info.size
          rw [Nat.sub_mul, Nat.add_mul, Nat.add_mul]
          omega
        · rw [lapp_eq, look_ofList] at hv
          rw [hcells]
          simp only [List.length_map, Nat.add_zero]
          rw [List.getElem?_append] at hv
          by_cases hi2 : i < old.length
          · rw [if_pos hi2] at hv
            rw [if_neg (by omega), Nat.add_assoc]
            obtain ⟨y, hy1, hy2⟩ := hog i (by show i < len * ei.info.size; omega)
            rw [hv] at hy2
            simp only [Option.some.injEq] at hy2
            subst hy2
            obtain ⟨c2, fz2, hc2, _, _, hk2, _⟩ := (A.sim L' ha).at_ id _ ho
            rw [ha id hid] at hc2 hk2
            rw [hcs] at hc2
            simp only [Option.some.injEq, Obj.cells.injEq] at hc2
            obtain ⟨rfl, _, _⟩ := hc2
            exact hk2 (off + i) v (by omega) hy1
          · rw [if_neg hi2] at hv
            have hi : i < Nat.mul (Nat.add len n) ei.info.size := hi
            rw [hlen, List.length_append] at hi
            rw [if_pos (by omega), hne L' ha, show (L id).o + off + i - ((L id).o + off + len * ei.info.size) = i - old.length by omega]
            simp [hv]
  · have hrun := run_append_new (ty := ty) A.ut hu hui A.info A.zero (w := w) (base := some ⟨(L id).b, (L id).o + off, none⟩) (len := len) (cap := cap + (L id).x) (n := n) (x := x) (old := old.map (conc L ρ)) (new := new.map (conc L ρ)) (A.len w) (by omega)
      (by rw [hby, Nat.mul_comm]; exact hb) (by have := hof L w.drew (Agree.refl _ _) rfl; rw [e1'] at this; exact this) (A.news L w.drew (Agree.refl _ _) rfl)
    rw [e1']
    have hge := grownCap_ge w (len + n) (cap + (L id).x) el'
    refine ⟨_, _, hrun, Turns.weaken (H0 := st.H.upd id none) (fun i o hi => ?_) ?_⟩
    · rw [Tr.get_upd] at hi
      split at hi
      · cases hi
      · exact hi
    refine Turns.new (st := ⟨st.H.upd id none, st.nx, st.fx⟩) (k := grownCap w (len + n) (cap + (L id).x) el' - (len + n)) (fun L' ha => ?_) A.fx (WNew.push' (w := w) (w1 := w.drew) rfl rfl rfl rfl _) (fun L' ha hn => ?_) (fun L' ha hn => ?_)
    · have hsim := A.sim L' ha
      have sub : ∀ i o, (st.H.upd id none).get i = some o → st.H.get i = some o := fun i o hi => by
        rw [Tr.get_upd] at hi
        split at hi
        · cases hi
        · exact hi
      exact ⟨fun i o hi => hsim.at_ i o (sub i o hi), fun i j oi oj hi hj => hsim.inj i j oi oj (sub i oi hi) (sub j oj hj), hsim.pin⟩
    · have : Nat.add len n = len + n := rfl
      have hn : L' st.nx = _ := hn
      simp only [conc, hn, if_true, this]
      rw [show len + n + (grownCap w (len + n) (cap + (L id).x) el' - (len + n)) = grownCap w (len + n) (cap + (L id).x) el' by omega]
      simp
    · rw [lapp_eq, hlen]
      refine objAt_list (rest := Builtin.zeroCells z.cells (grownCap w (len + n) (cap + (L id).x) el' - (len + n))) ?_ (by rw [size_zeroCells, A.zsize])
      rw [List.map_append, ← hoe L' ha, ← hne L' ha]
      exact Array.getElem?_push_size
end Ab

/- E, part 19: append joined; a text as bytes; ranges; all that writes. -/
namespace Ab
open Go

variable {P : Program} {cx : Ctx} {ρ : Env}

theorem ble_false {n m : Nat} (h : Nat.ble n m = false) : m < n := by
  rcases Nat.lt_or_ge m n with hh | hh
  · exact hh
  · rw [Nat.ble_eq_true_of_le hh] at h; cases h
theorem beq_false' {n m : Nat} (h : Nat.beq n m = false) : n ≠ m := fun hh => by
  subst hh
  rw [Nat.beq_refl] at h
  cases h

theorem appendE_sound (ok : cx.Ok P) {st st' : St} {t u : TypeId} {sv xv v : AV} (hx : FxOk ρ st.fx) {ui : TI} (hui : cx.tt.get u = some ui) (hun : ∀ k, ui.desc ≠ .int k) (h : (appendE cx st t sv xv).at_ ρ = some (v, st')) {L : Nat → Loc} {w : World}
    (hs : ∀ L', Agree st.nx L L' → Sim L' ρ st.H w) {s x : Value} (h1 : ∀ L', Agree st.nx L L' → s = conc L' ρ sv) (h2 : ∀ L', Agree st.nx L L' → x = conc L' ρ xv) (ty : TypeId) :
    ∃ y w', (Builtin.append_ #[t, u] ty #[s, x]).run P w = .ok y w' ∧ Turns ρ L st w v st' y w' := by
  unfold appendE at h
  replace h := tyE_at.1 h; obtain ⟨ti, ht, h⟩ := h
  have hd := ok.desc _ _ ht
  split at h
  case h_2 => simp [T.at_bad] at h
  rename_i el hdd
  rw [hdd] at hd
  replace h := tyE_at.1 h; obtain ⟨ei, hei, h⟩ := h
  replace h := chk_at h; obtain ⟨hsize, h⟩ := h
  have hsize := Nat.le_of_ble_eq_true hsize
  replace h := T.at_opt_some.1 h; obtain ⟨z, hz, h⟩ := h
  replace h := chk_at h; obtain ⟨hzl, h⟩ := h
  have hzl := Nat.eq_of_beq_eq_true hzl
  rw [llen_eq] at hzl
  replace h := lenOfE_at (P := P) h; obtain ⟨n, h, hlen, hzero⟩ := h
  replace h := chk_at h; obtain ⟨hnb, h⟩ := h
  have hnb : (ei.info.bytes + 1) * n ≤ 16777216 := Nat.le_of_ble_eq_true hnb
  replace h := T.at_bind_some.1 h
  obtain ⟨new, hnew, h⟩ := h
  replace h := chk_at h; obtain ⟨hnl, h⟩ := h
  have hnl := Nat.eq_of_beq_eq_true hnl
  rw [llen_eq] at hnl
  obtain ⟨zv, hzv, hzz⟩ := ok.zero _ _ _ hei hz
  have A : App P ρ cx L st w t u el ei zv n new sv s x := {
    ut := hd
    uu := ⟨_, ok.desc _ _ hui, hun⟩
    info := ok.info _ _ hei
    zero := hzv
    zsize := by
      have := conc_cells L ρ z
      rw [conc_ofV L ρ hzz] at this
      rw [this]; simp [hzl]
    size := hsize
    fx := hx
    sim := hs
    s_ := h1
    len := fun w => by rw [h2 L (Agree.refl _ _)]; exact hlen L w
    news := fun L' w' ha hw => by rw [h2 L' ha]; exact firstE_sound hnew L' w' ((hs L' ha).keep hw)
    nlen := hnl }
  unfold appTo at h
  have e1 := h1 L (Agree.refl _ _)
  split at h
  case h_3 => simp [T.at_bad] at h
  case h_1 =>
    cases hn : Nat.beq n 0 with
    | true =>
      have hn := Nat.eq_of_beq_eq_true hn
      subst hn
      rw [show Nat.beq 0 0 = true from rfl, cond_true] at h
      replace h := ret_at h; obtain ⟨rfl, rfl⟩ := h
      refine ⟨s, w, ?_, Turns.same hs h1 hx rfl rfl rfl rfl⟩
      rw [e1]
      have hne := A.news L w (Agree.refl _ _) rfl
      have hz : new = [] := List.length_eq_zero_iff.1 (by rw [A.nlen]; simp)
      subst hz
      obtain ⟨uds, hu, huu⟩ := A.uu
      exact run_append_in (ty := ty) A.ut hu huu A.info (new := []) (A.len w) (by omega) hne rfl
    | false =>
      rw [hn, cond_false] at h
      have hn := beq_false' hn
      exact appNew_sound A (base := none) (len := 0) (cap := 0) e1 (by omega) (by simpa using hnb) rfl h ty
  rename_i id off0 off len cap op
  cases hc : Nat.ble (Nat.add len n) cap with
  | true =>
    rw [hc, cond_true] at h
    exact appIn_sound A (Nat.le_of_ble_eq_true hc) h ty
  | false =>
    rw [hc, cond_false] at h
    have hc : cap < len + n := ble_false hc
    cases hn : Nat.beq n 0 with
    | true => rw [hn, cond_true] at h; simp [T.at_bad] at h
    | false =>
      rw [hn, cond_false] at h
      replace h := chk_at h; obtain ⟨hb, h⟩ := h
      have hb : (ei.info.bytes + 1) * (len + n) ≤ 16777216 := Nat.le_of_ble_eq_true hb
      cases op with
      | true =>
        rw [cond_true] at h
        exact appOpen_sound A hb rfl h ty
      | false =>
        rw [cond_false] at h
        have e1' : s = .slice (some ⟨(L id).b, (L id).o + (if cap = 0 then off0 else off), none⟩) len cap := by
          rw [e1]
          simp [conc]
        exact appNew_sound A e1' hc hb rfl h ty

/-! ## A text as bytes -/
theorem strBytesE_sound (ok : cx.Ok P) {st st' : St} {src dst : TypeId} {xv v : AV} (hx : FxOk ρ st.fx) (h : (strBytesE cx st src dst xv).at_ ρ = some (v, st')) {L : Nat → Loc} {w : World}
    (hs : ∀ L', Agree st.nx L L' → Sim L' ρ st.H w) {x : Value} (h1 : ∀ L', Agree st.nx L L' → x = conc L' ρ xv) :
    ∃ y w', (convert src dst x).run P w = .ok y w' ∧ Turns ρ L st w v st' y w' := by
  unfold strBytesE at h
  replace h := tyE_at.1 h; obtain ⟨si, hsi, h⟩ := h
  replace h := tyE_at.1 h; obtain ⟨di, hdi, h⟩ := h
  have hsd := ok.desc _ _ hsi
  have hdd := ok.desc _ _ hdi
  split at h
  case h_2 => simp [T.at_bad] at h
  rename_i el e1 e2
  rw [e1] at hsd
  rw [e2] at hdd
  replace h := tyE_at.1 h; obtain ⟨ei, hei, h⟩ := h
  have hed := ok.desc _ _ hei
  split at h
  case h_2 => simp [T.at_bad] at h
  rename_i s e3
  rw [e3] at hed
  replace h := ret_at h; obtain ⟨rfl, rfl⟩ := h
  have ex := h1 L (Agree.refl _ _)
  have hge := grownCap_ge w s.length 0 el
  have hsz : (⟨s.toArray⟩ : ByteArray).size = s.length := by simp [ByteArray.size]
  have hrun : (Conv.stringToBytes el ⟨s.toArray⟩).run P w = .ok (.slice (some ⟨w.heap.size, 0, none⟩) s.length (grownCap w s.length 0 el))
      (World.freeze { heap := w.heap.push (.cells (s.toArray.map (fun b => Value.int .u8 b.toNat) ++ Array.replicate (grownCap w s.length 0 el - s.length) (.int .u8 0)) el), tape := w.tape, drawn := w.drawn + 1, os := w.os, output := w.output }
        ⟨w.heap.size, s.length + (grownCap w s.length 0 el - s.length), none⟩ 1) := by
    unfold Conv.stringToBytes
    simp only [Sem.run_bind, hsz, run_choose, Question.forced, Bool.false_eq_true, if_false, Result.andThen_ok, newRow, run_newObj, Sem.run_pure, markStringish, run_shape, grownCap]
    generalize (Question.appendCap s.length 0 el).cut (w.tape w.drawn (Question.appendCap s.length 0 el)) = G
    have : World.shape? { heap := w.heap.push (.cells (s.toArray.map (fun b => Value.int .u8 b.toNat) ++ Array.replicate (G - s.length) (.int .u8 0)) el), tape := w.tape, drawn := w.drawn + 1, os := w.os, output := w.output } w.heap.size =
        some (el, s.length + (G - s.length)) := by
      simp [World.shape?]
    rw [this]
    rfl
  have hcv : (convert src dst x).run P w = (Conv.stringToBytes el ⟨s.toArray⟩).run P w := by
    rw [ex]
    unfold convert
    simp only [Sem.run_bind, run_underlying hsd, run_underlying hdd, Result.andThen_ok, conc, STm.den, run_underlying hed]
  generalize hG : grownCap w s.length 0 el - s.length = k at hrun
  have hk : grownCap w s.length 0 el = s.length + k := by omega
  rw [hk] at hrun
  have hnew : WNew w (.cells (s.toArray.map (fun b => Value.int .u8 b.toNat) ++ Array.replicate k (.int .u8 0)) el (s.length + k, s.length + k + 1))
      (World.freeze { heap := w.heap.push (.cells (s.toArray.map (fun b => Value.int .u8 b.toNat) ++ Array.replicate k (.int .u8 0)) el), tape := w.tape, drawn := w.drawn + 1, os := w.os, output := w.output } ⟨w.heap.size, s.length + k, none⟩ 1) := by
    refine ⟨?_, ?_, fun j hj => ?_, rfl, rfl, rfl⟩
    · simp [World.freeze]
    · simp only [World.freeze, Nat.one_ne_zero, if_false]
      rw [Array.getElem?_modify, if_pos rfl, Array.getElem?_push_size]
      rfl
    · simp only [World.freeze, Nat.one_ne_zero, if_false]
      rw [Array.getElem?_modify, if_neg (by omega)]
      simp [Array.getElem?_push, Nat.ne_of_lt hj]
  refine ⟨_, _, hcv.trans hrun, Turns.new (k := k) hs hx hnew (fun L' ha hn => ?_) (fun L' ha hn => ?_)⟩
  · simp [conc, hn, llen_eq]
  · refine ⟨_, _, hnew.at_, ?_, fun i hi => ?_, fun i u hi hu => ?_, fun _ => rfl⟩
    · simp [llen_eq]
    · simp at hi
      omega
    · rw [lmap_eq, look_ofList] at hu
      simp only [Nat.zero_add]
      rw [llen_eq] at hi
      rw [Array.getElem?_append_left (by simpa using hi)]
      simp only [List.getElem?_map, Option.map_eq_some_iff] at hu
      obtain ⟨b, hb, rfl⟩ := hu
      simp [hb, conc, Tm.den]

/-! ## Ranges over maps -/
theorem rangeE_sound (ok : cx.Ok P) {st st' : St} {t : TypeId} {xv v : AV} (hx : FxOk ρ st.fx) (h : (rangeE cx st t xv).at_ ρ = some (v, st')) {L : Nat → Loc} {w : World}
    (hs : ∀ L', Agree st.nx L L' → Sim L' ρ st.H w) {x : Value} (h1 : ∀ L', Agree st.nx L L' → x = conc L' ρ xv) :
    ∃ y w', (Instr.range t x).run P w = .ok y w' ∧ Turns ρ L st w v st' y w' := by
  unfold rangeE at h
  replace h := tyE_at.1 h; obtain ⟨ti, ht, h⟩ := h
  have hd := ok.desc _ _ ht
  have e1 := h1 L (Agree.refl _ _)
  split at h
  case h_3 => simp [T.at_bad] at h
  case h_1 _ _ kt el hdd =>
    rw [hdd] at hd
    replace h := ret_at h; obtain ⟨rfl, rfl⟩ := h
    refine ⟨.pointer (some ⟨w.heap.size, 0, none⟩), { w with heap := w.heap.push (.mapIter none 0 #[] 0) }, ?_, Turns.new (k := 0) hs hx (WNew.push _ _) (fun L' ha hn => by simp [conc, hn]) (fun L' ha hn => ?_)⟩
    · rw [e1]
      simp [Instr.range, conc, run_underlying hd]
    · exact ⟨rfl, #[], by show (w.heap.push _)[w.heap.size]? = _; simp, rfl⟩
  case h_2 _ _ kt el id hdd =>
    rw [hdd] at hd
    replace h := withMap_at h; obtain ⟨es, ck, ho, h⟩ := h
    replace h := ret_at h; obtain ⟨rfl, rfl⟩ := h
    have hm := (hs L (Agree.refl _ _)).map ho
    have hgo := run_getObj (P := P) hm rfl
    refine ⟨.pointer (some ⟨w.heap.size, 0, none⟩), { w with heap := w.heap.push (.mapIter (some (L id).b) ck #[] ck) }, ?_, Turns.new (k := 0) hs hx (WNew.push _ _) (fun L' ha hn => by simp [conc, hn]) (fun L' ha hn => ?_)⟩
    · rw [e1]
      simp [Instr.range, conc, run_underlying hd, hgo]
    · have e2 := h1 L' ha
      rw [e1] at e2
      simp [conc] at e2
      exact ⟨rfl, #[], by show (w.heap.push _)[w.heap.size]? = _; simp [e2], rfl⟩

theorem memN_eq (n : Nat) (l : List Nat) : memN n l = l.contains n := by
  induction l with
  | nil => rfl
  | cons x l ih =>
    have e : memN n (x :: l) = bif Nat.beq x n then true else memN n l := rfl
    rw [e, ih, List.contains_cons, show Nat.beq x n = (x == n) by rw [Bool.eq_iff_iff, beq_iff_eq]; exact ⟨Nat.eq_of_beq_eq_true, fun h => h ▸ Nat.beq_refl x⟩]
    cases hx : (x == n) with
    | true => have : (n == x) = true := by rw [beq_iff_eq] at hx ⊢; exact hx.symm
              simp [this]
    | false => have : (n == x) = false := by rw [beq_eq_false_iff_ne] at hx ⊢; exact Ne.symm hx
               simp [this]
theorem leftE_eq (seen : List Nat) (es : List (AV × AV × Nat)) : leftE seen es = es.filter fun e => !seen.contains e.2.2 := by
  induction es with
  | nil => rfl
  | cons e es ih =>
    have e' : leftE seen (e :: es) = bif memN e.2.2 seen then leftE seen es else e :: leftE seen es := rfl
    rw [e', ih, memN_eq, List.filter_cons]
    cases seen.contains e.2.2 <;> simp
theorem anyElder_iff (last : Nat) (es : List (AV × AV × Nat)) : anyElder last es = true → ∃ e ∈ es, e.2.2 < last := by
  induction es with
  | nil => intro h; cases h
  | cons e es ih =>
    intro h
    have h : (bif Nat.ble (Nat.succ e.2.2) last then true else anyElder last es) = true := h
    cases hb : Nat.ble (Nat.succ e.2.2) last with
    | true => exact ⟨e, by simp, Nat.le_of_ble_eq_true hb⟩
    | false =>
      rw [hb, cond_false] at h
      obtain ⟨e', he, hl⟩ := ih h
      exact ⟨e', by simp [he], hl⟩

theorem nextE_sound {st st' : St} {xv v : AV} (hx : FxOk ρ st.fx) (h : (nextE st xv).at_ ρ = some (v, st')) {L : Nat → Loc} {w : World}
    (hs : ∀ L', Agree st.nx L L' → Sim L' ρ st.H w) {x : Value} (h1 : ∀ L', Agree st.nx L L' → x = conc L' ρ xv) (ty : TypeId) :
    ∃ y w', (Instr.next x false ty).run P w = .ok y w' ∧ Turns ρ L st w v st' y w' := by
  unfold nextE at h
  split at h
  case h_2 => simp [T.at_bad] at h
  rename_i id
  replace h := chk_at h; obtain ⟨hid, h⟩ := h
  have hid := Nat.le_of_ble_eq_true hid
  replace h := T.at_opt_some.1 h; obtain ⟨o, ho, h⟩ := h
  have e1 := h1 L (Agree.refl _ _)
  split at h
  case h_3 => simp [T.at_bad] at h
  case h_1 =>
    replace h := ret_at h; obtain ⟨rfl, rfl⟩ := h
    obtain ⟨h0, sn, hh, _⟩ := (hs L (Agree.refl _ _)).at_ id _ ho
    have hgo := run_getObj (P := P) hh rfl
    refine ⟨.tuple #[.bool false], w, ?_, Turns.same hs (fun L' ha => rfl) hx rfl rfl rfl rfl⟩
    rw [e1]
    simp only [conc, h0]
    simp [Instr.next, hgo]
  rename_i m since seen last
  replace h := withMap_at h; obtain ⟨es, ck, hm, h⟩ := h
  replace h := chk_at h; obtain ⟨hel, h⟩ := h
  obtain ⟨h0, sn, hh, hsn⟩ := (hs L (Agree.refl _ _)).at_ id _ ho
  subst hsn
  have hgo := run_getObj (P := P) hh rfl
  have hmap := (hs L (Agree.refl _ _)).map hm
  have hgm := run_getObj (P := P) hmap rfl
  have hmb : ∀ L', Agree st.nx L L' → (L' m).b = (L m).b := fun L' ha => by
    obtain ⟨_, sn', hh', _⟩ := (hs L' ha).at_ id _ ho
    rw [ha id hid, hh] at hh'
    simp at hh'
    exact hh'.1.symm
  have concE_eq : ∀ L', Agree st.nx L L' → es.map (concE L' ρ) = es.map (concE L ρ) := fun L' ha => by
    have a1 := (hs L' ha).map hm
    rw [hmb L' ha, hmap] at a1
    simp only [Option.some.injEq, Obj.map.injEq, and_true] at a1
    exact (List.toArray_inj a1).symm
  have hno : (!seen.toArray.isEmpty && !(es.map (concE L ρ)).toArray.isEmpty && (es.map (concE L ρ)).toArray.all (fun e => decide (e.born ≥ last))) = false := by
    cases hs1 : seen.isEmpty with
    | true => simp [List.isEmpty_iff.1 hs1]
    | false =>
      cases hs2 : es.isEmpty with
      | true => simp [List.isEmpty_iff.1 hs2]
      | false =>
        rw [hs1, hs2, cond_false, cond_false] at hel
        obtain ⟨e, he, hlt⟩ := anyElder_iff last es hel
        have : (es.map (concE L ρ)).toArray.all (fun e => decide (e.born ≥ last)) = false := by
          rw [← Bool.not_eq_true]
          intro hall
          rw [List.all_toArray, List.all_eq_true] at hall
          have := hall (concE L ρ e) (List.mem_map_of_mem he)
          simp [concE] at this
          omega
        rw [this, Bool.and_false]
  have hleft : (es.map (concE L ρ)).toArray.filter (fun e => !seen.toArray.contains e.born) = ((leftE seen es).map (concE L ρ)).toArray := by
    rw [leftE_eq]
    apply Array.toList_inj.1
    simp only [Array.toList_filter, List.filter_map]
    simp [Function.comp_def, concE]
    rfl
  split at h
  case h_3 => simp [T.at_bad] at h
  · rename_i hl
    replace h := ret_at h; obtain ⟨rfl, rfl⟩ := h
    refine ⟨.tuple #[.bool false], w, ?_, Turns.same hs (fun L' ha => rfl) hx rfl rfl rfl rfl⟩
    rw [hl] at hleft
    rw [e1]
    simp only [conc, h0]
    simp only [Instr.next, Sem.run_bind, hgo, Result.andThen_ok, Option.map_some, hgm, hno, Bool.false_eq_true, if_false, hleft]
    simp [Question.forced]
  · rename_i e hl
    replace h := chk_at h; obtain ⟨hsi, h⟩ := h
    have hsi : e.2.2 < since := Nat.le_of_ble_eq_true hsi
    replace h := ret_at h; obtain ⟨rfl, rfl⟩ := h
    rw [hl] at hleft
    have hmem : e ∈ es := by
      have : e ∈ leftE seen es := by rw [hl]; simp
      rw [leftE_eq] at this
      exact (List.mem_filter.1 this).1
    have hrun0 : ∀ o' : Obj, (setObj (L id).b o').run P w = .ok () { w with heap := w.heap.setIfInBounds (L id).b o' } := fun o' => run_setObj hh rfl
    refine ⟨.tuple #[.bool true, conc L ρ e.1, conc L ρ e.2.1], _, ?_, Turns.put (c := .mapIter (some (L m).b) since (seen.toArray.push e.2.2) ck) hs hx ho (fun L' ha => by rw [ha id hid]) (WPut.set hh) (fun L' ha => ?_) (fun L' ha => ?_)⟩
    · rw [e1]
      simp only [conc, h0]
      simp only [Instr.next, Sem.run_bind, hgo, Result.andThen_ok, Option.map_some, hgm, hno, Bool.false_eq_true, if_false, hleft]
      simp [Question.forced, hrun0, concE, hsi]
    · have hee := List.map_inj_left.1 (concE_eq L' ha) e hmem
      simp only [concE, MapEntry.mk.injEq] at hee
      simp [conc, concs, hee.1, hee.2.1]
    · rw [ha id hid]
      refine ⟨h0, _, ?_, rfl⟩
      show (w.heap.setIfInBounds _ _)[_]? = _
      rw [Array.getElem?_setIfInBounds_self_of_lt (lt_of_some hh)]
      simp [lapp_eq, hmb L' ha]
theorem lastN_eq : ∀ (l : List Nat), lastN l = l.toArray.back?
  | [] => rfl
  | [x] => rfl
  | x :: y :: l => by
    have h : lastN (x :: y :: l) = lastN (y :: l) := rfl
    rw [h, lastN_eq (y :: l)]
    simp [Array.back?]
theorem findB_eq (L : Nat → Loc) (s : Nat) : ∀ (es : List (AV × AV × Nat)), (es.map (concE L ρ)).find? (fun e => e.born == s) = (findB s es).map (concE L ρ)
  | [] => rfl
  | e :: es => by
    have h : findB s (e :: es) = bif Nat.beq e.2.2 s then some e else findB s es := rfl
    rw [h, List.map_cons, List.find?_cons]
    have hb : (concE L ρ e).born = e.2.2 := rfl
    rw [hb]
    cases hs : Nat.beq e.2.2 s with
    | true => have := Nat.eq_of_beq_eq_true hs; simp [this]
    | false =>
      have := Nat.ne_of_beq_eq_false hs
      rw [cond_false]
      have h2 : (e.2.2 == s) = false := by simpa using this
      rw [h2]
      exact findB_eq L s es
theorem findB_mem {s : Nat} : ∀ {es : List (AV × AV × Nat)} {e : AV × AV × Nat}, findB s es = some e → e ∈ es
  | [], e, h => by cases h
  | y :: es, e, h => by
    have h : (bif Nat.beq y.2.2 s then some y else findB s es) = some e := h
    cases hs : Nat.beq y.2.2 s with
    | true => rw [hs, cond_true] at h; cases h; simp
    | false => rw [hs, cond_false] at h; exact List.mem_cons_of_mem _ (findB_mem h)
theorem entryE_sound {st st' : St} {xv v : AV} (hx : FxOk ρ st.fx) (h : (entryE st xv).at_ ρ = some (v, st')) {L : Nat → Loc} {w : World}
    (hs : ∀ L', Agree st.nx L L' → Sim L' ρ st.H w) {x : Value} (h1 : ∀ L', Agree st.nx L L' → x = conc L' ρ xv) :
    ∃ y, (Instr.entry x).run P w = .ok y w ∧ Turns ρ L st w v st' y w := by
  unfold entryE at h
  split at h
  case h_2 => simp [T.at_bad] at h
  rename_i id
  replace h := chk_at h; obtain ⟨hid, h⟩ := h
  have hid := Nat.le_of_ble_eq_true hid
  replace h := T.at_opt_some.1 h; obtain ⟨o, ho, h⟩ := h
  have e1 := h1 L (Agree.refl _ _)
  split at h
  case h_2 => simp [T.at_bad] at h
  rename_i m since seen last
  replace h := T.at_opt_some.1 h; obtain ⟨s, hls, h⟩ := h
  replace h := withMap_at h; obtain ⟨es, ck, hm, h⟩ := h
  replace h := chk_at h; obtain ⟨hck, h⟩ := h
  have hck := Nat.eq_of_beq_eq_true hck
  subst hck
  replace h := T.at_opt_some.1 h; obtain ⟨e, he, h⟩ := h
  obtain ⟨h0, sn, hh, hsn⟩ := (hs L (Agree.refl _ _)).at_ id _ ho
  subst hsn
  have hmap := (hs L (Agree.refl _ _)).map hm
  have hmb : ∀ L', Agree st.nx L L' → (L' m).b = (L m).b := fun L' ha => by
    obtain ⟨_, sn', hh', _⟩ := (hs L' ha).at_ id _ ho
    rw [ha id hid, hh] at hh'
    simp at hh'
    exact hh'.1.symm
  have concE_eq : ∀ L', Agree st.nx L L' → es.map (concE L' ρ) = es.map (concE L ρ) := fun L' ha => by
    have a1 := (hs L' ha).map hm
    rw [hmb L' ha, hmap] at a1
    simp only [Option.some.injEq, Obj.map.injEq, and_true] at a1
    exact (List.toArray_inj a1).symm
  have hf : (es.map (concE L ρ)).toArray.find? (fun e => e.born == s) = some (concE L ρ e) := by
    rw [← Array.find?_toList]
    show (es.map (concE L ρ)).find? _ = _
    rw [findB_eq, he]; rfl
  replace h := ret_at h; obtain ⟨rfl, rfl⟩ := h
  refine ⟨.tuple #[conc L ρ e.1, conc L ρ e.2.1], ?_, Turns.same hs (fun L' ha => ?_) hx rfl rfl rfl rfl⟩
  · rw [e1]
    simp only [conc, h0]
    have hb := lastN_eq seen
    rw [hls] at hb
    have hmap' : w.heap[(L m).b]? = some (.map (es.map (concE L ρ)).toArray ck) := hmap
    simp only [Instr.entry, getObj, Sem.run_bind, Sem.run, hh, Result.andThen, Option.map_some, ← hb, hmap', bne_self_eq_false, Bool.false_eq_true, if_false, hf]
    rfl
  · have hee := List.map_inj_left.1 (concE_eq L' ha) e (findB_mem he)
    simp only [concE, MapEntry.mk.injEq] at hee
    simp [conc, concs, hee.1, hee.2.1]
/-- OPERATIONS THAT WRITE. -/
theorem writeE_sound (ok : cx.Ok P) {g : Operand → Option AV} {op : Op} {st st' : St} {v : AV} (hx : FxOk ρ st.fx) (h : (writeE cx g op st).at_ ρ = some (v, st')) (L : Nat → Loc) (w : World)
    (hs : ∀ L', Agree st.nx L L' → Sim L' ρ st.H w) (a : Operand → Value) (hg : ∀ L', Agree st.nx L L' → GRel L' ρ g a) (o : Oper) (ho : o.op = op) :
    ∃ r x w', (execOp a o).run P w = .ok r w' ∧ (r = .value x ∨ (r = .skip ∧ x = undef)) ∧ Turns ρ L st w v st' x w' := by
  unfold writeE at h
  split at h
  case h_1 t ad x =>
    replace h := gE_at.1 h; obtain ⟨av, hav, h⟩ := h
    replace h := gE_at.1 h; obtain ⟨xv, hxv, h⟩ := h
    replace h := stE_at h; obtain ⟨rfl, h⟩ := h
    obtain ⟨w', hrun, ht⟩ := storeE_sound ok hx h hs (fun L' ha => hg L' ha _ _ hav) (fun L' ha => hg L' ha _ _ hxv)
    refine ⟨_, _, w', ?_, .inr ⟨rfl, rfl⟩, ht⟩
    unfold execOp; rw [ho]
    simp only [Sem.run_bind, hrun, Result.andThen_ok]; rfl
  case h_2 t m k x =>
    replace h := gE_at.1 h; obtain ⟨mv, hmv, h⟩ := h
    replace h := gE_at.1 h; obtain ⟨kv, hkv, h⟩ := h
    replace h := gE_at.1 h; obtain ⟨xv, hxv, h⟩ := h
    replace h := stE_at h; obtain ⟨rfl, h⟩ := h
    obtain ⟨w', hrun, ht⟩ := mapSetE_sound ok hx h hs (fun L' ha => hg L' ha _ _ hmv) (fun L' ha => hg L' ha _ _ hkv) (fun L' ha => hg L' ha _ _ hxv)
    refine ⟨_, _, w', ?_, .inr ⟨rfl, rfl⟩, ht⟩
    unfold execOp; rw [ho]
    simp only [Sem.run_bind, hrun, Result.andThen_ok]; rfl
  case h_3 t m k x =>
    replace h := gE_at.1 h; obtain ⟨mv, hmv, h⟩ := h
    replace h := gE_at.1 h; obtain ⟨kv, hkv, h⟩ := h
    replace h := gE_at.1 h; obtain ⟨xv, hxv, h⟩ := h
    replace h := stE_at h; obtain ⟨rfl, h⟩ := h
    obtain ⟨w', hrun, ht⟩ := mapSetE_sound ok hx h hs (fun L' ha => hg L' ha _ _ hmv) (fun L' ha => hg L' ha _ _ hkv) (fun L' ha => hg L' ha _ _ hxv)
    refine ⟨_, _, w', ?_, .inr ⟨rfl, rfl⟩, ht⟩
    unfold execOp; rw [ho]
    simp only [Sem.run_bind, hrun, Result.andThen_ok]; rfl
  case h_4 s d x =>
    replace h := gE_at.1 h; obtain ⟨xv, hxv, h⟩ := h
    obtain ⟨y, w', hrun, ht⟩ := strBytesE_sound ok hx h hs (fun L' ha => hg L' ha _ _ hxv)
    refine ⟨_, _, w', ?_, .inl rfl, ht⟩
    unfold execOp; rw [ho]
    simp only [Sem.run_bind, hrun, Result.andThen_ok]; rfl
  case h_5 t x =>
    replace h := gE_at.1 h; obtain ⟨xv, hxv, h⟩ := h
    obtain ⟨y, w', hrun, ht⟩ := rangeE_sound ok hx h hs (fun L' ha => hg L' ha _ _ hxv)
    refine ⟨_, _, w', ?_, .inl rfl, ht⟩
    unfold execOp; rw [ho]
    simp only [Sem.run_bind, hrun, Result.andThen_ok]; rfl
  case h_6 it isS =>
    cases isS with
    | true => rw [cond_true] at h; simp [T.at_bad] at h
    | false =>
      rw [cond_false] at h
      replace h := gE_at.1 h; obtain ⟨xv, hxv, h⟩ := h
      obtain ⟨y, w', hrun, ht⟩ := nextE_sound (P := P) hx h hs (fun L' ha => hg L' ha _ _ hxv) o.type
      refine ⟨_, _, w', ?_, .inl rfl, ht⟩
      unfold execOp; rw [ho]
      simp only [Sem.run_bind, hrun, Result.andThen_ok]; rfl
  case h_7 c =>
    split at h
    · rename_i hc
      split at h
      · rename_i x t hx1 ht1
        replace h := gE_at.1 h; obtain ⟨u, hu, h⟩ := h
        replace h := stE_at h; obtain ⟨rfl, h⟩ := h
        obtain ⟨w', hrun, ht⟩ := clearE_sound ok hx h hs (fun L' ha => hg L' ha _ _ hu) o.type
        refine ⟨_, _, w', ?_, .inl rfl, ht⟩
        unfold execOp; rw [ho]
        have e : c.args.map a = #[a x] := Array.toList_inj.1 (by simp [hx1])
        have e' : c.argTypes = #[t] := Array.toList_inj.1 (by simp [ht1])
        simp only [resolve, hc, Sem.run_bind, Sem.run_pure, Result.andThen_ok, invoke, builtin, e, e', hrun]
      · simp [T.at_bad] at h
    · rename_i hc
      split at h
      · rename_i s x t u hx1 ht1
        replace h := gE_at.1 h; obtain ⟨sv, hsv, h⟩ := h
        replace h := gE_at.1 h; obtain ⟨xv, hxv, h⟩ := h
        replace h := tyE_at.1 h; obtain ⟨ui, hui, h⟩ := h
        split at h
        · simp [T.at_bad] at h
        rename_i hun
        obtain ⟨y, w', hrun, ht⟩ := appendE_sound ok hx hui (fun k hk => hun k hk) h hs (fun L' ha => hg L' ha _ _ hsv) (fun L' ha => hg L' ha _ _ hxv) o.type
        refine ⟨_, _, w', ?_, .inl rfl, ht⟩
        unfold execOp; rw [ho]
        have e : c.args.map a = #[a s, a x] := Array.toList_inj.1 (by simp [hx1])
        have e' : c.argTypes = #[t, u] := Array.toList_inj.1 (by simp [ht1])
        simp only [resolve, hc, Sem.run_bind, Sem.run_pure, Result.andThen_ok, invoke, builtin, e, e', hrun]
      · simp [T.at_bad] at h
    · rename_i hc
      split at h
      · rename_i s x t u hx1 ht1
        replace h := gE_at.1 h; obtain ⟨sv, hsv, h⟩ := h
        replace h := gE_at.1 h; obtain ⟨xv, hxv, h⟩ := h
        obtain ⟨y, w', hrun, ht⟩ := copyE_sound (u := u) ok hx h hs (fun L' ha => hg L' ha _ _ hsv) (fun L' ha => hg L' ha _ _ hxv) o.type
        refine ⟨_, _, w', ?_, .inl rfl, ht⟩
        unfold execOp; rw [ho]
        have e : c.args.map a = #[a s, a x] := Array.toList_inj.1 (by simp [hx1])
        have e' : c.argTypes = #[t, u] := Array.toList_inj.1 (by simp [ht1])
        simp only [resolve, hc, Sem.run_bind, Sem.run_pure, Result.andThen_ok, invoke, builtin, e, e', hrun]
      · simp [T.at_bad] at h
    · rename_i hc
      split at h
      · rename_i s x t u hx1 ht1
        replace h := gE_at.1 h; obtain ⟨sv, hsv, h⟩ := h
        replace h := gE_at.1 h; obtain ⟨xv, hxv, h⟩ := h
        replace h := stE_at h; obtain ⟨rfl, h⟩ := h
        obtain ⟨w', hrun, ht⟩ := mapDelE_sound ok hx h hs (fun L' ha => hg L' ha _ _ hsv) (fun L' ha => hg L' ha _ _ hxv) o.type #[t, u] rfl
        refine ⟨_, _, w', ?_, .inl rfl, ht⟩
        unfold execOp; rw [ho]
        have e : c.args.map a = #[a s, a x] := Array.toList_inj.1 (by simp [hx1])
        have e' : c.argTypes = #[t, u] := Array.toList_inj.1 (by simp [ht1])
        simp only [resolve, hc, Sem.run_bind, Sem.run_pure, Result.andThen_ok, invoke, builtin, e, e', hrun]
      · simp [T.at_bad] at h
    · simp [T.at_bad] at h
  case h_8 it =>
    replace h := gE_at.1 h; obtain ⟨xv, hxv, h⟩ := h
    obtain ⟨y, hrun, ht⟩ := entryE_sound (P := P) hx h hs (fun L' ha => hg L' ha _ _ hxv)
    refine ⟨_, _, w, ?_, .inl rfl, ht⟩
    unfold execOp; rw [ho]
    simp only [Sem.run_bind, hrun, Result.andThen_ok]; rfl
  case h_9 => simp [T.at_bad] at h
end Ab

/- E, part 20: calls; one operation; a region in the text's order. -/
namespace Ab
open Go

variable {P : Program} {cx : Ctx} {ρ : Env}

/-- What a call of one function comes to, as a summary says. -/
def HookSound (P : Program) (ρ : Env) (f : FuncId) (h : List AV → St → T (AV × St)) : Prop :=
  ∀ (args : List AV) (st : St) (v : AV) (st' : St), FxOk ρ st.fx → (h args st).at_ ρ = some (v, st') →
    (∃ fn, P.funcs[f]? = some fn ∧ fn.name ≠ "runtime.NumGoroutine" ∧ fn.body.isNone = false) ∧ (FxOk ρ st'.fx ∧ st.nx ≤ st'.nx) ∧
    ∀ (L : Nat → Loc) (w : World) (n : Nat) (vals : Array Value), (∀ L', Agree st.nx L L' → Sim L' ρ st.H w) → (∀ L', Agree st.nx L L' → vals = (args.map (conc L' ρ)).toArray) →
      CallsIn Fence.wide n P f vals w fun e w' => ∃ x, e = .returned x ∧ Turns ρ L st w v st' x w'
/-- Each summary has its proof. -/
def HooksOk (P : Program) (ρ : Env) (cx : Ctx) : Prop := ∀ f h, cx.hk.get f = some h → HookSound P ρ f h
/-- What a call comes to, as E says. -/
def CallFSound (P : Program) (ρ : Env) (cf : FuncId → List AV → St → T (AV × St)) : Prop :=
  ∀ (f : FuncId) (args : List AV) (st : St) (v : AV) (st' : St), FxOk ρ st.fx → (cf f args st).at_ ρ = some (v, st') →
    (∃ fn, P.funcs[f]? = some fn ∧ fn.name ≠ "runtime.NumGoroutine" ∧ fn.body.isNone = false) ∧ (FxOk ρ st'.fx ∧ st.nx ≤ st'.nx) ∧
    ∀ (L : Nat → Loc) (w : World) (n : Nat) (vals : Array Value), (∀ L', Agree st.nx L L' → Sim L' ρ st.H w) → (∀ L', Agree st.nx L L' → vals = (args.map (conc L' ρ)).toArray) →
      CallsIn Fence.wide n P f vals w fun e w' => ∃ x, e = .returned x ∧ Turns ρ L st w v st' x w'
/-- What a round comes to, as E says. -/
def YieldSound (P : Program) (ρ : Env) (yf : Nat → List AV → St → T (AV × St)) : Prop :=
  ∀ (id : Nat) (args : List AV) (st : St) (v : AV) (st' : St), FxOk ρ st.fx → (yf id args st).at_ ρ = some (v, st') → (FxOk ρ st'.fx ∧ st.nx ≤ st'.nx) ∧
    ∀ (L : Nat → Loc) (w : World) (n : Nat) (vals : Array Value), (∀ L', Agree st.nx L L' → Sim L' ρ st.H w) → (∀ L', Agree st.nx L L' → vals = (args.map (conc L' ρ)).toArray) →
      ∃ fn tmps assign body, (Instr.yield (L id).b vals).run P w = .ok (.round (L id).b fn tmps assign body) w ∧
        RoundIn Fence.wide n P (L id).b fn tmps assign body w fun e w' => ∃ x, e = .returned x ∧ Turns ρ L st w v st' x w'
def CallSound (P : Program) (ρ : Env) (cf : CallF) : Prop := CallFSound P ρ (fun f => cf (.fn f)) ∧ YieldSound P ρ (fun id => cf (.yl id))

theorem loptM {g : Operand → Option AV} {a : Operand → Value} {l : List Operand} {r : List AV} (h : lopt g l = some r) {L : Nat → Loc} (hg : ∀ x v, x ∈ l → g x = some v → a x = conc L ρ v) : l.map a = r.map (conc L ρ) := by
  obtain ⟨h1, h2⟩ := lopt_some h
  apply List.ext_getElem?
  intro i
  rw [List.getElem?_map, List.getElem?_map]
  cases hi : l[i]? with
  | none => rw [List.getElem?_eq_none (by rw [h1]; exact List.getElem?_eq_none_iff.1 hi)]; rfl
  | some x =>
    obtain ⟨y, hy, hr⟩ := h2 i x hi
    rw [hr]
    exact congrArg some (hg x y (List.mem_of_getElem? hi) hy)
theorem run_callFunc {f : FuncId} {fn : Func} (hf : P.funcs[f]? = some fn) (hn : fn.name ≠ "runtime.NumGoroutine") (hb : fn.body.isNone = false) (vals : Array Value) (w : World) :
    (callFunc f vals).run P w = .ok (.enter f vals) w := by
  unfold callFunc
  simp only [Sem.run_bind, run_program, Result.andThen_ok, hf]
  rw [if_neg (by simpa using hn), if_neg (by simp [hb])]
  rfl

/-- The fence that asks nothing: out of a round, or in one. -/
def fw (fq : Option Nat) : Fence := { Fence.wide with round := fq }
theorem fw_none : fw none = Fence.wide := rfl
theorem fw_some (l : Nat) : fw (some l) = Fence.wide.inRound l := rfl
theorem callsIn_fw {fq : Option Nat} {n : Nat} {f : FuncId} {vals : Array Value} {w : World} {R : Ending → World → Prop} (h : CallsIn Fence.wide n P f vals w R) : CallsIn (fw fq) n P f vals w R := by
  cases fq with
  | none => exact h
  | some l => exact h
theorem wide_enter {fq : Option Nat} {n : Nat} {a : Act} {o : Oper} {next : Act → World → Prop} {Q : Exit → Act → World → Prop} {w w' : World} {f : FuncId} {vals : Array Value} (hd : ∀ c, o.op ≠ .defer c) (hr : (execOp a.eval o).run P w = .ok (.enter f vals) w')
    (h : CallsIn Fence.wide (n - 1) P f vals w' fun
      | .returned v, w'' => next (a.put o.dst v) w''
      | .panicked chain, w'' => Q (.panic chain) a w''
      | .outgrown, _ => LetsOut Q) : o.wpIn (fw fq) n P a w next Q := by
  refine ⟨fun _ _ => trivial, ?_⟩
  show o.uponIn (fw fq) n P a next Q ((o.semAt (fw fq).round a.eval).run P w)
  rw [Oper.semAt_eq _ _ _ hd, hr, Oper.uponIn_enter]
  exact ⟨fun hd => by simp [fw, Fence.wide] at hd, callsIn_fw h⟩
theorem wide_value {fq : Option Nat} {n : Nat} {a : Act} {o : Oper} {next : Act → World → Prop} {Q : Exit → Act → World → Prop} {w w' : World} {r : Next} {x : Value} (hd : ∀ c, o.op ≠ .defer c) (hr : (execOp a.eval o).run P w = .ok r w') (hv : r = .value x ∨ (r = .skip ∧ x = undef))
    (h : next (a.put o.dst x) w') : o.wpIn (fw fq) n P a w next Q := by
  refine ⟨fun _ _ => trivial, ?_⟩
  show o.uponIn (fw fq) n P a next Q ((o.semAt (fw fq).round a.eval).run P w)
  rw [Oper.semAt_eq _ _ _ hd, hr]
  rcases hv with rfl | ⟨rfl, rfl⟩
  · rw [Oper.uponIn_value]; exact h
  · rw [Oper.uponIn_skip]; exact h
theorem wide_round {fq : Option Nat} {n : Nat} {a : Act} {o : Oper} {next : Act → World → Prop} {Q : Exit → Act → World → Prop} {w w' : World} {l : Nat} {f : FuncId} {tmps : Array Value} {assign body : Code} {R : Value → World → Prop}
    (hd : ∀ c, o.op ≠ .defer c) (hr : (execOp a.eval o).run P w = .ok (.round l f tmps assign body) w') (h : RoundIn Fence.wide (n - 1) P l f tmps assign body w' fun e w'' => ∃ x, e = .returned x ∧ R x w'')
    (hn : ∀ x w'', R x w'' → next (a.put o.dst x) w'') : o.wpIn (fw fq) n P a w next Q := by
  refine ⟨fun _ _ => trivial, ?_⟩
  show o.uponIn (fw fq) n P a next Q ((o.semAt (fw fq).round a.eval).run P w)
  rw [Oper.semAt_eq _ _ _ hd, hr, Oper.uponIn_round]
  refine ⟨fun hd => by simp [fw, Fence.wide] at hd, RoundIn.mono (R := fun e w'' => ∃ x, e = .returned x ∧ R x w'') h ?_⟩
  rintro e w'' ⟨x, rfl, hR⟩
  exact hn x w'' hR
theorem pureE_notDefer {g : Operand → Option AV} {op : Op} {fx : Facts} {r : AV × Facts} (h : (pureE cx g op fx).at_ ρ = some r) : ∀ c, op ≠ .defer c := by
  intro c e; subst e; simp [pureE, T.at_bad] at h
theorem readE_notDefer {g : Operand → Option AV} {op : Op} {H : Tr AObj} {fx : Facts} {r : AV × Facts} (h : (readE cx g op H fx).at_ ρ = some r) : ∀ c, op ≠ .defer c := by
  intro c e; subst e; simp [readE, T.at_bad] at h
theorem allocE_notDefer {g : Operand → Option AV} {op : Op} {fx : Facts} {r : AObj × (Nat → AV)} (h : (allocE cx g op fx).at_ ρ = some r) : ∀ c, op ≠ .defer c := by
  intro c e; subst e; simp [allocE, T.at_bad] at h
theorem opE_notDefer {cf : CallF} {g : Operand → Option AV} {cl : Nat} {op : Op} {st st' : St} {v : AV} (h : (opE cx cf g cl op st).at_ ρ = some (v, st')) : ∀ c, op ≠ .defer c := by
  intro c e
  subst e
  unfold opE at h
  split at h
  · simp [pureE, T.bind_bad, T.at_bad] at h
  · simp [readE, T.bind_bad, T.at_bad] at h
  · simp [allocE, T.bind_bad, T.at_bad] at h
  · simp [writeE, T.at_bad] at h
  · simp [T.at_bad] at h
  · simp [T.at_bad] at h

/-- A method of an interface value. -/
theorem meth_call (ok : cx.Ok P) {cf : CallF} {t : TypeId} {name : String} {m : FuncId × Bool} {ti : TI} {rv : AV} {args : List AV} {st st' : St} {v : AV} (hm : methE cx t name = some m) (ht : cx.tt.get t = some ti)
    (h : (match ti.desc, m.2 with
        | .pointer _, true => cf (.fn m.1) (rv :: args) st
        | .pointer _, false => .bad 303
        | _, true => .bad 304
        | _, false => cf (.fn m.1) (rv :: args) st : T (AV × St)).at_ ρ = some (v, st')) :
    (cf (.fn m.1) (rv :: args) st).at_ ρ = some (v, st') ∧ ∀ (L : Nat → Loc) (w : World) (vals : Array Value), (callMethod (.iface t (conc L ρ rv)) name vals).run P w = (callFunc m.1 (#[conc L ρ rv] ++ vals)).run P w := by
  obtain ⟨me, hme, hpath, hfunc⟩ := methE_find hm ht
  have hd := ok.desc _ _ ht
  have hcall : (cf (.fn m.1) (rv :: args) st).at_ ρ = some (v, st') ∧ ∀ L w, (receiverAt t (.val (conc L ρ rv)) m.2 (if me.path.isEmpty then some ((name.splitOn ".").getLastD name) else none)).run P w = .ok (conc L ρ rv) w := by
    split at h
    · rename_i x e1 e2
      refine ⟨h, fun L w => ?_⟩
      unfold receiverAt
      simp only [Sem.run_bind, run_underlying hd, Result.andThen_ok, e1, e2, Place.get]
      rfl
    · simp [T.at_bad] at h
    · simp [T.at_bad] at h
    · rename_i x1 x2 hne e1
      refine ⟨h, fun L w => ?_⟩
      unfold receiverAt
      simp only [Sem.run_bind, run_underlying hd, Result.andThen_ok, hne]
      cases hdd : ti.desc <;> first | rfl | exact (e1 _ hdd).elim
  refine ⟨hcall.1, fun L w vals => ?_⟩
  have hmet : (method (P.types.size + Made.depth) t (conc L ρ rv) name).run P w = .ok (m.1, conc L ρ rv) w := by
    rw [show P.types.size + Made.depth = (P.types.size + 99) + 1 from rfl]
    unfold method
    simp only [Sem.run_bind, ok.run_info ht, Result.andThen_ok, hme, hpath, follow, Sem.run_pure, hfunc, hcall.2]
  unfold callMethod
  simp only [Sem.run_bind, run_program, Result.andThen_ok, hmet]
theorem ext_one (x : Value) (l : Array Value) : (#[x] ++ l)[0]? = some x ∧ (#[x] ++ l).extract 1 (#[x] ++ l).size = l := by
  refine ⟨by rw [Array.getElem?_append_left (by simp)]; rfl, ?_⟩
  apply Array.toList_inj.1
  simp
theorem callE_sound {fq : Option Nat} (ok : cx.Ok P) {cf : CallF} (hcf : CallSound P ρ cf) {g : Operand → Option AV} {c : Call} {st st' : St} {v : AV} (hx : FxOk ρ st.fx) (h : (callE cx cf g c st).at_ ρ = some (v, st')) (L : Nat → Loc) (w : World)
    (hs : ∀ L', Agree st.nx L L' → Sim L' ρ st.H w) (a : Act) (hg : ∀ L', Agree st.nx L L' → GRel L' ρ g a.eval) (o : Oper) (ho : o.op = .call c) {n : Nat} {next : Act → World → Prop} {Q : Exit → Act → World → Prop}
    (hn : ∀ x w', Turns ρ L st w v st' x w' → next (a.put o.dst x) w') : o.wpIn (fw fq) n P a w next Q := by
  unfold callE at h
  replace h := T.at_opt_some.1 h; obtain ⟨args, hargs, h⟩ := h
  have hmap : ∀ L', Agree st.nx L L' → c.args.map a.eval = (args.map (conc L' ρ)).toArray := fun L' ha => by
    apply Array.toList_inj.1
    rw [Array.toList_map, loptM hargs (fun x v _ hv => hg L' ha x v hv)]
  have fin : ∀ {f : FuncId} {av : List AV} {vals : Array Value}, (cf (.fn f) av st).at_ ρ = some (v, st') → (∀ L', Agree st.nx L L' → vals = (av.map (conc L' ρ)).toArray) →
      (∀ r, (callFunc f vals).run P w = r → (execOp a.eval o).run P w = r) → o.wpIn (fw fq) n P a w next Q := by
    intro f av vals hcall hv hrun
    obtain ⟨⟨fn, hf, hname, hbody⟩, _, hcall⟩ := hcf.1 f av st v st' hx hcall
    refine wide_enter (fun c e => by rw [ho] at e; cases e) (hrun _ (run_callFunc hf hname hbody vals w)) ?_
    refine CallsIn.mono (hcall L w (n - 1) vals hs hv) (fun e w' he => ?_)
    obtain ⟨x, rfl, ht⟩ := he
    exact hn x w' ht
  split at h
  case h_3 => simp [T.at_bad] at h
  case h_1 fv hc =>
    replace h := gE_at.1 h; obtain ⟨u, hu, h⟩ := h
    split at h
    case h_4 => simp [T.at_bad] at h
    case h_3 =>
      rename_i id
      have hd : ∀ c, o.op ≠ .defer c := fun c e => by rw [ho] at e; cases e
      obtain ⟨_, hy⟩ := hcf.2 id args st v st' hx h
      obtain ⟨fn, tmps, assign, body, hrun, hround⟩ := hy L w (n - 1) (c.args.map a.eval) hs hmap
      have hr : (execOp a.eval o).run P w = .ok (.round (L id).b fn tmps assign body) w := by
        unfold execOp
        rw [ho]
        simp only [resolve, hc, hg L (Agree.refl _ _) _ _ hu, conc, Deferred.ofValue, Sem.run_bind, Sem.run_pure, Result.andThen_ok, invoke]
        rw [show (#[] ++ Array.map a.eval c.args : Array Value) = Array.map a.eval c.args by simp]
        exact hrun
      exact wide_round hd hr hround (fun x w' ht => hn x w' ht)
    · rename_i f first captured
      refine fin h (vals := ((first.map (conc L ρ)).toArray ++ c.args.map a.eval) ++ (captured.map (conc L ρ)).toArray) (fun L' ha => ?_) (fun r hr => ?_)
      · have e1 := hg L (Agree.refl _ _) _ _ hu
        have e2 := hg L' ha _ _ hu
        rw [e1] at e2
        simp only [conc, concs_eq, Value.func.injEq, true_and] at e2
        rw [e2.1, e2.2, hmap L' ha]
        simp [lapp_eq]
      · unfold execOp
        rw [ho]
        simp only [resolve, hc, hg L (Agree.refl _ _) _ _ hu, conc, concs_eq, Deferred.ofValue, Sem.run_bind, Sem.run_pure, Result.andThen_ok, invoke]
        exact hr
    · rename_i name t rv' first captured
      replace h := T.at_opt_some.1 h; obtain ⟨m, hm, h⟩ := h
      replace h := tyE_at.1 h; obtain ⟨ti, ht, h⟩ := h
      obtain ⟨hcall, hrun⟩ := meth_call ok hm ht h
      refine fin hcall (vals := #[conc L ρ rv'] ++ ((first.map (conc L ρ)).toArray ++ c.args.map a.eval)) (fun L' ha => ?_) (fun r hr => ?_)
      · have e1 := hg L (Agree.refl _ _) _ _ hu
        have e2 := hg L' ha _ _ hu
        rw [e1] at e2
        simp only [conc, concs_eq, List.map_cons, Value.func.injEq, true_and] at e2
        have e3 := Array.toList_inj.2 e2.1
        simp only [List.cons.injEq, Value.iface.injEq, true_and] at e3
        rw [e3.1, e3.2, hmap L' ha]
        simp [lapp_eq]
      · unfold execOp
        rw [ho]
        have hargs' : ((conc L ρ (.iface t rv') :: first.map (conc L ρ)).toArray ++ c.args.map a.eval) = #[Value.iface t (conc L ρ rv')] ++ ((first.map (conc L ρ)).toArray ++ c.args.map a.eval) := by
          apply Array.toList_inj.1
          simp [conc]
        simp only [resolve, hc, hg L (Agree.refl _ _) _ _ hu, conc, concs_eq, List.map_cons, Deferred.ofValue, Sem.run_bind, Sem.run_pure, Result.andThen_ok, invoke]
        have hargs2 : ((Value.iface t (conc L ρ rv') :: first.map (conc L ρ)).toArray ++ c.args.map a.eval) = #[Value.iface t (conc L ρ rv')] ++ ((first.map (conc L ρ)).toArray ++ c.args.map a.eval) := by
          apply Array.toList_inj.1
          simp
        rw [hargs2]
        obtain ⟨q1, q2⟩ := ext_one (Value.iface t (conc L ρ rv')) ((first.map (conc L ρ)).toArray ++ c.args.map a.eval)
        simp only [q1, q2]
        rw [hrun]
        exact hr
  case h_2 rv name hc =>
    replace h := gE_at.1 h; obtain ⟨u, hu, h⟩ := h
    split at h
    case h_2 => simp [T.at_bad] at h
    rename_i t rv'
    replace h := T.at_opt_some.1 h; obtain ⟨m, hm, h⟩ := h
    replace h := tyE_at.1 h; obtain ⟨ti, ht, h⟩ := h
    obtain ⟨hcall, hrun⟩ := meth_call ok hm ht h
    refine fin hcall (vals := #[conc L ρ rv'] ++ c.args.map a.eval) (fun L' ha => ?_) (fun r hr => ?_)
    · have e1 := hg L (Agree.refl _ _) _ _ hu
      have e2 := hg L' ha _ _ hu
      rw [e1] at e2
      simp only [conc, Value.iface.injEq, true_and] at e2
      rw [e2, hmap L' ha]
      simp
    · unfold execOp
      rw [ho]
      simp only [resolve, hc, hg L (Agree.refl _ _) _ _ hu, conc, Sem.run_bind, Sem.run_pure, Result.andThen_ok, invoke]
      obtain ⟨q1, q2⟩ := ext_one (Value.iface t (conc L ρ rv')) (c.args.map a.eval)
      simp only [q1, q2]
      rw [hrun]
      exact hr
/-- ONE OPERATION, on the heap as it is. -/
theorem opE_sound {fq : Option Nat} (ok : cx.Ok P) {cf : CallF} (hcf : CallSound P ρ cf) {g : Operand → Option AV} {cl : Nat} {op : Op} {st st' : St} {v : AV} (hx : FxOk ρ st.fx) (h : (opE cx cf g cl op st).at_ ρ = some (v, st')) (L : Nat → Loc) (w : World)
    (hs : ∀ L', Agree st.nx L L' → Sim L' ρ st.H w) (a : Act) (hg : ∀ L', Agree st.nx L L' → GRel L' ρ g a.eval) (o : Oper) (ho : o.op = op) {n : Nat} {next : Act → World → Prop} {Q : Exit → Act → World → Prop}
    (hn : ∀ x w', Turns ρ L st w v st' x w' → next (a.put o.dst x) w') : o.wpIn (fw fq) n P a w next Q := by
  have hg0 := hg L (Agree.refl _ _)
  have hd : ∀ c, o.op ≠ .defer c := by rw [ho]; exact opE_notDefer h
  unfold opE at h
  split at h
  case h_1 =>
    replace h := T.at_bind_some.1 h
    obtain ⟨⟨v1, fx1⟩, h1, h⟩ := h
    replace h := ret_at h; obtain ⟨rfl, rfl⟩ := h
    obtain ⟨hx1, hr⟩ := pureE_sound ok hx h1
    refine wide_value hd (hr L w a.eval o ho hg0) (.inl rfl) (hn _ _ (Turns.same hs (fun L' ha => ?_) hx1 rfl rfl rfl rfl))
    have e1 := hr L w a.eval o ho hg0
    rw [hr L' w a.eval o ho (hg L' ha)] at e1
    simp at e1
    exact e1.symm
  case h_2 =>
    replace h := T.at_bind_some.1 h
    obtain ⟨⟨v1, fx1⟩, h1, h⟩ := h
    replace h := ret_at h; obtain ⟨rfl, rfl⟩ := h
    obtain ⟨hx1, hr⟩ := readE_sound ok hx h1
    refine wide_value hd (hr L w a.eval o ho hg0 (hs L (Agree.refl _ _))) (.inl rfl) (hn _ _ (Turns.same hs (fun L' ha => ?_) hx1 rfl rfl rfl rfl))
    have e1 := hr L w a.eval o ho hg0 (hs L (Agree.refl _ _))
    rw [hr L' w a.eval o ho (hg L' ha) (hs L' ha)] at e1
    simp at e1
    exact e1.symm
  case h_3 =>
    replace h := T.at_bind_some.1 h
    obtain ⟨⟨ao, f⟩, h1, h⟩ := h
    replace h := ret_at h; obtain ⟨rfl, rfl⟩ := h
    obtain ⟨x, w', hr, ht⟩ := allocE_sound ok hx h1 L w hs a.eval hg o ho
    exact wide_value hd hr (.inl rfl) (hn _ _ ht)
  case h_4 =>
    obtain ⟨r, x, w', hr, hv, ht⟩ := writeE_sound ok hx h L w hs a.eval hg o ho
    exact wide_value hd hr hv (hn _ _ ht)
  case h_5 =>
    split at h
    · exact callE_sound ok hcf hx h L w hs a hg o ho hn
    · simp [T.at_bad] at h
  case h_6 => simp [T.at_bad] at h

/-! ## A region in the text's order -/
theorem opnd_global {gl : Nat} (hgl : gl ≤ ρ.gl) {L : Nat → Loc} (hp : Pin L ρ) {g : Nat} {e : Tr AV} {v : AV} (hv : opnd gl e (.global g) = some v) : (.pointer (some ⟨g, 0, none⟩) : Value) = conc L ρ v := by
  have hv : (bif Nat.ble (Nat.succ g) gl then some (.ptr g 0) else none : Option AV) = some v := hv
  cases hb : Nat.ble (Nat.succ g) gl with
  | false => rw [hb] at hv; cases hv
  | true =>
    rw [hb] at hv
    simp only [cond_true, Option.some.injEq] at hv
    subst hv
    have := hp g (Nat.lt_of_lt_of_le (Nat.le_of_ble_eq_true hb) hgl)
    show _ = Value.pointer (some ⟨(L g).b, (L g).o + 0, none⟩)
    rw [this.1, this.2]
theorem opnd_rel (hgl : cx.gl ≤ ρ.gl) {L : Nat → Loc} (hp : Pin L ρ) {e : Tr AV} {a : Act} (h : ERel L ρ e a) : GRel L ρ (opnd cx.gl e) a.eval := by
  intro x v hv
  cases x with
  | tmp t => exact h t v hv
  | const c => exact (conc_ofV L ρ hv).symm
  | func f => simp [opnd] at hv; subst hv; rfl
  | global g => exact opnd_global hgl hp hv
end Ab

/- E, part 21: a region in the text's order. -/
namespace Ab
open Go

variable {P : Program} {cx : Ctx} {ρ : Env} {fq : Option Nat}

/-- The marks of loops over functions that an activation still has to take up. -/
def markOf (ρ : Env) (L : Nat → Loc) : Mk → Deferred
  | .blk i => { target := .collected (L i).b, args := #[] }
  | .dfr f args => { target := .fn (.func f) #[], args := (args.map (conc L ρ)).toArray }
def marks (ρ : Env) (L : Nat → Loc) (mk : List Mk) : List Deferred := mk.map (markOf ρ L)
/-- From a state and a world to others. -/
def Goes (ρ : Env) (L : Nat → Loc) (st : St) (w : World) (e' : Tr AV) (nt : Nat) (mk : List Mk) (ds : List Deferred) (st' : St) (a' : Act) (w' : World) : Prop :=
  ∃ L1, Agree st.nx L L1 ∧ st.nx ≤ st'.nx ∧ Fr L st.H w L1 st'.H w' ∧ KS ρ L1 e' nt (marks ρ L1 mk ++ ds) st' a' w'

noncomputable def setD (e : Tr AV) (d : Option Tmp) (v : AV) : Tr AV := match d with
  | none => e
  | some t => e.set t v
theorem putE_at {nt : Nat} {e : Tr AV} {d : Option Tmp} {v : AV} {f : Tr AV → T (Tr AV × St)} {r : Tr AV × St} (h : (putE nt e d v f).at_ ρ = some r) :
    (f (setD e d v)).at_ ρ = some r ∧ ∀ t, d = some t → t < nt := by
  unfold putE at h
  cases d with
  | none => exact ⟨h, by simp⟩
  | some t =>
    replace h := chk_at h; obtain ⟨h1, h⟩ := h
    exact ⟨h, fun t' ht => by simp at ht; subst ht; exact Nat.le_of_ble_eq_true h1⟩
theorem getD_set (a : Array Value) (d t : Nat) (x : Value) : (a.setIfInBounds d x).getD t undef = if d = t ∧ d < a.size then x else a.getD t undef := by
  simp only [Array.getD_eq_getD_getElem?, Array.getElem?_setIfInBounds]
  by_cases h : d = t
  · subst h
    by_cases h2 : d < a.size
    · simp [h2]
    · simp [h2]
  · simp [h]
theorem ERel.put {L : Nat → Loc} {e : Tr AV} {a : Act} {d : Option Tmp} {v : AV} {x : Value} (h : ERel L ρ e a) (hd : ∀ t, d = some t → t < a.tmps.size) (hx : x = conc L ρ v) : ERel L ρ (setD e d v) (a.put d x) := by
  cases d with
  | none => exact h
  | some d =>
    intro t u hu
    show (a.tmps.setIfInBounds d x).getD t undef = _
    rw [getD_set]
    have hu : (e.set d v).get t = some u := hu
    rw [Tr.get_set] at hu
    by_cases ht : t = d
    · rw [if_pos ht] at hu
      rw [if_pos ⟨ht.symm, hd d rfl⟩, hx]
      simp at hu
      rw [hu]
    · rw [if_neg ht] at hu
      rw [if_neg (fun hh => ht hh.1.symm)]
      exact h t u hu
theorem put_size (a : Act) (d : Option Tmp) (x : Value) : (a.put d x).tmps.size = a.tmps.size := by
  cases d <;> simp [Act.put]
theorem put_defers (a : Act) (d : Option Tmp) (x : Value) : (a.put d x).defers = a.defers := by
  cases d <;> rfl
theorem Goes.of_turns {ds : List Deferred} {L : Nat → Loc} {e : Tr AV} {nt : Nat} {st st' : St} {a : Act} {w w' : World} {v : AV} {x : Value} {d : Option Tmp} (hk : KS ρ L e nt ds st a w) (hd : ∀ t, d = some t → t < nt) (ht : Turns ρ L st w v st' x w') :
    Goes ρ L st w (setD e d v) nt [] ds st' (a.put d x) w' := by
  obtain ⟨L1, ha, hn, hf, hx, hr⟩ := ht
  refine ⟨L1, ha, hn, hf, ⟨fun L' hL => ?_, fun L' hL => (hr L' hL).2, hx, by rw [put_size, hk.size], by rw [put_defers, hk.dfr]; rfl⟩⟩
  exact ERel.put (hk.env L' (ha.trans (hL.mono hn))) (fun t h => by rw [hk.size]; exact hd t h) (hr L' hL).1
theorem wantE_sound {ops : Array Oper} {e : Tr AV} {o : Oper} {b : Bool} (h : wantE ops.toList e o = some b) {L : Nat → Loc} {a : Act} (hr : ∀ j w oj t, o.guard = some (j, w) → ops[j]? = some oj → oj.dst = some t → ∀ v, e.get t = some v → a.tmps.getD t undef = conc L ρ v) :
    Region.wanted o (yielded ops a.tmps) = b := by
  unfold wantE at h
  unfold Region.wanted
  cases hg : o.guard with
  | none => rw [hg] at h; simp at h; subst h; rfl
  | some p =>
    obtain ⟨j, w⟩ := p
    rw [hg] at h
    simp only at h ⊢
    rw [lget_eq] at h
    cases ho : ops.toList[j]? with
    | none => rw [ho] at h; cases h
    | some oj =>
      rw [ho] at h
      simp only at h
      have ho' : ops[j]? = some oj := by simpa using ho
      cases hd : oj.dst with
      | none => rw [hd] at h; cases h
      | some t =>
        rw [hd] at h
        simp only at h
        have hy : yielded ops a.tmps j = match a.tmps[t]? with | some (.bool b) => some b | _ => none := by
          unfold yielded
          rw [ho']
          simp [hd]
          rfl
        rw [hy]
        cases he : e.get t with
        | none => rw [he] at h; cases h
        | some v =>
          have hv := hr j w oj t hg ho' hd v he
          rw [Array.getD_eq_getD_getElem?] at hv
          rw [he] at h
          cases v with
          | bool c =>
            simp at h
            subst h
            cases ht : a.tmps[t]? with
            | none => rw [ht] at hv; simp [conc, undef] at hv
            | some y =>
              rw [ht] at hv
              simp [conc] at hv
              subst hv
              cases c <;> cases w <;> rfl
          | tuple vs =>
            cases vs with
            | nil =>
              simp at h
              subst h
              cases ht : a.tmps[t]? with
              | none => rfl
              | some y =>
                rw [ht] at hv
                simp [conc, concs] at hv
                subst hv
                rfl
            | cons => simp at h
          | _ => simp at h

theorem regS_then (ok : cx.Ok P) (hgl : cx.gl ≤ ρ.gl) {cf : CallF} (hcf : CallSound P ρ cf) {nt n : Nat} {ops : Array Oper} {ds : List Deferred} {Q : Exit → Act → World → Prop} : ∀ (l : List Oper) (i0 : Nat), (∀ k o, l[k]? = some o → ops[i0 + k]? = some o) →
    ∀ (e : Tr AV) (st : St) (e' : Tr AV) (st' : St), (regS cx cf nt ops.toList l e st).at_ ρ = some (e', st') → ∀ (L : Nat → Loc) (a : Act) (w : World), KS ρ L e nt ds st a w →
      ∀ (rest : List Nat), (∀ a' w', Goes ρ L st w e' nt [] ds st' a' w' → wpOpsIn (fw fq) n P ops Q rest a' w') → wpOpsIn (fw fq) n P ops Q (List.range' i0 l.length ++ rest) a w := by
  intro l
  induction l with
  | nil =>
    intro i0 _ e st e' st' h L a w hk rest hQ
    have h : (T.ret (e, st)).at_ ρ = some (e', st') := h
    replace h := ret_at h; obtain ⟨rfl, rfl⟩ := h
    exact hQ a w ⟨L, Agree.refl _ _, Nat.le_refl _, Fr.refl _ _ _, hk⟩
  | cons o l ih =>
    intro i0 hl e st e' st' h L a w hk rest hQ
    have h : (T.opt (wantE ops.toList e o) 313 fun w => Bool.rec (putE nt e o.dst undefA fun e => regS cx cf nt ops.toList l e st)
        ((opE cx cf (opnd cx.gl e) (cls cx o.op) o.op st).bind fun p => putE nt e o.dst p.1 fun e => regS cx cf nt ops.toList l e p.2) w : T (Tr AV × St)).at_ ρ = some (e', st') := h
    replace h := T.at_opt_some.1 h; obtain ⟨b, hb, h⟩ := h
    have ho : ops[i0]? = some o := hl 0 o rfl
    have hl' : ∀ k o, l[k]? = some o → ops[i0 + 1 + k]? = some o := fun k o' hk' => by rw [show i0 + 1 + k = i0 + (k + 1) by omega]; exact hl (k + 1) o' hk'
    have hw := wantE_sound hb (L := L) (ρ := ρ) (a := a) (fun j w oj t _ _ _ v hv => hk.env L (Agree.refl _ _) t v hv)
    rw [List.length_cons, List.range'_succ, List.cons_append]
    simp only [wpOpsIn, ho, hw]
    have fin : ∀ {v : AV} {st1 : St} {x : Value} {w1 : World}, Turns ρ L st w v st1 x w1 → (∀ t, o.dst = some t → t < nt) → (regS cx cf nt ops.toList l (setD e o.dst v) st1).at_ ρ = some (e', st') →
        wpOpsIn (fw fq) n P ops Q (List.range' (i0 + 1) l.length ++ rest) (a.put o.dst x) w1 := by
      intro v st1 x w1 ht hd h
      have hgo := Goes.of_turns hk hd ht
      obtain ⟨L1, ha, hn, hf, hk1⟩ := hgo
      refine ih (i0 + 1) hl' _ _ _ _ h L1 _ _ hk1 rest (fun a' w' hg' => hQ a' w' ?_)
      obtain ⟨L2, ha2, hn2, hf2, hk2⟩ := hg'
      exact ⟨L2, ha.trans (ha2.mono hn), Nat.le_trans hn hn2, hf.trans hf2, hk2⟩
    cases b with
    | false =>
      replace h := putE_at h; obtain ⟨h, hd⟩ := h
      simp only [Bool.false_eq_true, if_false]
      exact ⟨fun _ _ => trivial, fin (Turns.same hk.sim (fun L' ha => conc_undefA L') hk.fx rfl rfl rfl rfl) hd h⟩
    | true =>
      have h : ((opE cx cf (opnd cx.gl e) (cls cx o.op) o.op st).bind fun p => putE nt e o.dst p.1 fun e => regS cx cf nt ops.toList l e p.2).at_ ρ = some (e', st') := h
      replace h := T.at_bind_some.1 h
      obtain ⟨⟨v, st1⟩, h1, h⟩ := h
      replace h := putE_at h; obtain ⟨h, hd⟩ := h
      simp only [if_true]
      exact opE_sound ok hcf hk.fx h1 L w hk.sim a (fun L' ha => opnd_rel hgl (hk.sim L' ha).pin (hk.env L' ha)) o rfl (fun x w1 ht => fin ht hd h)
theorem regS_sound (ok : cx.Ok P) (hgl : cx.gl ≤ ρ.gl) {cf : CallF} (hcf : CallSound P ρ cf) {nt n : Nat} {ops : Array Oper} {ds : List Deferred} {Q : Exit → Act → World → Prop} (l : List Oper) (i0 : Nat) (hl : ∀ k o, l[k]? = some o → ops[i0 + k]? = some o)
    (e : Tr AV) (st : St) (e' : Tr AV) (st' : St) (h : (regS cx cf nt ops.toList l e st).at_ ρ = some (e', st')) (L : Nat → Loc) (a : Act) (w : World) (hk : KS ρ L e nt ds st a w)
    (hQ : ∀ a' w', Goes ρ L st w e' nt [] ds st' a' w' → Q .normal a' w') : wpOpsIn (fw fq) n P ops Q (List.range' i0 l.length) a w := by
  have := regS_then (fq := fq) (n := n) (Q := Q) ok hgl hcf l i0 hl e st e' st' h L a w hk [] hQ
  simpa using this
end Ab

/- E, part 22: what grows whatever the world is; the trace of a region. -/
namespace Ab
open Go

variable {P : Program} {cx : Ctx} {ρ : Env}

def Grows (ρ : Env) (st st' : St) : Prop := FxOk ρ st'.fx ∧ st.nx ≤ st'.nx

theorem findE_fx (ok : cx.Ok P) {t : TypeId} {ti : TI} (ht : cx.tt.get t = some ti) {qs : List Nat} (hk : ti.kinds = some qs) {k : AV} {es : List (AV × AV × Nat)} {fx fx' : Facts} {r : Option (Nat × AV)}
    (hx : FxOk ρ fx) (h : (findE ti.agg qs k es 0 fx).at_ ρ = some (r, fx')) : FxOk ρ fx' := (findKey_sound ok ht hk hx h).1

theorem mapSetE_grows (ok : cx.Ok P) {st st' : St} {t : TypeId} {mv kv xv : AV} (hx : FxOk ρ st.fx) (h : (mapSetE cx st t mv kv xv).at_ ρ = some st') : Grows ρ st st' := by
  unfold mapSetE at h
  replace h := tyE_at.1 h; obtain ⟨ti, ht, h⟩ := h
  split at h
  case h_2 => simp [T.at_bad] at h
  replace h := tyE_at.1 h; obtain ⟨ki, hki, h⟩ := h
  replace h := T.at_opt_some.1 h; obtain ⟨qs, hqs, h⟩ := h
  replace h := chk_at h; obtain ⟨hsh, h⟩ := h
  split at h
  case h_2 => simp [T.at_bad] at h
  replace h := chk_at h; obtain ⟨hid, h⟩ := h
  rename_i id
  cases hU : isU st.H id with
  | true =>
    rw [hU, cond_true] at h
    replace h := chk_at h; obtain ⟨_, h⟩ := h
    obtain ⟨es, o, ho, hkc, hu, hone, h⟩ := withU_at h
    replace h := ret1_at h
    subst h
    exact ⟨hx, Nat.le_refl _⟩
  | false =>
  rw [hU, cond_false] at h
  replace h := withMap_at h; obtain ⟨es, ck, ho, h⟩ := h
  replace h := T.at_bind_some.1 h
  obtain ⟨⟨r, fx1⟩, hf, h⟩ := h
  have hx1 := findE_fx ok hki hqs hx hf
  cases r with
  | none => replace h := ret1_at h; subst h; exact ⟨hx1, Nat.le_refl _⟩
  | some p => replace h := ret1_at h; subst h; exact ⟨hx1, Nat.le_refl _⟩
theorem mapDelE_grows (ok : cx.Ok P) {st st' : St} {t : TypeId} {mv kv : AV} (hx : FxOk ρ st.fx) (h : (mapDelE cx st t mv kv).at_ ρ = some st') : Grows ρ st st' := by
  unfold mapDelE at h
  replace h := tyE_at.1 h; obtain ⟨ti, ht, h⟩ := h
  split at h
  case h_2 => simp [T.at_bad] at h
  replace h := tyE_at.1 h; obtain ⟨ki, hki, h⟩ := h
  replace h := T.at_opt_some.1 h; obtain ⟨qs, hqs, h⟩ := h
  replace h := chk_at h; obtain ⟨hsh, h⟩ := h
  split at h
  case h_3 => simp [T.at_bad] at h
  case h_1 => replace h := ret1_at h; subst h; exact ⟨hx, Nat.le_refl _⟩
  replace h := chk_at h; obtain ⟨hid, h⟩ := h
  rename_i id
  cases hU : isU st.H id with
  | true =>
    rw [hU, cond_true] at h
    obtain ⟨es, o, ho, hkc, hu, hone, h⟩ := withU_at h
    replace h := ret1_at h
    subst h
    exact ⟨hx, Nat.le_refl _⟩
  | false =>
  rw [hU, cond_false] at h
  replace h := withMap_at h; obtain ⟨es, ck, ho, h⟩ := h
  replace h := T.at_bind_some.1 h
  obtain ⟨⟨r, fx1⟩, hf, h⟩ := h
  have hx1 := findE_fx ok hki hqs hx hf
  cases r with
  | none => replace h := ret1_at h; subst h; exact ⟨hx1, Nat.le_refl _⟩
  | some p => replace h := ret1_at h; subst h; exact ⟨hx1, Nat.le_refl _⟩
theorem storeE_grows {st st' : St} {t : TypeId} {av xv : AV} (hx : FxOk ρ st.fx) (h : (storeE cx st t av xv).at_ ρ = some st') : Grows ρ st st' := by
  unfold storeE at h
  split at h
  case h_2 => simp [T.at_bad] at h
  replace h := chk_at h; obtain ⟨hid, h⟩ := h
  replace h := tyE_at.1 h; obtain ⟨ti, ht, h⟩ := h
  replace h := withCells_at h; obtain ⟨tr, d, n, el, sz, ho, h⟩ := h
  replace h := chk_at h; obtain ⟨hl, h⟩ := h
  replace h := chk_at h; obtain ⟨hone, h⟩ := h
  replace h := chk_at h; obtain ⟨hn, h⟩ := h
  replace h := ret1_at h; subst h
  exact ⟨hx, Nat.le_refl _⟩
theorem clearE_grows {st st' : St} {t : TypeId} {xv : AV} (hx : FxOk ρ st.fx) (h : (clearE cx st t xv).at_ ρ = some st') : Grows ρ st st' := by
  unfold clearE at h
  replace h := tyE_at.1 h; obtain ⟨ti, ht, h⟩ := h
  split at h
  case h_5 => simp [T.at_bad] at h
  case h_1 => replace h := ret1_at h; subst h; exact ⟨hx, Nat.le_refl _⟩
  case h_2 => replace h := ret1_at h; subst h; exact ⟨hx, Nat.le_refl _⟩
  case h_3 =>
    replace h := chk_at h; obtain ⟨hid, h⟩ := h
    replace h := withMap_at h; obtain ⟨es, ck, ho, h⟩ := h
    replace h := ret1_at h; subst h; exact ⟨hx, Nat.le_refl _⟩
  case h_4 _ _ el id off0 off len cap op hdd =>
    cases hn : Nat.beq len 0 with
    | true => rw [hn, cond_true] at h; replace h := ret1_at h; subst h; exact ⟨hx, Nat.le_refl _⟩
    | false =>
      rw [hn, cond_false] at h
      replace h := tyE_at.1 h; obtain ⟨ei, hei, h⟩ := h
      replace h := T.at_opt_some.1 h; obtain ⟨z, hz, h⟩ := h
      replace h := chk_at h; obtain ⟨hid, h⟩ := h
      replace h := chk_at h; obtain ⟨hc, h⟩ := h
      replace h := withCells_at h; obtain ⟨tr, d, n, el', sz, ho, h⟩ := h
      replace h := chk_at h; obtain ⟨hzl, h⟩ := h
      replace h := chk_at h; obtain ⟨hone, h⟩ := h
      replace h := chk_at h; obtain ⟨hk, h⟩ := h
      replace h := ret1_at h; subst h; exact ⟨hx, Nat.le_refl _⟩
theorem strBytesE_grows {st st' : St} {src dst : TypeId} {xv v : AV} (hx : FxOk ρ st.fx) (h : (strBytesE cx st src dst xv).at_ ρ = some (v, st')) : Grows ρ st st' := by
  unfold strBytesE at h
  replace h := tyE_at.1 h; obtain ⟨si, hsi, h⟩ := h
  replace h := tyE_at.1 h; obtain ⟨di, hdi, h⟩ := h
  split at h
  case h_2 => simp [T.at_bad] at h
  replace h := tyE_at.1 h; obtain ⟨ei, hei, h⟩ := h
  split at h
  case h_2 => simp [T.at_bad] at h
  replace h := ret_at h; obtain ⟨rfl, rfl⟩ := h
  exact ⟨hx, Nat.le_succ _⟩
theorem rangeE_grows {st st' : St} {t : TypeId} {xv v : AV} (hx : FxOk ρ st.fx) (h : (rangeE cx st t xv).at_ ρ = some (v, st')) : Grows ρ st st' := by
  unfold rangeE at h
  replace h := tyE_at.1 h; obtain ⟨ti, ht, h⟩ := h
  split at h
  case h_3 => simp [T.at_bad] at h
  case h_1 => replace h := ret_at h; obtain ⟨rfl, rfl⟩ := h; exact ⟨hx, Nat.le_succ _⟩
  case h_2 =>
    replace h := withMap_at h; obtain ⟨es, ck, ho, h⟩ := h
    replace h := ret_at h; obtain ⟨rfl, rfl⟩ := h; exact ⟨hx, Nat.le_succ _⟩
theorem nextE_grows {st st' : St} {xv v : AV} (hx : FxOk ρ st.fx) (h : (nextE st xv).at_ ρ = some (v, st')) : Grows ρ st st' := by
  unfold nextE at h
  split at h
  case h_2 => simp [T.at_bad] at h
  replace h := chk_at h; obtain ⟨hid, h⟩ := h
  replace h := T.at_opt_some.1 h; obtain ⟨o, ho, h⟩ := h
  split at h
  case h_3 => simp [T.at_bad] at h
  case h_1 => replace h := ret_at h; obtain ⟨rfl, rfl⟩ := h; exact ⟨hx, Nat.le_refl _⟩
  replace h := withMap_at h; obtain ⟨es, ck, hm, h⟩ := h
  replace h := chk_at h; obtain ⟨hel, h⟩ := h
  split at h
  case h_3 => simp [T.at_bad] at h
  · replace h := ret_at h; obtain ⟨rfl, rfl⟩ := h; exact ⟨hx, Nat.le_refl _⟩
  · replace h := chk_at h; obtain ⟨hsi, h⟩ := h
    replace h := ret_at h; obtain ⟨rfl, rfl⟩ := h; exact ⟨hx, Nat.le_refl _⟩
theorem entryE_grows {st st' : St} {xv v : AV} (hx : FxOk ρ st.fx) (h : (entryE st xv).at_ ρ = some (v, st')) : Grows ρ st st' := by
  unfold entryE at h
  split at h
  case h_2 => simp [T.at_bad] at h
  replace h := chk_at h; obtain ⟨hid, h⟩ := h
  replace h := T.at_opt_some.1 h; obtain ⟨o, ho, h⟩ := h
  split at h
  case h_2 => simp [T.at_bad] at h
  replace h := T.at_opt_some.1 h; obtain ⟨s, hs, h⟩ := h
  replace h := withMap_at h; obtain ⟨es, ck, hm, h⟩ := h
  replace h := chk_at h; obtain ⟨hck, h⟩ := h
  replace h := T.at_opt_some.1 h; obtain ⟨e, he, h⟩ := h
  replace h := ret_at h; obtain ⟨rfl, rfl⟩ := h; exact ⟨hx, Nat.le_refl _⟩
theorem lenOfE_at' {x : AV} {f : Nat → T (AV × St)} {r : AV × St} (h : (lenOfE x f).at_ ρ = some r) : ∃ n, (f n).at_ ρ = some r := by
  unfold lenOfE at h
  split at h
  · exact ⟨_, h⟩
  · exact ⟨_, h⟩
  · exact ⟨_, h⟩
  · simp [T.at_bad] at h
theorem copyE_grows {st st' : St} {t : TypeId} {dv xv v : AV} (hx : FxOk ρ st.fx) (h : (copyE cx st t dv xv).at_ ρ = some (v, st')) : Grows ρ st st' := by
  unfold copyE at h
  replace h := tyE_at.1 h; obtain ⟨ti, ht, h⟩ := h
  split at h
  case h_2 => simp [T.at_bad] at h
  replace h := tyE_at.1 h; obtain ⟨ei, hei, h⟩ := h
  replace h := chk_at h; obtain ⟨hsize, h⟩ := h
  replace h := lenOfE_at' h; obtain ⟨m, h⟩ := h
  split at h
  case h_3 => simp [T.at_bad] at h
  case h_1 => replace h := ret_at h; obtain ⟨rfl, rfl⟩ := h; exact ⟨hx, Nat.le_refl _⟩
  rename_i id off0 off len cap op
  simp only at h
  cases hn : Nat.beq (bif Nat.ble m len then m else len) 0 with
  | true => rw [hn, cond_true] at h; replace h := ret_at h; obtain ⟨rfl, rfl⟩ := h; exact ⟨hx, Nat.le_refl _⟩
  | false =>
    rw [hn, cond_false] at h
    replace h := T.at_bind_some.1 h
    obtain ⟨cs, hcs, h⟩ := h
    replace h := chk_at h; obtain ⟨hid, h⟩ := h
    replace h := chk_at h; obtain ⟨hc, h⟩ := h
    replace h := withCells_at h; obtain ⟨tr, dd, k, el', sz, ho, h⟩ := h
    replace h := chk_at h; obtain ⟨hone, h⟩ := h
    replace h := chk_at h; obtain ⟨hk, h⟩ := h
    replace h := ret_at h; obtain ⟨rfl, rfl⟩ := h; exact ⟨hx, Nat.le_refl _⟩
theorem appNew_grows {st st' : St} {el size n len : Nat} {new : List AV} {sv v : AV} (hx : FxOk ρ st.fx) (h : (appNew st el size n new sv len).at_ ρ = some (v, st')) : Grows ρ st st' := by
  unfold appNew at h
  replace h := T.at_bind_some.1 h
  obtain ⟨old, hold, h⟩ := h
  replace h := chk_at h; obtain ⟨hol, h⟩ := h
  replace h := ret_at h; obtain ⟨rfl, rfl⟩ := h
  exact ⟨hx, Nat.le_succ _⟩
theorem appendE_grows {st st' : St} {t : TypeId} {sv xv v : AV} (hx : FxOk ρ st.fx) (h : (appendE cx st t sv xv).at_ ρ = some (v, st')) : Grows ρ st st' := by
  unfold appendE at h
  replace h := tyE_at.1 h; obtain ⟨ti, ht, h⟩ := h
  split at h
  case h_2 => simp [T.at_bad] at h
  replace h := tyE_at.1 h; obtain ⟨ei, hei, h⟩ := h
  replace h := chk_at h; obtain ⟨hsize, h⟩ := h
  replace h := T.at_opt_some.1 h; obtain ⟨z, hz, h⟩ := h
  replace h := chk_at h; obtain ⟨hzl, h⟩ := h
  replace h := lenOfE_at' h; obtain ⟨n, h⟩ := h
  replace h := chk_at h; obtain ⟨hnb, h⟩ := h
  replace h := T.at_bind_some.1 h
  obtain ⟨new, hnew, h⟩ := h
  replace h := chk_at h; obtain ⟨hnl, h⟩ := h
  unfold appTo at h
  split at h
  case h_3 => simp [T.at_bad] at h
  case h_1 =>
    cases hn : Nat.beq n 0 with
    | true => rw [hn, cond_true] at h; replace h := ret_at h; obtain ⟨rfl, rfl⟩ := h; exact ⟨hx, Nat.le_refl _⟩
    | false => rw [hn, cond_false] at h; exact appNew_grows hx h
  rename_i id off0 off len cap op
  cases hc : Nat.ble (Nat.add len n) cap with
  | true =>
    rw [hc, cond_true] at h
    unfold appIn at h
    cases hn : Nat.beq n 0 with
    | true => rw [hn, cond_true] at h; replace h := ret_at h; obtain ⟨rfl, rfl⟩ := h; exact ⟨hx, Nat.le_refl _⟩
    | false =>
      rw [hn, cond_false] at h
      replace h := chk_at h; obtain ⟨hid, h⟩ := h
      replace h := withCells_at h; obtain ⟨tr, d, m, el', sz, ho, h⟩ := h
      replace h := chk_at h; obtain ⟨hone, h⟩ := h
      replace h := chk_at h; obtain ⟨hm, h⟩ := h
      replace h := ret_at h; obtain ⟨rfl, rfl⟩ := h; exact ⟨hx, Nat.le_refl _⟩
  | false =>
    rw [hc, cond_false] at h
    cases hn : Nat.beq n 0 with
    | true => rw [hn, cond_true] at h; simp [T.at_bad] at h
    | false =>
      rw [hn, cond_false] at h
      replace h := chk_at h; obtain ⟨hb, h⟩ := h
      cases op with
      | true =>
        rw [cond_true] at h
        unfold appOpen at h
        replace h := chk_at h; obtain ⟨hid, h⟩ := h
        replace h := chk_at h; obtain ⟨hlc, h⟩ := h
        replace h := chk_at h; obtain ⟨hcap, h⟩ := h
        replace h := withCells_at h; obtain ⟨tr, d, m, el', sz, ho, h⟩ := h
        replace h := chk_at h; obtain ⟨hel, h⟩ := h
        replace h := chk_at h; obtain ⟨hsz, h⟩ := h
        replace h := chk_at h; obtain ⟨hm, h⟩ := h
        replace h := chk_at h; obtain ⟨hone, h⟩ := h
        replace h := T.at_opt_some.1 h; obtain ⟨old, hold, h⟩ := h
        replace h := ret_at h; obtain ⟨rfl, rfl⟩ := h; exact ⟨hx, Nat.le_succ _⟩
      | false => rw [cond_false] at h; exact appNew_grows hx h
theorem writeE_grows (ok : cx.Ok P) {g : Operand → Option AV} {op : Op} {st st' : St} {v : AV} (hx : FxOk ρ st.fx) (h : (writeE cx g op st).at_ ρ = some (v, st')) : Grows ρ st st' := by
  unfold writeE at h
  split at h
  case h_1 =>
    replace h := gE_at.1 h; obtain ⟨av, hav, h⟩ := h
    replace h := gE_at.1 h; obtain ⟨xv, hxv, h⟩ := h
    exact storeE_grows hx (stE_at h).2
  case h_2 =>
    replace h := gE_at.1 h; obtain ⟨mv, hmv, h⟩ := h
    replace h := gE_at.1 h; obtain ⟨kv, hkv, h⟩ := h
    replace h := gE_at.1 h; obtain ⟨xv, hxv, h⟩ := h
    exact mapSetE_grows ok hx (stE_at h).2
  case h_3 =>
    replace h := gE_at.1 h; obtain ⟨mv, hmv, h⟩ := h
    replace h := gE_at.1 h; obtain ⟨kv, hkv, h⟩ := h
    replace h := gE_at.1 h; obtain ⟨xv, hxv, h⟩ := h
    exact mapSetE_grows ok hx (stE_at h).2
  case h_4 =>
    replace h := gE_at.1 h; obtain ⟨xv, hxv, h⟩ := h
    exact strBytesE_grows hx h
  case h_5 =>
    replace h := gE_at.1 h; obtain ⟨xv, hxv, h⟩ := h
    exact rangeE_grows hx h
  case h_6 it isS =>
    cases isS with
    | true => rw [cond_true] at h; simp [T.at_bad] at h
    | false =>
      rw [cond_false] at h
      replace h := gE_at.1 h; obtain ⟨xv, hxv, h⟩ := h
      exact nextE_grows hx h
  case h_7 c =>
    split at h
    · split at h
      · replace h := gE_at.1 h; obtain ⟨u, hu, h⟩ := h
        exact clearE_grows hx (stE_at h).2
      · simp [T.at_bad] at h
    · split at h
      · replace h := gE_at.1 h; obtain ⟨sv, hsv, h⟩ := h
        replace h := gE_at.1 h; obtain ⟨xv, hxv, h⟩ := h
        replace h := tyE_at.1 h; obtain ⟨ui, hui, h⟩ := h
        split at h
        · simp [T.at_bad] at h
        exact appendE_grows hx h
      · simp [T.at_bad] at h
    · split at h
      · replace h := gE_at.1 h; obtain ⟨sv, hsv, h⟩ := h
        replace h := gE_at.1 h; obtain ⟨xv, hxv, h⟩ := h
        exact copyE_grows hx h
      · simp [T.at_bad] at h
    · split at h
      · replace h := gE_at.1 h; obtain ⟨sv, hsv, h⟩ := h
        replace h := gE_at.1 h; obtain ⟨xv, hxv, h⟩ := h
        exact mapDelE_grows ok hx (stE_at h).2
      · simp [T.at_bad] at h
    · simp [T.at_bad] at h
  case h_8 it =>
    replace h := gE_at.1 h; obtain ⟨xv, hxv, h⟩ := h
    exact entryE_grows hx h
  case h_9 => simp [T.at_bad] at h
theorem callE_grows {cf : CallF} (hcf : CallSound P ρ cf) {g : Operand → Option AV} {c : Call} {st st' : St} {v : AV} (hx : FxOk ρ st.fx) (h : (callE cx cf g c st).at_ ρ = some (v, st')) : Grows ρ st st' := by
  unfold callE at h
  replace h := T.at_opt_some.1 h; obtain ⟨args, hargs, h⟩ := h
  split at h
  case h_3 => simp [T.at_bad] at h
  case h_1 =>
    replace h := gE_at.1 h; obtain ⟨u, hu, h⟩ := h
    split at h
    case h_4 => simp [T.at_bad] at h
    case h_3 => exact (hcf.2 _ _ _ _ _ hx h).1
    · exact (hcf.1 _ _ _ _ _ hx h).2.1
    · replace h := T.at_opt_some.1 h; obtain ⟨m, hm, h⟩ := h
      replace h := tyE_at.1 h; obtain ⟨ti, ht, h⟩ := h
      split at h
      · exact (hcf.1 _ _ _ _ _ hx h).2.1
      · simp [T.at_bad] at h
      · simp [T.at_bad] at h
      · exact (hcf.1 _ _ _ _ _ hx h).2.1
  case h_2 =>
    replace h := gE_at.1 h; obtain ⟨u, hu, h⟩ := h
    split at h
    case h_2 => simp [T.at_bad] at h
    replace h := T.at_opt_some.1 h; obtain ⟨m, hm, h⟩ := h
    replace h := tyE_at.1 h; obtain ⟨ti, ht, h⟩ := h
    split at h
    · exact (hcf.1 _ _ _ _ _ hx h).2.1
    · simp [T.at_bad] at h
    · simp [T.at_bad] at h
    · exact (hcf.1 _ _ _ _ _ hx h).2.1
theorem opE_grows (ok : cx.Ok P) {cf : CallF} (hcf : CallSound P ρ cf) {g : Operand → Option AV} {cl : Nat} {op : Op} {st st' : St} {v : AV} (hx : FxOk ρ st.fx) (h : (opE cx cf g cl op st).at_ ρ = some (v, st')) : Grows ρ st st' := by
  unfold opE at h
  split at h
  case h_1 =>
    replace h := T.at_bind_some.1 h
    obtain ⟨⟨v1, fx1⟩, h1, h⟩ := h
    replace h := ret_at h; obtain ⟨rfl, rfl⟩ := h
    exact ⟨(pureE_sound ok hx h1).1, Nat.le_refl _⟩
  case h_2 =>
    replace h := T.at_bind_some.1 h
    obtain ⟨⟨v1, fx1⟩, h1, h⟩ := h
    replace h := ret_at h; obtain ⟨rfl, rfl⟩ := h
    exact ⟨(readE_sound ok hx h1).1, Nat.le_refl _⟩
  case h_3 =>
    replace h := T.at_bind_some.1 h
    obtain ⟨⟨ao, f⟩, h1, h⟩ := h
    replace h := ret_at h; obtain ⟨rfl, rfl⟩ := h
    exact ⟨hx, Nat.le_succ _⟩
  case h_4 => exact writeE_grows ok hx h
  case h_5 =>
    split at h
    · exact callE_grows hcf hx h
    · simp [T.at_bad] at h
  case h_6 => simp [T.at_bad] at h
end Ab

/- E, part 23: operations look at their operands alone; sameness. -/
namespace Ab
open Go

variable {P : Program} {cx : Ctx} {ρ : Env}

theorem lopt_congr {α β : Type} {f f' : α → Option β} : ∀ {l : List α}, (∀ x ∈ l, f x = f' x) → lopt f l = lopt f' l
  | [], _ => rfl
  | x :: l, h => by
    have e : ∀ (k : α → Option β), lopt k (x :: l) = Option.rec none (fun y => Option.rec none (fun ys => some (y :: ys)) (lopt k l)) (k x) := fun _ => rfl
    rw [e, e, h x (by simp), lopt_congr (fun y hy => h y (by simp [hy]))]
theorem partsE_congr {g g' : Operand → Option AV} {ps : List (Nat × Operand)} (h : ∀ p ∈ ps, g p.2 = g' p.2) : partsE g ps = partsE g' ps :=
  lopt_congr fun p hp => by rw [h p hp]
theorem gE_congr {β : Type} {g g' : Operand → Option AV} {x : Operand} {f f' : AV → T β} (h : g x = g' x) (hf : ∀ v, f v = f' v) : gE g x f = gE g' x f' := by
  unfold gE
  rw [h]
  cases g' x with
  | none => rfl
  | some v => exact hf v
theorem gO_congr {β : Type} {g g' : Operand → Option AV} {x : Option Operand} {f f' : Option AV → T β} (h : ∀ y, x = some y → g y = g' y) (hf : ∀ v, f v = f' v) : gO g x f = gO g' x f' := by
  cases x with
  | none => exact hf none
  | some y =>
    unfold gO
    simp only
    rw [h y rfl]
    cases g' y with
    | none => rfl
    | some v => exact hf _

section
variable {g g' : Operand → Option AV} {op : Op}
theorem pureE_congr (h : ∀ x ∈ op.operands, g x = g' x) (fx : Facts) : pureE cx g op fx = pureE cx g' op fx := by
  cases op <;> first
    | rfl
    | (simp only [Op.operands, List.mem_toArray, List.mem_cons, List.not_mem_nil, or_false, forall_eq_or_imp, forall_eq] at h
       simp only [pureE, gE, h]; done)
    | skip
  case build t ps =>
    simp only [pureE]
    rw [partsE_congr (g' := g') fun p hp => h p.2 (by simp only [Op.operands, List.mem_toArray]; exact List.mem_map_of_mem hp)]
  case makeFunc fn first captured =>
    cases fn <;> try rfl
    all_goals simp only [pureE]
    all_goals rw [lopt_congr (f' := g') (l := first.toList) fun x hx => h x (by simp only [Op.operands, Array.mem_append]; exact .inl (Array.mem_toList_iff.1 hx)),
      lopt_congr (f' := g') (l := captured.toList) fun x hx => h x (by simp only [Op.operands, Array.mem_append]; exact .inr (Array.mem_toList_iff.1 hx))]
  case slice t x lo hi mx =>
    simp only [Op.operands, Array.mem_append] at h
    refine gE_congr (h x (by simp)) fun a => gO_congr (fun y hy => h y (by simp [hy])) fun l => gO_congr (fun y hy => h y (by simp [hy])) fun hh => gO_congr (fun y hy => h y (by simp [hy])) fun m => rfl
  case call c =>
    simp only [Op.operands, Call.operands, Array.mem_append] at h
    simp only [pureE]
    split
    · split
      · rename_i x y hxy
        have hx : x ∈ c.args := Array.mem_toList_iff.1 (by simp [hxy])
        have hy : y ∈ c.args := Array.mem_toList_iff.1 (by simp [hxy])
        exact gE_congr (h x (.inr hx)) fun _ => gE_congr (h y (.inr hy)) fun _ => rfl
      · rfl
    · split
      · rename_i x y hxy
        have hx : x ∈ c.args := Array.mem_toList_iff.1 (by simp [hxy])
        have hy : y ∈ c.args := Array.mem_toList_iff.1 (by simp [hxy])
        exact gE_congr (h x (.inr hx)) fun _ => gE_congr (h y (.inr hy)) fun _ => rfl
      · rfl
    · rfl
theorem readE_congr (h : ∀ x ∈ op.operands, g x = g' x) (H : Tr AObj) (fx : Facts) : readE cx g op H fx = readE cx g' op H fx := by
  cases op <;> first
    | rfl
    | (simp only [Op.operands, List.mem_toArray, List.mem_cons, List.not_mem_nil, or_false, forall_eq_or_imp, forall_eq] at h
       simp only [readE, gE, h]; done)
    | skip
  case call c =>
    simp only [Op.operands, Call.operands, Array.mem_append] at h
    simp only [readE]
    split
    · split
      · rename_i x t hx1 ht1
        have hx : x ∈ c.args := Array.mem_toList_iff.1 (by simp [hx1])
        exact gE_congr (h x (.inr hx)) fun _ => rfl
      · rfl
    · rfl
theorem allocE_congr (h : ∀ x ∈ op.operands, g x = g' x) (fx : Facts) : allocE cx g op fx = allocE cx g' op fx := by
  cases op <;> first
    | rfl
    | (simp only [Op.operands, List.mem_toArray, List.mem_cons, List.not_mem_nil, or_false, forall_eq_or_imp, forall_eq] at h
       simp only [allocE, gE, h]; done)
    | skip
  case buildSlice t n ps =>
    simp only [allocE]
    rw [partsE_congr (g' := g') fun p hp => h p.2 (by simp only [Op.operands, List.mem_toArray]; exact List.mem_map_of_mem hp)]
theorem writeE_congr (h : ∀ x ∈ op.operands, g x = g' x) (st : St) : writeE cx g op st = writeE cx g' op st := by
  cases op <;> first
    | rfl
    | (simp only [Op.operands, List.mem_toArray, List.mem_cons, List.not_mem_nil, or_false, forall_eq_or_imp, forall_eq] at h
       simp only [writeE, gE, h]; done)
    | skip
  case call c =>
    simp only [Op.operands, Call.operands, Array.mem_append] at h
    simp only [writeE]
    split
    · split
      · rename_i x t hx1 ht1
        have hx : x ∈ c.args := Array.mem_toList_iff.1 (by simp [hx1])
        exact gE_congr (h x (.inr hx)) fun _ => rfl
      · rfl
    all_goals first
      | rfl
      | (split
         · rename_i x y t u hx1 ht1
           have hx : x ∈ c.args := Array.mem_toList_iff.1 (by simp [hx1])
           have hy : y ∈ c.args := Array.mem_toList_iff.1 (by simp [hx1])
           exact gE_congr (h x (.inr hx)) fun _ => gE_congr (h y (.inr hy)) fun _ => rfl
         · rfl)
theorem callE_congr {cf : CallF} {c : Call} (h : ∀ x ∈ c.operands, g x = g' x) (st : St) : callE cx cf g c st = callE cx cf g' c st := by
  unfold callE
  simp only [Call.operands, Array.mem_append] at h
  rw [lopt_congr (f' := g') (l := c.args.toList) fun x hx => h x (.inr (Array.mem_toList_iff.1 hx))]
  congr 1
  funext args
  split
  · rename_i f hc
    exact gE_congr (h f (.inl (by rw [hc]; simp))) fun _ => rfl
  · rename_i r name hc
    exact gE_congr (h r (.inl (by rw [hc]; simp))) fun _ => rfl
  · rfl
theorem opE_congr {cf : CallF} {cl : Nat} (h : ∀ x ∈ op.operands, g x = g' x) (st : St) : opE cx cf g cl op st = opE cx cf g' cl op st := by
  unfold opE
  split
  · rw [pureE_congr h]
  · rw [readE_congr h]
  · rw [allocE_congr h]
  · rw [writeE_congr h]
  · split
    · rw [callE_congr (g' := g') h]
    · rfl
  · rfl
end

mutual
theorem AV.same_eq : ∀ (a b : AV), AV.same a b = true → a = b
  | .bool a, b, h => by cases b <;> simp [AV.same] at h; rw [h]
  | .int k s, b, h => by
    cases b <;> simp [AV.same] at h
    rw [kid_inj h.1, Tm.same_eq h.2]
  | .str s, b, h => by cases b <;> simp [AV.same] at h; rw [STm.same_eq h]
  | .ptr i o, b, h => by
    cases b <;> simp [AV.same] at h
    rw [h.1, h.2]
  | .nilp, b, h => by cases b <;> simp [AV.same] at h; rfl
  | .slice a1 a2 a3 a4 a5 a6, b, h => by
    cases b <;> simp [AV.same] at h
    obtain ⟨⟨⟨⟨⟨h1, h2⟩, h3⟩, h4⟩, h5⟩, h6⟩ := h
    rw [h1, h2, h3, h4, h5, h6]
  | .nils, b, h => by cases b <;> simp [AV.same] at h; rfl
  | .map i, b, h => by cases b <;> simp [AV.same] at h; rw [h]
  | .nilm, b, h => by cases b <;> simp [AV.same] at h; rfl
  | .func f x y, b, h => by
    cases b <;> simp [AV.same] at h
    rw [h.1.1, sames_eq _ _ h.1.2, sames_eq _ _ h.2]
  | .meth f x y, b, h => by
    cases b <;> simp [AV.same] at h
    rw [h.1.1, sames_eq _ _ h.1.2, sames_eq _ _ h.2]
  | .nilf, b, h => by cases b <;> simp [AV.same] at h; rfl
  | .iface t v, b, h => by
    cases b <;> simp [AV.same] at h
    rw [h.1, AV.same_eq _ _ h.2]
  | .nili, b, h => by cases b <;> simp [AV.same] at h; rfl
  | .agg x, b, h => by cases b <;> simp [AV.same] at h; rw [sames_eq _ _ h]
  | .tuple x, b, h => by cases b <;> simp [AV.same] at h; rw [sames_eq _ _ h]
  | .yield x, b, h => by simp [AV.same] at h
  | .opq i, b, h => by cases b <;> simp [AV.same] at h; rw [h]
  | .fsl g i, b, h => by cases b <;> simp [AV.same] at h; rw [h.1, h.2]
  | .fptr g i j, b, h => by cases b <;> simp [AV.same] at h; rw [h.1.1, h.1.2, Tm.same_eq h.2]
theorem sames_eq : ∀ (a b : List AV), sames a b = true → a = b
  | [], [], _ => rfl
  | [], _ :: _, h => by simp [sames] at h
  | _ :: _, [], h => by simp [sames] at h
  | a :: x, b :: y, h => by
    simp [sames] at h
    rw [AV.same_eq _ _ h.1, sames_eq _ _ h.2]
end
end Ab

/- E, part 24: masks, and what a plan's look at itself shows. -/
namespace Ab
open Go

theorem bit_eq (m i : Nat) : bit m i = m.testBit i := by
  rw [Bool.eq_iff_iff, Nat.testBit_eq_decide_div_mod_eq, decide_eq_true_iff]
  unfold bit
  rw [show Nat.land (Nat.shiftRight m i) 1 = (m >>> i) &&& 1 from rfl, Nat.and_one_is_mod, Nat.shiftRight_eq_div_pow]
  exact ⟨Nat.eq_of_beq_eq_true, fun h => by rw [h]; rfl⟩
theorem bit_lor (a b i : Nat) : bit (Nat.lor a b) i = (bit a i || bit b i) := by
  rw [bit_eq, bit_eq, bit_eq]
  exact Nat.testBit_or _ _ _
theorem bit_land (a b i : Nat) : bit (Nat.land a b) i = (bit a i && bit b i) := by
  rw [bit_eq, bit_eq, bit_eq]
  exact Nat.testBit_and _ _ _
theorem bit_pow (j i : Nat) : bit (Nat.pow 2 j) i = true ↔ j = i := by
  rw [bit_eq, show Nat.pow 2 j = 2 ^ j from rfl, Nat.testBit_two_pow, decide_eq_true_iff]
theorem bit_zero (i : Nat) : bit 0 i = false := by
  rw [bit_eq, Nat.zero_testBit]
theorem bit_full (n i : Nat) (h : i < n) : bit (Nat.sub (Nat.pow 2 n) 1) i = true := by
  rw [bit_eq]
  show (2 ^ n - 1).testBit i = true
  rw [Nat.testBit_two_pow_sub_one]
  simp [h]

theorem maskOf_nil (bs : Tr Nat) : maskOf bs [] = 0 := rfl
theorem maskOf_cons (bs : Tr Nat) (e : Edge) (es : List Edge) : maskOf bs (e :: es) = bif bindsAny e then Nat.lor (maskOf bs es) (Nat.lor (Nat.pow 2 e.on) (bget bs e.on)) else maskOf bs es := rfl
theorem bit_maskOf {bs : Tr Nat} {j : Nat} : ∀ {es : List Edge}, bit (maskOf bs es) j = true → ∃ e ∈ es, bindsAny e = true ∧ (e.on = j ∨ bit (bget bs e.on) j = true)
  | [], h => by rw [maskOf_nil, bit_zero] at h; cases h
  | e :: es, h => by
    rw [maskOf_cons] at h
    cases hb : bindsAny e with
    | false =>
      rw [hb, cond_false] at h
      obtain ⟨e', h1, h2⟩ := bit_maskOf h
      exact ⟨e', by simp [h1], h2⟩
    | true =>
      rw [hb, cond_true, bit_lor, bit_lor, Bool.or_eq_true, Bool.or_eq_true] at h
      rcases h with h | h | h
      · obtain ⟨e', h1, h2⟩ := bit_maskOf h
        exact ⟨e', by simp [h1], h2⟩
      · exact ⟨e, by simp, hb, .inl ((bit_pow _ _).1 h)⟩
      · exact ⟨e, by simp, hb, .inr h⟩
theorem masks_cons (o : Oper) (ops : List Oper) (i : Nat) (bs : Tr Nat) : masks (o :: ops) i bs = masks ops (i + 1) (bs.set i (maskOf bs o.after.toList)) := rfl
theorem masks_spec : ∀ (ops : List Oper) (i : Nat) (bs : Tr Nat), (∀ j, j < i → (masks ops i bs).get j = bs.get j) ∧
    ∀ k o, ops[k]? = some o → ∃ B', (∀ j, j < i + k → B'.get j = (masks ops i bs).get j) ∧ (masks ops i bs).get (i + k) = some (maskOf B' o.after.toList)
  | [], i, bs => ⟨fun _ _ => rfl, by simp⟩
  | o :: ops, i, bs => by
    obtain ⟨h1, h2⟩ := masks_spec ops (i + 1) (bs.set i (maskOf bs o.after.toList))
    rw [masks_cons]
    have hlow : ∀ j, j < i → (masks ops (i + 1) (bs.set i (maskOf bs o.after.toList))).get j = bs.get j := fun j hj => by
      rw [h1 j (by omega), Tr.get_set_ne _ _ (by omega)]
    refine ⟨hlow, fun k o' hk => ?_⟩
    cases k with
    | zero =>
      simp at hk
      subst hk
      refine ⟨bs, fun j hj => (hlow j (by omega)).symm, ?_⟩
      exact (h1 i (by omega)).trans (Tr.get_set_same _ _ _)
    | succ k =>
      obtain ⟨B', h3, h4⟩ := h2 k o' (by simpa using hk)
      rw [show i + (k + 1) = i + 1 + k by omega]
      exact ⟨B', h3, h4⟩
theorem bget_congr {A B : Tr Nat} {i : Nat} (h : A.get i = B.get i) : bget A i = bget B i := by unfold bget; rw [h]
theorem edgesOk_cons (i : Nat) (e : Edge) (es : List Edge) : edgesOk i (e :: es) = bif bindsAny e then (bif Nat.ble (Nat.succ e.on) i then edgesOk i es else false) else edgesOk i es := rfl
theorem edgesOk_spec {i : Nat} : ∀ {es : List Edge}, edgesOk i es = true → ∀ e ∈ es, bindsAny e = true → e.on < i
  | [], _ => by simp
  | e :: es, h => by
    rw [edgesOk_cons] at h
    intro e' he hb
    cases hbe : bindsAny e with
    | false =>
      rw [hbe, cond_false] at h
      rcases List.mem_cons.1 he with rfl | he
      · rw [hb] at hbe; cases hbe
      · exact edgesOk_spec h e' he hb
    | true =>
      rw [hbe, cond_true] at h
      cases hl : Nat.ble (Nat.succ e.on) i with
      | false => rw [hl, cond_false] at h; cases h
      | true =>
        rw [hl, cond_true] at h
        rcases List.mem_cons.1 he with rfl | he
        · exact Nat.le_of_ble_eq_true hl
        · exact edgesOk_spec h e' he hb
theorem namesOk_cons (bs dt : Tr Nat) (j : Nat) (t : Tmp) (l : List Tmp) : namesOk bs dt j (t :: l) = match dt.get t with
    | none => namesOk bs dt j l
    | some i => bif Nat.beq i j then false else bif bit (bget bs j) i then namesOk bs dt j l else bif bit (bget bs i) j then namesOk bs dt j l else false := rfl
theorem namesOk_spec {bs dt : Tr Nat} {j : Nat} : ∀ {l : List Tmp}, namesOk bs dt j l = true → ∀ t ∈ l, ∀ i, dt.get t = some i → i ≠ j ∧ (bit (bget bs j) i = true ∨ bit (bget bs i) j = true)
  | [], _ => by simp
  | t :: l, h => by
    rw [namesOk_cons] at h
    intro t' ht i hi
    have rest : namesOk bs dt j l = true ∧ (∀ i, dt.get t = some i → i ≠ j ∧ (bit (bget bs j) i = true ∨ bit (bget bs i) j = true)) := by
      split at h
      · rename_i hn
        exact ⟨h, fun i hi => by rw [hn] at hi; cases hi⟩
      · rename_i i' hi'
        cases h1 : Nat.beq i' j with
        | true => rw [h1, cond_true] at h; cases h
        | false =>
          rw [h1, cond_false] at h
          have hne := beq_false' h1
          cases h2 : bit (bget bs j) i' with
          | true =>
            rw [h2, cond_true] at h
            exact ⟨h, fun i hi => by rw [hi'] at hi; simp at hi; subst hi; exact ⟨hne, .inl h2⟩⟩
          | false =>
            rw [h2, cond_false] at h
            cases h3 : bit (bget bs i') j with
            | true =>
              rw [h3, cond_true] at h
              exact ⟨h, fun i hi => by rw [hi'] at hi; simp at hi; subst hi; exact ⟨hne, .inr h3⟩⟩
            | false => rw [h3, cond_false] at h; cases h
    rcases List.mem_cons.1 ht with rfl | ht
    · exact rest.2 i hi
    · exact namesOk_spec rest.1 t' ht i hi
theorem opsOk_cons (ops : List Oper) (bs dt : Tr Nat) (o : Oper) (l : List Oper) (i : Nat) : opsOk ops bs dt (o :: l) i = bif edgesOk i o.after.toList then (bif namesOk bs dt i (namesOf ops o) then opsOk ops bs dt l (i + 1) else false) else false := rfl
theorem opsOk_spec {ops : List Oper} {bs dt : Tr Nat} : ∀ {l : List Oper} {i : Nat}, opsOk ops bs dt l i = true → ∀ k o, l[k]? = some o → edgesOk (i + k) o.after.toList = true ∧ namesOk bs dt (i + k) (namesOf ops o) = true
  | [], _, _ => by simp
  | o :: l, i, h => by
    rw [opsOk_cons] at h
    cases h1 : edgesOk i o.after.toList with
    | false => rw [h1, cond_false] at h; cases h
    | true =>
      rw [h1, cond_true] at h
      cases h2 : namesOk bs dt i (namesOf ops o) with
      | false => rw [h2, cond_false] at h; cases h
      | true =>
        rw [h2, cond_true] at h
        intro k o' hk
        cases k with
        | zero => simp at hk; subst hk; exact ⟨h1, h2⟩
        | succ k =>
          rw [show i + (k + 1) = i + 1 + k by omega]
          exact opsOk_spec h k o' (by simpa using hk)
theorem dsts_spec : ∀ (l : List Oper) (i : Nat) (t T : Tr Nat), dsts l i t = some T → (∀ d j, t.get d = some j → T.get d = some j) ∧
    (∀ k o d, l[k]? = some o → o.dst = some d → T.get d = some (i + k)) ∧ (∀ d j, T.get d = some j → t.get d = some j ∨ ∃ k o, l[k]? = some o ∧ o.dst = some d ∧ j = i + k)
  | [], i, t, T, h => by
    have h : some t = some T := h
    simp at h
    subst h
    exact ⟨fun _ _ h => h, by simp, fun _ _ h => .inl h⟩
  | o :: l, i, t, T, h => by
    have h : (match o.dst with
      | none => dsts l (i + 1) t
      | some d => match t.get d with
        | none => dsts l (i + 1) (t.set d i)
        | some _ => none) = some T := h
    cases hd : o.dst with
    | none =>
      rw [hd] at h
      obtain ⟨h1, h2, h3⟩ := dsts_spec l (i + 1) t T h
      refine ⟨h1, fun k o' d hk hd' => ?_, fun d j hj => ?_⟩
      · cases k with
        | zero => simp at hk; subst hk; rw [hd] at hd'; cases hd'
        | succ k => rw [show i + (k + 1) = i + 1 + k by omega]; exact h2 k o' d (by simpa using hk) hd'
      · rcases h3 d j hj with h | ⟨k, o', hk, hd', rfl⟩
        · exact .inl h
        · exact .inr ⟨k + 1, o', by simpa using hk, hd', by omega⟩
    | some d0 =>
      rw [hd] at h
      simp only at h
      cases ht : t.get d0 with
      | some x => rw [ht] at h; cases h
      | none =>
        rw [ht] at h
        simp only at h
        obtain ⟨h1, h2, h3⟩ := dsts_spec l (i + 1) _ T h
        refine ⟨fun d j hj => h1 d j (by rw [Tr.get_set_ne _ _ (fun hh => by rw [hh, ht] at hj; cases hj)]; exact hj), fun k o' d hk hd' => ?_, fun d j hj => ?_⟩
        · cases k with
          | zero =>
            simp at hk
            subst hk
            rw [hd] at hd'
            simp at hd'
            subst hd'
            exact h1 _ _ (by rw [Tr.get_set_same]; rfl)
          | succ k => rw [show i + (k + 1) = i + 1 + k by omega]; exact h2 k o' d (by simpa using hk) hd'
        · rcases h3 d j hj with h | ⟨k, o', hk, hd', rfl⟩
          · rw [Tr.get_set] at h
            split at h
            · rename_i e
              simp at h
              subst h
              subst e
              exact .inr ⟨0, o, rfl, hd, rfl⟩
            · exact .inl h
          · exact .inr ⟨k + 1, o', by simpa using hk, hd', by omega⟩

/-! ## Steps -/
def FromOps (cx : Ctx) (ops : List Oper) (s : Step) : Prop := ops[s.i]? = some s.o ∧ s.c = cls cx s.o.op
theorem steps0_from {cx : Ctx} {ops : List Oper} : ∀ (l : List Oper) (i : Nat), (∀ k o, l[k]? = some o → ops[i + k]? = some o) → ∀ s ∈ steps0 cx l i, FromOps cx ops s
  | [], _, _ => by intro s hs; cases hs
  | o :: l, i, h => by
    intro s hs
    have e : steps0 cx (o :: l) i = ⟨i, o, cls cx o.op, 0⟩ :: steps0 cx l (i + 1) := rfl
    rw [e] at hs
    rcases List.mem_cons.1 hs with rfl | hs
    · exact ⟨h 0 o rfl, rfl⟩
    · exact steps0_from l (i + 1) (fun k o' hk => by rw [show i + 1 + k = i + (k + 1) by omega]; exact h (k + 1) o' (by simpa using hk)) s hs
theorem writers_sub {l : List Step} : ∀ s ∈ writers l, s ∈ l := by
  induction l with
  | nil => intro s hs; cases hs
  | cons x l ih =>
    intro s hs
    have e : writers (x :: l) = bif Nat.ble 3 x.c then x :: writers l else writers l := rfl
    rw [e] at hs
    cases hb : Nat.ble 3 x.c with
    | true =>
      rw [hb, cond_true] at hs
      rcases List.mem_cons.1 hs with rfl | hs
      · simp
      · simp [ih s hs]
    | false => rw [hb, cond_false] at hs; simp [ih s hs]
theorem take_from {cx : Ctx} {ops : List Oper} {bs : Tr Nat} {ws : List Step} {ph m done : Nat} : ∀ {l : List Step}, (∀ s ∈ l, FromOps cx ops s) → ∀ s ∈ take bs ws ph m done l, FromOps cx ops s := by
  intro l
  induction l with
  | nil => intro _ s hs; cases hs
  | cons x l ih =>
    intro h s hs
    have ih := ih (fun s hs => h s (by simp [hs]))
    have e : take bs ws ph m done (x :: l) = bif Nat.ble 3 x.c then take bs ws ph m done l else bif bit done x.i then take bs ws ph m done l else bif bit m x.i then
      ⟨x.i, x.o, x.c, Nat.sub ph (countIn (bget bs x.i) ws)⟩ :: take bs ws ph m done l else take bs ws ph m done l := rfl
    rw [e] at hs
    cases h1 : Nat.ble 3 x.c with
    | true => rw [h1, cond_true] at hs; exact ih s hs
    | false =>
      rw [h1, cond_false] at hs
      cases h2 : bit done x.i with
      | true => rw [h2, cond_true] at hs; exact ih s hs
      | false =>
        rw [h2, cond_false] at hs
        cases h3 : bit m x.i with
        | false => rw [h3, cond_false] at hs; exact ih s hs
        | true =>
          rw [h3, cond_true] at hs
          rcases List.mem_cons.1 hs with rfl | hs
          · exact h x (by simp)
          · exact ih s hs
theorem order_from {cx : Ctx} {ops : List Oper} {bs : Tr Nat} {all ws : List Step} (ha : ∀ s ∈ all, FromOps cx ops s) : ∀ {rest : List Step}, (∀ s ∈ rest, FromOps cx ops s) → ∀ ph done, ∀ s ∈ order bs all ws rest ph done, FromOps cx ops s := by
  intro rest
  induction rest with
  | nil => intro _ ph done s hs; exact take_from ha s hs
  | cons x rest ih =>
    intro h ph done s hs
    have e : order bs all ws (x :: rest) ph done = lapp (take bs ws ph (bget bs x.i) done all) (x :: order bs all ws rest (ph + 1) (Nat.lor done (bget bs x.i))) := rfl
    rw [e, lapp_eq] at hs
    rcases List.mem_append.1 hs with hs | hs
    · exact take_from ha s hs
    · rcases List.mem_cons.1 hs with rfl | hs
      · exact h s (by simp)
      · exact ih (fun s hs => h s (by simp [hs])) _ _ s hs

/-! ## The plan's look at itself -/
def doneAt : List Step → Nat → Nat → Nat
  | _, done, 0 => done
  | [], done, _ + 1 => done
  | s :: l, done, k + 1 => doneAt l (Nat.lor done (Nat.pow 2 s.i)) k
def wlAt : List Step → List Nat → Nat → List Nat
  | _, wl, 0 => wl
  | [], wl, _ + 1 => wl
  | s :: l, wl, k + 1 => wlAt l (if 3 ≤ s.c then s.i :: wl else wl) k
theorem bit_doneAt : ∀ (l : List Step) (done k j : Nat), bit (doneAt l done k) j = true ↔ bit done j = true ∨ ∃ k' s, k' < k ∧ l[k']? = some s ∧ s.i = j
  | [], done, 0, j => by simp [doneAt]
  | [], done, k + 1, j => by simp [doneAt]
  | s :: l, done, 0, j => by simp [doneAt]
  | s :: l, done, k + 1, j => by
    rw [doneAt, bit_doneAt l _ k j, bit_lor, Bool.or_eq_true, bit_pow]
    constructor
    · rintro ((h | h) | ⟨k', s', h1, h2, h3⟩)
      · exact .inl h
      · exact .inr ⟨0, s, by omega, rfl, h⟩
      · exact .inr ⟨k' + 1, s', by omega, by simpa using h2, h3⟩
    · rintro (h | ⟨k', s', h1, h2, h3⟩)
      · exact .inl (.inl h)
      · cases k' with
        | zero => simp at h2; subst h2; exact .inl (.inr h3)
        | succ k' => exact .inr ⟨k', s', by omega, by simpa using h2, h3⟩
theorem okPlan_cons (bs : Tr Nat) (full : Nat) (s : Step) (l : List Step) (done : Nat) (wl : List Nat) : okPlan bs full (s :: l) done wl =
    bif bit done s.i then false else bif Nat.beq (Nat.land (bget bs s.i) done) (bget bs s.i) then
      (bif Nat.ble 3 s.c then (bif Nat.beq (bget bs s.i) done then okPlan bs full l (Nat.lor done (Nat.pow 2 s.i)) (s.i :: wl) else false)
        else (bif Nat.ble (countOut (bget bs s.i) wl) s.d then okPlan bs full l (Nat.lor done (Nat.pow 2 s.i)) wl else false)) else false := rfl
theorem okPlan_spec {bs : Tr Nat} {full : Nat} : ∀ {l : List Step} {done : Nat} {wl : List Nat}, okPlan bs full l done wl = true →
    (∀ k s, l[k]? = some s → bit (doneAt l done k) s.i = false ∧ (∀ j, bit (bget bs s.i) j = true → bit (doneAt l done k) j = true) ∧
      (3 ≤ s.c → ∀ j, bit (doneAt l done k) j = true → bit (bget bs s.i) j = true) ∧ (s.c < 3 → countOut (bget bs s.i) (wlAt l wl k) ≤ s.d)) ∧ doneAt l done l.length = full
  | [], done, wl, h => ⟨by simp, Nat.eq_of_beq_eq_true h⟩
  | s :: l, done, wl, h => by
    rw [okPlan_cons] at h
    cases h1 : bit done s.i with
    | true => rw [h1, cond_true] at h; cases h
    | false =>
      rw [h1, cond_false] at h
      cases h2 : Nat.beq (Nat.land (bget bs s.i) done) (bget bs s.i) with
      | false => rw [h2, cond_false] at h; cases h
      | true =>
        rw [h2, cond_true] at h
        have h2 := Nat.eq_of_beq_eq_true h2
        have hsub : ∀ j, bit (bget bs s.i) j = true → bit done j = true := fun j hj => by
          rw [← h2, bit_land, Bool.and_eq_true] at hj
          exact hj.2
        cases h3 : Nat.ble 3 s.c with
        | true =>
          rw [h3, cond_true] at h
          have h3 := Nat.le_of_ble_eq_true h3
          cases h4 : Nat.beq (bget bs s.i) done with
          | false => rw [h4, cond_false] at h; cases h
          | true =>
            rw [h4, cond_true] at h
            have h4 := Nat.eq_of_beq_eq_true h4
            obtain ⟨r1, r2⟩ := okPlan_spec h
            refine ⟨fun k s' hk => ?_, r2⟩
            cases k with
            | zero =>
              simp at hk
              subst hk
              exact ⟨h1, hsub, fun _ j hj => by rw [h4]; exact hj, fun hh => by omega⟩
            | succ k =>
              have := r1 k s' (by simpa using hk)
              simp only [doneAt, wlAt, if_pos h3]
              exact this
        | false =>
          rw [h3, cond_false] at h
          have h3 := ble_false h3
          cases h4 : Nat.ble (countOut (bget bs s.i) wl) s.d with
          | false => rw [h4, cond_false] at h; cases h
          | true =>
            rw [h4, cond_true] at h
            obtain ⟨r1, r2⟩ := okPlan_spec h
            refine ⟨fun k s' hk => ?_, r2⟩
            cases k with
            | zero =>
              simp at hk
              subst hk
              exact ⟨h1, hsub, fun hh => by omega, fun _ => Nat.le_of_ble_eq_true h4⟩
            | succ k =>
              have := r1 k s' (by simpa using hk)
              simp only [doneAt, wlAt, if_neg (show ¬ 3 ≤ s.c by omega)]
              exact this
theorem countOut_new {m : Nat} : ∀ (new wl : List Nat), (∀ i ∈ new, bit m i = false) → new.length ≤ countOut m (new ++ wl)
  | [], wl, _ => Nat.zero_le _
  | i :: new, wl, h => by
    have e : countOut m (i :: (new ++ wl)) = bif bit m i then countOut m (new ++ wl) else Nat.succ (countOut m (new ++ wl)) := rfl
    rw [List.cons_append, e, h i (by simp), cond_false]
    exact Nat.succ_le_succ (countOut_new new wl (fun j hj => h j (by simp [hj])))
end Ab
