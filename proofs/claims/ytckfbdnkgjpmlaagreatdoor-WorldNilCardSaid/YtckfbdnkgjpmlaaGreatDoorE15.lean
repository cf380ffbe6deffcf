/- E, part 15: operations that write: variables, maps. -/
import Derived.Test.YtckfbdnkgjpmlaaGreatDoorE14
namespace Ab
open Go

variable {P : Program} {cx : Ctx} {ρ : Env}

theorem ret1_at {α : Type} {a a' : α} (h : (T.ret a).at_ ρ = some a') : a' = a := by
  simp [T.at_ret] at h
  exact h.symm
theorem stE_at {x : T St} {v : AV} {st' : St} (h : (stE x).at_ ρ = some (v, st')) : v = undefA ∧ x.at_ ρ = some st' := by
  unfold stE at h
  replace h := T.at_bind_some.1 h
  obtain ⟨s, hs, h⟩ := h
  replace h := ret_at h
  exact ⟨h.1, h.2 ▸ hs⟩
theorem conc_undefA (L : Nat → Loc) : undef = conc L ρ undefA := rfl
theorem fx_same {st : St} : (⟨st.H, st.nx, st.fx⟩ : St) = st := by cases st; rfl

theorem storeE_sound (ok : cx.Ok P) {st st' : St} {t : TypeId} {av xv : AV} (hx : FxOk ρ st.fx) (h : (storeE cx st t av xv).at_ ρ = some st') {L : Nat → Loc} {w : World}
    (hs : ∀ L', Agree st.nx L L' → Sim L' ρ st.H w) {x1 x2 : Value} (h1 : ∀ L', Agree st.nx L L' → x1 = conc L' ρ av) (h2 : ∀ L', Agree st.nx L L' → x2 = conc L' ρ xv) :
    ∃ w', (Instr.storeAt t x1 x2).run P w = .ok () w' ∧ Turns ρ L st w undefA st' undef w' := by
  unfold storeE at h
  split at h
  case h_2 => simp [T.at_bad] at h
  rename_i id off
  replace h := chk_at h; obtain ⟨hid, h⟩ := h
  have hid := Nat.le_of_ble_eq_true hid
  replace h := tyE_at.1 h; obtain ⟨ti, ht, h⟩ := h
  replace h := withCells_at h; obtain ⟨tr, d, n, el, sz, ho, h⟩ := h
  replace h := chk_at h; obtain ⟨hl, h⟩ := h
  have hl := Nat.eq_of_beq_eq_true hl
  rw [llen_eq] at hl
  replace h := chk_at h; obtain ⟨hone, h⟩ := h
  replace h := chk_at h; obtain ⟨hn, h⟩ := h
  have hn := Nat.le_of_ble_eq_true hn
  replace h := ret1_at h
  subst h
  obtain ⟨w', c, hrun, hp, hob⟩ := put_cells (P := P) hs ho (fun L' ha => ha id hid) (cs := xv.cells) (off := off) ((allOne_iff _).1 hone) (by rw [hl]; exact hn)
    (vs := xv.cells.map (conc L ρ)) (fun L' ha => by
      have e1 := conc_cells L ρ xv
      have e2 := conc_cells L' ρ xv
      rw [← h2 L (Agree.refl _ _)] at e1
      rw [← h2 L' ha, e1] at e2
      exact List.toArray_inj e2)
  have e1 := h1 L (Agree.refl _ _)
  have e2 := h2 L (Agree.refl _ _)
  refine ⟨w', ?_, Turns.put hs hx ho (fun L' ha => by rw [ha id hid]) hp (fun L' ha => rfl) hob⟩
  rw [e1, e2]
  simp only [Instr.storeAt, Sem.run_bind]
  have hsa : (Instr.sureAddr (conc L ρ (.ptr id off))).run P w = .ok ⟨(L id).b, (L id).o + off, none⟩ w := rfl
  rw [hsa]
  simp only [Result.andThen_ok, storeVar, Sem.run_bind, ok.run_size ht]
  have hsz : (conc L ρ xv).cells.size = ti.info.size := by rw [conc_cells]; simp [hl]
  rw [if_neg (by rw [hsz]; simp)]
  rw [conc_cells]
  exact hrun

/-! ## Maps -/
theorem eqOneD_same {q : Nat} {x y : AV} (h : eqOneD ρ q x y = some true) (L : Nat → Loc) (n : Nat) : Instr.sameBits n (conc L ρ y) (conc L ρ x) = true := by
  unfold eqOneD at h
  split at h
  · split at h
    · rename_i hk
      subst hk
      simp at h
      cases n <;> simp [conc, Instr.sameBits, h]
    · cases h
  · simp at h
    cases n <;> simp only [conc, Instr.sameBits, conc_string_beq] <;> simp [h]
  · simp at h
    subst h
    cases n <;> simp [conc, Instr.sameBits]
  · cases h
theorem eqAllD_same : ∀ {qs : List Nat} {xs ys : List AV}, eqAllD ρ qs xs ys = some true → ∀ (L : Nat → Loc) (n : Nat),
    ys.length = xs.length ∧ ((ys.map (conc L ρ)).zip (xs.map (conc L ρ))).all (fun (x, y) => Instr.sameBits n x y) = true := by
  intro qs
  induction qs with
  | nil => intro xs ys h; cases xs <;> cases ys <;> simp [eqAllD] at h ⊢
  | cons q qs ih =>
    intro xs ys h L n
    cases xs <;> cases ys <;> simp only [eqAllD] at h <;> try (cases h)
    rename_i x xs y ys
    cases he : eqOneD ρ q x y with
    | none => simp [he] at h
    | some b =>
      rw [he] at h
      cases b with
      | false => simp at h
      | true =>
        obtain ⟨h1, h2⟩ := ih h L n
        refine ⟨by simp [h1], ?_⟩
        simp only [List.map_cons, List.zip_cons_cons, List.all_cons, eqOneD_same he L n, Bool.true_and]
        exact h2
theorem key_same {ag : Bool} {n : Nat} {qs : List Nat} {x y : AV} (hx : Shaped ag n x) (hy : Shaped ag n y) (h : eqAllD ρ qs x.cells y.cells = some true) (L : Nat → Loc) :
    Instr.sameBits 10000 (conc L ρ y) (conc L ρ x) = true := by
  cases ag with
  | false =>
    rw [hx.cells_false, hy.cells_false] at h
    obtain ⟨q, rfl⟩ : ∃ q, qs = [q] := by
      match qs, h with
      | [q], _ => exact ⟨q, rfl⟩
      | [], h => simp [eqAllD] at h
      | q :: q' :: qs, h =>
        simp only [eqAllD] at h
        split at h <;> first | (simp at h; done) | cases h
    exact eqOneD_same (eqAllD_one h) L _
  | true =>
    cases x <;> simp [Shaped] at hx
    cases y <;> simp [Shaped] at hy
    rename_i xs ys
    obtain ⟨h1, h2⟩ := eqAllD_same (xs := xs) (ys := ys) h L 9999
    rw [conc_agg, conc_agg]
    show (((ys.map (conc L ρ)).toArray.size == (xs.map (conc L ρ)).toArray.size) && ((ys.map (conc L ρ)).toArray.toList.zip (xs.map (conc L ρ)).toArray.toList).all fun (x, y) => Instr.sameBits 9999 x y) = true
    simp only [List.size_toArray, List.length_map, h1, beq_self_eq_true, Bool.true_and]
    exact h2
theorem run_setObj {w : World} {r : Nat} {o o' : Obj} (h : w.heap[r]? = some o) (hc : notCells o = true) : (setObj r o').run P w = .ok () { w with heap := w.heap.setIfInBounds r o' } := by
  simp only [setObj, Sem.run, h]
  cases o <;> first | rfl | (simp [notCells] at hc)

theorem mapSetE_sound (ok : cx.Ok P) {st st' : St} {t : TypeId} {mv kv xv : AV} (hx : FxOk ρ st.fx) (h : (mapSetE cx st t mv kv xv).at_ ρ = some st') {L : Nat → Loc} {w : World}
    (hs : ∀ L', Agree st.nx L L' → Sim L' ρ st.H w) {m k x : Value} (h1 : ∀ L', Agree st.nx L L' → m = conc L' ρ mv) (h2 : ∀ L', Agree st.nx L L' → k = conc L' ρ kv) (h3 : ∀ L', Agree st.nx L L' → x = conc L' ρ xv) :
    ∃ w', (Instr.mapUpdate t m k x).run P w = .ok () w' ∧ Turns ρ L st w undefA st' undef w' := by
  unfold mapSetE at h
  replace h := tyE_at.1 h; obtain ⟨ti, ht, h⟩ := h
  have hd := ok.desc _ _ ht
  split at h
  case h_2 => simp [T.at_bad] at h
  rename_i kt el hdd
  rw [hdd] at hd
  replace h := tyE_at.1 h; obtain ⟨ki, hki, h⟩ := h
  replace h := T.at_opt_some.1 h; obtain ⟨qs, hqs, h⟩ := h
  replace h := chk_at h; obtain ⟨hsh, h⟩ := h
  split at h
  case h_2 => simp [T.at_bad] at h
  rename_i id
  replace h := chk_at h; obtain ⟨hid, h⟩ := h
  have hid := Nat.le_of_ble_eq_true hid
  replace h := withMap_at h; obtain ⟨es, ck, ho, h⟩ := h
  replace h := T.at_bind_some.1 h
  obtain ⟨⟨r, fx1⟩, hf, h⟩ := h
  obtain ⟨hx1, hrf, hre⟩ := findKey_sound ok hki hqs hx hf
  have hkk := hqs
  rw [ok.kinds _ _ hki] at hkk
  have hag := agg_struct ok hki hqs
  have hshp := shapeOk_iff hsh (fun ha => by
    rcases kindsT_agg hkk with ⟨_, _, rfl⟩ | ⟨_, rfl⟩ | ⟨_, rfl⟩ | ⟨_, fs, _, hu, _, _⟩
    · rfl
    · rfl
    · rfl
    · rw [hag.2 ⟨fs, hu⟩] at ha; cases ha)
  have hck : (Instr.checkKey false 10000 kt (conc L ρ kv)).run P w = .ok () w := run_checkKey_kinds 8 10000 kt qs hkk (by omega) L kv w ki.agg false hag hshp
  have hm := (hs L (Agree.refl _ _)).map ho
  have hgo := run_getObj (P := P) hm rfl
  have e1 := h1 L (Agree.refl _ _)
  have e2 := h2 L (Agree.refl _ _)
  have e3 := h3 L (Agree.refl _ _)
  have concE_eq : ∀ L', Agree st.nx L L' → es.map (concE L' ρ) = es.map (concE L ρ) := fun L' ha => by
    have a1 := (hs L' ha).map ho
    rw [ha id hid, hm] at a1
    simp only [Option.some.injEq, Obj.map.injEq, and_true] at a1
    exact (List.toArray_inj a1).symm
  cases r with
  | none =>
    replace h := ret1_at h
    subst h
    refine ⟨_, ?_, Turns.put (c := .map ((es.map (concE L ρ)).toArray.push { key := conc L ρ kv, val := conc L ρ xv, born := ck }) (ck + 1)) hs hx1 ho (fun L' ha => by rw [ha id hid]) (WPut.set hm) (fun L' ha => rfl) (fun L' ha => ?_)⟩
    · rw [e1, e2, e3]
      simp only [Instr.mapUpdate, Sem.run_bind, run_underlying hd, Result.andThen_ok, conc, hgo, hck, hrf L w, concF, Option.map]
      exact run_setObj hm rfl
    · rw [ha id hid]
      show (w.heap.setIfInBounds _ _)[_]? = _
      rw [Array.getElem?_setIfInBounds_self_of_lt (lt_of_some hm)]
      rw [lapp_eq, List.map_append, ← h2 L' ha |>.symm.trans e2, ← (h3 L' ha).symm.trans e3, ← concE_eq L' ha]
      simp [concE]
  | some p =>
    obtain ⟨j, u⟩ := p
    replace h := ret1_at h
    subst h
    obtain ⟨e, he, _, s1, s2, heq⟩ := hre j u rfl
    have hks := key_same s1 s2 heq L
    refine ⟨_, ?_, Turns.put (c := .map ((es.map (concE L ρ)).toArray.modify j fun e => { e with key := conc L ρ kv, val := conc L ρ xv }) ck) hs hx1 ho (fun L' ha => by rw [ha id hid]) (WPut.set hm) (fun L' ha => rfl) (fun L' ha => ?_)⟩
    · rw [e1, e2, e3]
      simp only [Instr.mapUpdate, Sem.run_bind, run_underlying hd, Result.andThen_ok, conc, hgo, hck, hrf L w, concF, Option.map_some]
      have hkt : (Instr.keyThatStays ((((es.map (concE L ρ)).toArray[j]?).map (·.key)).getD (conc L ρ kv)) (conc L ρ kv)).run P w = .ok (conc L ρ kv) w := by
        have : (((es.map (concE L ρ)).toArray[j]?).map (·.key)).getD (conc L ρ kv) = conc L ρ e.1 := by simp [he, concE]
        rw [this]
        unfold Instr.keyThatStays
        rw [if_pos hks]
        rfl
      rw [hkt]
      exact run_setObj hm rfl
    · rw [ha id hid]
      show (w.heap.setIfInBounds _ _)[_]? = _
      rw [Array.getElem?_setIfInBounds_self_of_lt (lt_of_some hm)]
      congr 2
      have hlt : j < es.length := by
        rcases Nat.lt_or_ge j es.length with hh | hh
        · exact hh
        · rw [List.getElem?_eq_none hh] at he; cases he
      have hu : updEntry es j kv xv = es.set j (kv, xv, e.2.2) := by
        unfold updEntry
        rw [lget_eq, he]
        exact lset_eq _ _ _
      rw [hu]
      apply Array.ext_getElem?
      intro i
      rw [Array.getElem?_modify]
      simp only [List.getElem?_toArray, List.getElem?_map]
      rw [show (es[i]?).map (concE L ρ) = (es[i]?).map (concE L' ρ) by rw [← List.getElem?_map, ← List.getElem?_map, concE_eq L' ha]]
      by_cases hi : j = i
      · subst hi
        rw [if_pos rfl, List.getElem?_set_self hlt, he]
        simp only [Option.map_some, ← e2, ← e3, h2 L' ha, h3 L' ha]
        rfl
      · rw [if_neg hi, List.getElem?_set_ne hi]
        rfl
end Ab
