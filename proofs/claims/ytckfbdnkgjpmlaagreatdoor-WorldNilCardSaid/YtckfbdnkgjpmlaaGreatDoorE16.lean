/- E, part 16: delete, clear, copy. -/
import Derived.Test.YtckfbdnkgjpmlaaGreatDoorE15
namespace Ab
open Go

variable {P : Program} {cx : Ctx} {ρ : Env}

theorem lerase_eq {α : Type} (l : List α) (i : Nat) : lerase l i = l.eraseIdx i := by
  induction l generalizing i with
  | nil => rfl
  | cons x l ih =>
    cases i with
    | zero => rfl
    | succ i => exact congrArg (x :: ·) (ih i)
theorem map_erase {α β : Type} (f : α → β) (l : List α) (i : Nat) : (l.map f).eraseIdx i = (l.eraseIdx i).map f := by
  induction l generalizing i with
  | nil => rfl
  | cons x l ih =>
    cases i with
    | zero => rfl
    | succ i => exact congrArg (f x :: ·) (ih i)
theorem eraseIn_toList {α : Type} (a : Array α) (j : Nat) : (a.eraseIdxIfInBounds j).toList = a.toList.eraseIdx j := by
  unfold Array.eraseIdxIfInBounds
  split
  · simp
  · rename_i h
    rw [List.eraseIdx_of_length_le (by simpa using h)]

theorem mapDelE_sound (ok : cx.Ok P) {st st' : St} {t : TypeId} {mv kv : AV} (hx : FxOk ρ st.fx) (h : (mapDelE cx st t mv kv).at_ ρ = some st') {L : Nat → Loc} {w : World}
    (hs : ∀ L', Agree st.nx L L' → Sim L' ρ st.H w) {m k : Value} (h1 : ∀ L', Agree st.nx L L' → m = conc L' ρ mv) (h2 : ∀ L', Agree st.nx L L' → k = conc L' ρ kv) (ty : TypeId) (ts : Array TypeId) (hts : ts[0]? = some t) :
    ∃ w', (Builtin.delete_ ts ty #[m, k]).run P w = .ok undef w' ∧ Turns ρ L st w undefA st' undef w' := by
  unfold mapDelE at h
  replace h := tyE_at.1 h; obtain ⟨ti, ht, h⟩ := h
  have hd := ok.desc _ _ ht
  split at h
  case h_2 => simp [T.at_bad] at h
  rename_i kt el hdd
  rw [hdd] at hd
  replace h := tyE_at.1 h; obtain ⟨ki, hki, h⟩ := h
  replace h := T.at_opt_some.1 h; obtain ⟨qs, hqs, h⟩ := h
  replace h := chk_at h; obtain ⟨hsh, h⟩ := h
  have hkk := hqs
  rw [ok.kinds _ _ hki] at hkk
  have hag := agg_struct ok hki hqs
  have hshp := shapeOk_iff hsh (fun ha => by
    rcases kindsT_agg hkk with ⟨_, _, rfl⟩ | ⟨_, rfl⟩ | ⟨_, rfl⟩ | ⟨_, fs, _, hu, _, _⟩
    · rfl
    · rfl
    · rfl
    · rw [hag.2 ⟨fs, hu⟩] at ha; cases ha)
  have hck : ∀ b, (Instr.checkKey b 10000 kt (conc L ρ kv)).run P w = .ok () w := fun b => run_checkKey_kinds 8 10000 kt qs hkk (by omega) L kv w ki.agg b hag hshp
  have e1 := h1 L (Agree.refl _ _)
  have e2 := h2 L (Agree.refl _ _)
  split at h
  case h_3 => simp [T.at_bad] at h
  case h_1 =>
    replace h := ret1_at h
    subst h
    refine ⟨w, ?_, ?_⟩
    · rw [e1, e2]
      simp [Builtin.delete_, hts, run_underlying hd, conc, hck, undef]
    · have := Turns.same (v := undefA) (x := undef) (w' := w) hs (fun L' ha => rfl) hx rfl rfl rfl rfl
      exact this
  rename_i id
  replace h := chk_at h; obtain ⟨hid, h⟩ := h
  have hid := Nat.le_of_ble_eq_true hid
  replace h := withMap_at h; obtain ⟨es, ck, ho, h⟩ := h
  replace h := T.at_bind_some.1 h
  obtain ⟨⟨r, fx1⟩, hf, h⟩ := h
  obtain ⟨hx1, hrf, hre⟩ := findKey_sound ok hki hqs hx hf
  have hm := (hs L (Agree.refl _ _)).map ho
  have hgo := run_getObj (P := P) hm rfl
  have concE_eq : ∀ L', Agree st.nx L L' → es.map (concE L' ρ) = es.map (concE L ρ) := fun L' ha => by
    have a1 := (hs L' ha).map ho
    rw [ha id hid, hm] at a1
    simp only [Option.some.injEq, Obj.map.injEq, and_true] at a1
    exact (List.toArray_inj a1).symm
  have hrun0 : ∀ o' : Obj, (setObj (L id).b o').run P w = .ok () { w with heap := w.heap.setIfInBounds (L id).b o' } := fun o' => run_setObj hm rfl
  cases r with
  | none =>
    replace h := ret1_at h
    subst h
    refine ⟨_, ?_, Turns.put (c := .map (es.map (concE L ρ)).toArray ck) hs hx1 ho (fun L' ha => by rw [ha id hid]) (WPut.set hm) (fun L' ha => rfl) (fun L' ha => ?_)⟩
    · rw [e1, e2]
      simp [Builtin.delete_, hts, run_underlying hd, conc, hgo, hck, hrf L w, concF, hrun0, undef]
    · rw [ha id hid]
      show (w.heap.setIfInBounds _ _)[_]? = _
      rw [Array.getElem?_setIfInBounds_self_of_lt (lt_of_some hm), ← concE_eq L' ha]
      rfl
  | some p =>
    obtain ⟨j, u⟩ := p
    replace h := ret1_at h
    subst h
    refine ⟨_, ?_, Turns.put (c := .map ((es.map (concE L ρ)).toArray.eraseIdxIfInBounds j) ck) hs hx1 ho (fun L' ha => by rw [ha id hid]) (WPut.set hm) (fun L' ha => rfl) (fun L' ha => ?_)⟩
    · rw [e1, e2]
      simp [Builtin.delete_, hts, run_underlying hd, conc, hgo, hck, hrf L w, concF, hrun0, undef]
    · rw [ha id hid]
      show (w.heap.setIfInBounds _ _)[_]? = _
      rw [Array.getElem?_setIfInBounds_self_of_lt (lt_of_some hm), ← concE_eq L' ha, lerase_eq]
      congr 2
      apply Array.toList_inj.1
      rw [eraseIn_toList]
      exact map_erase _ _ _

/-! ## Cells that are copied -/
theorem firstE_sound {H : Tr AObj} {size n : Nat} {x : AV} {cs : List AV} (h : (firstE H size n x).at_ ρ = some cs) :
    ∀ (L : Nat → Loc) (w : World), Sim L ρ H w → (Builtin.firstCells size n (conc L ρ x)).run P w = .ok (cs.map (conc L ρ)).toArray w := by
  unfold firstE at h
  split at h
  · replace h := ret1_at h
    subst h
    intro L w hs
    rfl
  · rename_i id off0 off len cap op
    cases hn : Nat.beq n 0 with
    | true =>
      rw [hn, cond_true] at h
      replace h := ret1_at h
      subst h
      have hn := Nat.eq_of_beq_eq_true hn
      subst hn
      intro L w hs
      simp only [conc, Builtin.firstCells, Nat.zero_mul]
      rfl
    | false =>
      rw [hn, cond_false] at h
      cases hz : Nat.beq size 0 with
      | true => rw [hz, cond_true] at h; simp [T.at_bad] at h
      | false =>
        rw [hz, cond_false] at h
        replace h := chk_at h; obtain ⟨hc, h⟩ := h
        have hc := Nat.le_of_ble_eq_true hc
        replace h := withCells_at h; obtain ⟨tr, d, m, el, sz, ho, h⟩ := h
        replace h := chk_at h; obtain ⟨hm, h⟩ := h
        have hm := Nat.le_of_ble_eq_true hm
        replace h := T.at_opt_some.1 h; obtain ⟨cs', hcs, h⟩ := h
        replace h := ret1_at h
        subst h
        intro L w hs
        simp only [conc, Builtin.firstCells]
        rw [if_neg (by omega)]
        exact hs.cells ho hm hcs
  · rename_i s
    replace h := ret1_at h
    subst h
    intro L w hs
    simp only [conc, Builtin.firstCells, STm.den, Sem.run_pure, lmap_eq, ltake_eq]
    congr 1
    apply Array.toList_inj.1
    rw [List.map_map]
    have : (ByteArray.extract ⟨s.toArray⟩ 0 n).data.toList = s.take n := by
      simp [ByteArray.data_extract]
    simp only [Array.toList_map, this]
    apply List.map_congr_left
    intro b _
    simp [conc, Tm.den]
  · simp [T.at_bad] at h
theorem firstE_len {H : Tr AObj} {size n : Nat} {x : AV} {cs : List AV} (h : (firstE H size n x).at_ ρ = some cs) (h1 : 1 ≤ size) : cs.length ≤ n * size := by
  unfold firstE at h
  split at h
  · replace h := ret1_at h
    subst h
    simp
  · cases hn : Nat.beq n 0 with
    | true =>
      rw [hn, cond_true] at h
      replace h := ret1_at h
      subst h
      simp
    | false =>
      rw [hn, cond_false] at h
      cases hz : Nat.beq size 0 with
      | true => rw [hz, cond_true] at h; simp [T.at_bad] at h
      | false =>
        rw [hz, cond_false] at h
        replace h := chk_at h; obtain ⟨hc, h⟩ := h
        replace h := withCells_at h; obtain ⟨tr, d, m, el, sz, ho, h⟩ := h
        replace h := chk_at h; obtain ⟨hm, h⟩ := h
        replace h := T.at_opt_some.1 h; obtain ⟨cs', hcs, h⟩ := h
        replace h := ret1_at h
        subst h
        exact Nat.le_of_eq (gather_some hcs).1
  · replace h := ret1_at h
    subst h
    rw [lmap_eq, ltake_eq, List.length_map, List.length_take]
    have : n * 1 ≤ n * size := Nat.mul_le_mul_left n h1
    omega
  · simp [T.at_bad] at h
theorem lenOfE_at {x : AV} {f : Nat → T (AV × St)} {r : AV × St} (h : (lenOfE x f).at_ ρ = some r) : ∃ n, (f n).at_ ρ = some r ∧ (∀ (L : Nat → Loc) (w : World), (Builtin.lenOf (conc L ρ x)).run P w = .ok n w) ∧
    ∀ (L : Nat → Loc) (w : World) (size : Nat), (Builtin.firstCells size 0 (conc L ρ x)).run P w = .ok #[] w := by
  unfold lenOfE at h
  split at h
  · exact ⟨0, h, fun L w => rfl, fun L w s => rfl⟩
  · refine ⟨_, h, fun L w => rfl, fun L w s => ?_⟩
    simp only [conc, Builtin.firstCells, Nat.zero_mul]
    rfl
  · rename_i s
    refine ⟨_, h, fun L w => ?_, fun L w s => ?_⟩
    · simp only [conc, STm.den, Builtin.lenOf, llen_eq]
      rfl
    · simp [conc, Builtin.firstCells]
  · simp [T.at_bad] at h
theorem cs_same {cs : List AV} {X : Sem (Array Value)} {w : World} {L L' : Nat → Loc} (h1 : X.run P w = .ok (cs.map (conc L ρ)).toArray w) (h2 : X.run P w = .ok (cs.map (conc L' ρ)).toArray w) :
    cs.map (conc L ρ) = cs.map (conc L' ρ) := by
  rw [h1] at h2
  simp only [Result.ok.injEq, and_true] at h2
  exact List.toArray_inj h2

theorem copyE_sound (ok : cx.Ok P) {st st' : St} {t u : TypeId} {dv xv v : AV} (hx : FxOk ρ st.fx) (h : (copyE cx st t dv xv).at_ ρ = some (v, st')) {L : Nat → Loc} {w : World}
    (hs : ∀ L', Agree st.nx L L' → Sim L' ρ st.H w) {x1 x2 : Value} (h1 : ∀ L', Agree st.nx L L' → x1 = conc L' ρ dv) (h2 : ∀ L', Agree st.nx L L' → x2 = conc L' ρ xv) (ty : TypeId) :
    ∃ x w', (Builtin.copy_ #[t, u] ty #[x1, x2]).run P w = .ok x w' ∧ Turns ρ L st w v st' x w' := by
  unfold copyE at h
  replace h := tyE_at.1 h; obtain ⟨ti, ht, h⟩ := h
  have hd := ok.desc _ _ ht
  split at h
  case h_2 => simp [T.at_bad] at h
  rename_i el hdd
  rw [hdd] at hd
  replace h := tyE_at.1 h; obtain ⟨ei, hei, h⟩ := h
  replace h := chk_at h; obtain ⟨hsize, h⟩ := h
  have hsize := Nat.le_of_ble_eq_true hsize
  replace h := lenOfE_at (P := P) h; obtain ⟨m, h, hlen, hzero⟩ := h
  have e1 := h1 L (Agree.refl _ _)
  have e2 := h2 L (Agree.refl _ _)
  have hsz := ok.run_size hei w
  split at h
  case h_3 => simp [T.at_bad] at h
  case h_1 =>
    replace h := ret_at h; obtain ⟨rfl, rfl⟩ := h
    refine ⟨goInt 0, w, ?_, ?_⟩
    · rw [e1, e2]
      simp [Builtin.copy_, conc, run_underlying hd, hlen L w, hsz, hzero L w]
    · exact Turns.same hs (fun L' ha => rfl) hx rfl rfl rfl rfl
  rename_i id off0 off len cap op
  simp only at h
  have hmin : (bif Nat.ble m len then m else len) = Nat.min m len := by
    show _ = min m len
    cases hb : Nat.ble m len with
    | true => rw [cond_true, Nat.min_eq_left (Nat.le_of_ble_eq_true hb)]
    | false =>
      have : ¬ m ≤ len := fun hh => by rw [Nat.ble_eq_true_of_le hh] at hb; cases hb
      rw [cond_false, Nat.min_eq_right (by omega)]
  rw [hmin] at h
  cases hn : Nat.beq (Nat.min m len) 0 with
  | true =>
    have hn' := Nat.eq_of_beq_eq_true hn
    rw [hn, cond_true] at h
    replace h := ret_at h; obtain ⟨rfl, rfl⟩ := h
    refine ⟨goInt 0, w, ?_, ?_⟩
    · rw [e1, e2]
      simp only [conc]
      simp [Builtin.copy_, run_underlying hd, hlen L w, hsz, hn', hzero L w, storeCells]
    · exact Turns.same hs (fun L' ha => rfl) hx rfl rfl rfl rfl
  | false =>
    rw [hn, cond_false] at h
    replace h := T.at_bind_some.1 h
    obtain ⟨cs, hcs, h⟩ := h
    replace h := chk_at h; obtain ⟨hid, h⟩ := h
    have hid := Nat.le_of_ble_eq_true hid
    replace h := chk_at h; obtain ⟨hc, h⟩ := h
    have hc := Nat.le_of_ble_eq_true hc
    replace h := withCells_at h; obtain ⟨tr, dd, k, el', sz, ho, h⟩ := h
    replace h := chk_at h; obtain ⟨hone, h⟩ := h
    replace h := chk_at h; obtain ⟨hk, h⟩ := h
    have hk := Nat.le_of_ble_eq_true hk
    replace h := ret_at h; obtain ⟨rfl, rfl⟩ := h
    have hf := firstE_sound (P := P) hcs
    have hfl := hf L w (hs L (Agree.refl _ _))
    have hcl := firstE_len hcs hsize
    obtain ⟨w', c, hrun, hp, hob⟩ := put_cells (P := P) hs ho (fun L' ha => ha id hid) (cs := cs) (off := off) ((allOne_iff _).1 hone) (Nat.le_trans (Nat.add_le_add_left hcl off) hk)
      (vs := cs.map (conc L ρ)) (fun L' ha => by
        have := hf L' w (hs L' ha)
        rw [← h2 L' ha, e2] at this
        exact cs_same hfl this)
    refine ⟨goInt (Nat.min m len), w', ?_, Turns.put hs hx ho (fun L' ha => by rw [ha id hid]) hp (fun L' ha => rfl) hob⟩
    rw [e1, e2]
    simp only [conc]
    rw [if_neg (by omega)]
    simp only [Builtin.copy_, Sem.run_bind, hlen L w, run_underlying hd, hsz, hfl, Result.andThen_ok, List.getElem?_toArray, List.getElem?_cons_zero, List.getElem?_cons_succ, hrun]
    rfl
theorem zeroCells_eq (vs : Array Value) (n : Nat) : Builtin.zeroCells vs n = (lrep vs.toList n).toArray := range_rep vs n _ rfl
theorem clearE_sound (ok : cx.Ok P) {st st' : St} {t : TypeId} {xv : AV} (hx : FxOk ρ st.fx) (h : (clearE cx st t xv).at_ ρ = some st') {L : Nat → Loc} {w : World}
    (hs : ∀ L', Agree st.nx L L' → Sim L' ρ st.H w) {x1 : Value} (h1 : ∀ L', Agree st.nx L L' → x1 = conc L' ρ xv) (ty : TypeId) :
    ∃ w', (Builtin.clear_ #[t] ty #[x1]).run P w = .ok undef w' ∧ Turns ρ L st w undefA st' undef w' := by
  unfold clearE at h
  replace h := tyE_at.1 h; obtain ⟨ti, ht, h⟩ := h
  have hd := ok.desc _ _ ht
  have e1 := h1 L (Agree.refl _ _)
  have same : Turns ρ L st w undefA st undef w := Turns.same hs (fun L' ha => rfl) hx rfl rfl rfl rfl
  split at h
  case h_5 => simp [T.at_bad] at h
  case h_1 =>
    replace h := ret1_at h
    subst h
    refine ⟨w, ?_, same⟩
    rw [e1]
    simp [Builtin.clear_, conc, run_underlying hd, undef]
  case h_2 =>
    replace h := ret1_at h
    subst h
    refine ⟨w, ?_, same⟩
    rw [e1]
    simp [Builtin.clear_, conc, run_underlying hd, undef]
  case h_3 _ _ id hdd =>
    rw [hdd] at hd
    replace h := chk_at h; obtain ⟨hid, h⟩ := h
    have hid := Nat.le_of_ble_eq_true hid
    replace h := withMap_at h; obtain ⟨es, ck, ho, h⟩ := h
    replace h := ret1_at h
    subst h
    have hm := (hs L (Agree.refl _ _)).map ho
    have hgo := run_getObj (P := P) hm rfl
    refine ⟨_, ?_, Turns.put (c := .map #[] ck) hs hx ho (fun L' ha => by rw [ha id hid]) (WPut.set hm) (fun L' ha => rfl) (fun L' ha => ?_)⟩
    · rw [e1]
      simp [Builtin.clear_, conc, run_underlying hd, hgo, run_setObj (P := P) (o' := .map #[] ck) hm rfl, undef]
    · rw [ha id hid]
      show (w.heap.setIfInBounds _ _)[_]? = _
      rw [Array.getElem?_setIfInBounds_self_of_lt (lt_of_some hm)]
      rfl
  case h_4 _ el id off0 off len cap op hdd =>
    rw [hdd] at hd
    cases hn : Nat.beq len 0 with
    | true =>
      have hn := Nat.eq_of_beq_eq_true hn
      subst hn
      rw [show Nat.beq 0 0 = true from rfl, cond_true] at h
      replace h := ret1_at h
      subst h
      refine ⟨w, ?_, same⟩
      rw [e1]
      simp [Builtin.clear_, conc, run_underlying hd, undef]
    | false =>
      rw [hn, cond_false] at h
      have hn0 : len ≠ 0 := fun hh => by rw [hh] at hn; cases hn
      replace h := tyE_at.1 h; obtain ⟨ei, hei, h⟩ := h
      replace h := T.at_opt_some.1 h; obtain ⟨z, hz, h⟩ := h
      replace h := chk_at h; obtain ⟨hid, h⟩ := h
      have hid := Nat.le_of_ble_eq_true hid
      replace h := chk_at h; obtain ⟨hc, h⟩ := h
      have hc := Nat.le_of_ble_eq_true hc
      replace h := withCells_at h; obtain ⟨tr, d, n, el', sz, ho, h⟩ := h
      replace h := chk_at h; obtain ⟨hzl, h⟩ := h
      have hzl := Nat.eq_of_beq_eq_true hzl
      rw [llen_eq] at hzl
      replace h := chk_at h; obtain ⟨hone, h⟩ := h
      replace h := chk_at h; obtain ⟨hk, h⟩ := h
      have hk := Nat.le_of_ble_eq_true hk
      replace h := ret1_at h
      subst h
      have ze : ∀ L', (z.cells).map (conc L ρ) = (z.cells).map (conc L' ρ) := by
        intro L'
        obtain ⟨v, hv, hz'⟩ := ok.zero _ _ _ hei hz
        have a1 := conc_cells L ρ z
        have a2 := conc_cells L' ρ z
        rw [conc_ofV L ρ hz'] at a1
        rw [conc_ofV L' ρ hz', a1] at a2
        exact List.toArray_inj a2
      have hmem : ∀ c ∈ lrep z.cells len, c.one = true := by
        intro c hc
        obtain ⟨i, hi⟩ := List.getElem?_of_mem hc
        have hlt : i < (lrep z.cells len).length := by
          rcases Nat.lt_or_ge i (lrep z.cells len).length with hh | hh
          · exact hh
          · rw [List.getElem?_eq_none hh] at hi; cases hi
        rw [lrep_length] at hlt
        rw [lrep_get _ _ _ hlt] at hi
        exact (allOne_iff _).1 hone c (List.mem_of_getElem? hi)
      obtain ⟨w', c, hrun, hp, hob⟩ := put_cells (P := P) hs ho (fun L' ha => ha id hid) (cs := lrep z.cells len) (off := off) hmem (by rw [lrep_length, hzl]; exact hk)
        (vs := (lrep z.cells len).map (conc L ρ)) (fun L' ha => by rw [lrep_map, lrep_map, ze L'])
      refine ⟨w', ?_, Turns.put hs hx ho (fun L' ha => by rw [ha id hid]) hp (fun L' ha => rfl) hob⟩
      rw [e1]
      simp only [conc]
      rw [if_neg (by omega)]
      have hzr := ok.run_zero (ρ := ρ) hei hz L w
      have hzc : (Builtin.zeroCells (conc L ρ z).cells len).toList = (lrep z.cells len).map (conc L ρ) := by
        rw [zeroCells_eq, conc_cells, lrep_map]
      obtain ⟨len, rfl⟩ : ∃ k, len = k + 1 := ⟨len - 1, by omega⟩
      simp only [Builtin.clear_, Sem.run_bind, run_underlying hd, hzr, Result.andThen_ok, List.getElem?_toArray, List.getElem?_cons_zero, hzc, hrun]
      rfl
end Ab
