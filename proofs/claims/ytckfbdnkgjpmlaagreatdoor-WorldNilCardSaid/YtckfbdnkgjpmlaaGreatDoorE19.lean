/- E, part 19: append joined; a text as bytes; ranges; all that writes. -/
import Derived.Test.YtckfbdnkgjpmlaaGreatDoorE18
namespace Ab
open Go

variable {P : Program} {cx : Ctx} {ρ : Env}

theorem ble_false {n m : Nat} (h : Nat.ble n m = false) : m < n := by
  rcases Nat.lt_or_ge m n with hh | hh
  · exact hh
  · rw [Nat.ble_eq_true_of_le hh] at h; cases h
theorem beq_false' {n m : Nat} (h : Nat.beq n m = false) : n ≠ m := fun hh => by
  subst hh
  rw [Nat.beq_refl] at h
  cases h

theorem appendE_sound (ok : cx.Ok P) {st st' : St} {t u : TypeId} {sv xv v : AV} (hx : FxOk ρ st.fx) {ui : TI} (hui : cx.tt.get u = some ui) (hun : ∀ k, ui.desc ≠ .int k) (h : (appendE cx st t sv xv).at_ ρ = some (v, st')) {L : Nat → Loc} {w : World}
    (hs : ∀ L', Agree st.nx L L' → Sim L' ρ st.H w) {s x : Value} (h1 : ∀ L', Agree st.nx L L' → s = conc L' ρ sv) (h2 : ∀ L', Agree st.nx L L' → x = conc L' ρ xv) (ty : TypeId) :
    ∃ y w', (Builtin.append_ #[t, u] ty #[s, x]).run P w = .ok y w' ∧ Turns ρ L st w v st' y w' := by
  unfold appendE at h
  replace h := tyE_at.1 h; obtain ⟨ti, ht, h⟩ := h
  have hd := ok.desc _ _ ht
  split at h
  case h_2 => simp [T.at_bad] at h
  rename_i el hdd
  rw [hdd] at hd
  replace h := tyE_at.1 h; obtain ⟨ei, hei, h⟩ := h
  replace h := chk_at h; obtain ⟨hsize, h⟩ := h
  have hsize := Nat.le_of_ble_eq_true hsize
  replace h := T.at_opt_some.1 h; obtain ⟨z, hz, h⟩ := h
  replace h := chk_at h; obtain ⟨hzl, h⟩ := h
  have hzl := Nat.eq_of_beq_eq_true hzl
  rw [llen_eq] at hzl
  replace h := lenOfE_at (P := P) h; obtain ⟨n, h, hlen, hzero⟩ := h
  replace h := chk_at h; obtain ⟨hnb, h⟩ := h
  have hnb : (ei.info.bytes + 1) * n ≤ 16777216 := Nat.le_of_ble_eq_true hnb
  replace h := T.at_bind_some.1 h
  obtain ⟨new, hnew, h⟩ := h
  replace h := chk_at h; obtain ⟨hnl, h⟩ := h
  have hnl := Nat.eq_of_beq_eq_true hnl
  rw [llen_eq] at hnl
  obtain ⟨zv, hzv, hzz⟩ := ok.zero _ _ _ hei hz
  have A : App P ρ cx L st w t u el ei zv n new sv s x := {
    ut := hd
    uu := ⟨_, ok.desc _ _ hui, hun⟩
    info := ok.info _ _ hei
    zero := hzv
    zsize := by
      have := conc_cells L ρ z
      rw [conc_ofV L ρ hzz] at this
      rw [this]; simp [hzl]
    size := hsize
    fx := hx
    sim := hs
    s_ := h1
    len := fun w => by rw [h2 L (Agree.refl _ _)]; exact hlen L w
    news := fun L' w' ha hw => by rw [h2 L' ha]; exact firstE_sound hnew L' w' ((hs L' ha).keep hw)
    nlen := hnl }
  unfold appTo at h
  have e1 := h1 L (Agree.refl _ _)
  split at h
  case h_3 => simp [T.at_bad] at h
  case h_1 =>
    cases hn : Nat.beq n 0 with
    | true =>
      have hn := Nat.eq_of_beq_eq_true hn
      subst hn
      rw [show Nat.beq 0 0 = true from rfl, cond_true] at h
      replace h := ret_at h; obtain ⟨rfl, rfl⟩ := h
      refine ⟨s, w, ?_, Turns.same hs h1 hx rfl rfl rfl rfl⟩
      rw [e1]
      have hne := A.news L w (Agree.refl _ _) rfl
      have hz : new = [] := List.length_eq_zero_iff.1 (by rw [A.nlen]; simp)
      subst hz
      obtain ⟨uds, hu, huu⟩ := A.uu
      exact run_append_in (ty := ty) A.ut hu huu A.info (new := []) (A.len w) (by omega) hne rfl
    | false =>
      rw [hn, cond_false] at h
      have hn := beq_false' hn
      exact appNew_sound A (base := none) (len := 0) (cap := 0) e1 (by omega) (by simpa using hnb) rfl h ty
  rename_i id off0 off len cap op
  cases hc : Nat.ble (Nat.add len n) cap with
  | true =>
    rw [hc, cond_true] at h
    exact appIn_sound A (Nat.le_of_ble_eq_true hc) h ty
  | false =>
    rw [hc, cond_false] at h
    have hc : cap < len + n := ble_false hc
    cases hn : Nat.beq n 0 with
    | true => rw [hn, cond_true] at h; simp [T.at_bad] at h
    | false =>
      rw [hn, cond_false] at h
      replace h := chk_at h; obtain ⟨hb, h⟩ := h
      have hb : (ei.info.bytes + 1) * (len + n) ≤ 16777216 := Nat.le_of_ble_eq_true hb
      cases op with
      | true =>
        rw [cond_true] at h
        exact appOpen_sound A hb rfl h ty
      | false =>
        rw [cond_false] at h
        have e1' : s = .slice (some ⟨(L id).b, (L id).o + (if cap = 0 then off0 else off), none⟩) len cap := by
          rw [e1]
          simp [conc]
        exact appNew_sound A e1' hc hb rfl h ty

/-! ## A text as bytes -/
theorem strBytesE_sound (ok : cx.Ok P) {st st' : St} {src dst : TypeId} {xv v : AV} (hx : FxOk ρ st.fx) (h : (strBytesE cx st src dst xv).at_ ρ = some (v, st')) {L : Nat → Loc} {w : World}
    (hs : ∀ L', Agree st.nx L L' → Sim L' ρ st.H w) {x : Value} (h1 : ∀ L', Agree st.nx L L' → x = conc L' ρ xv) :
    ∃ y w', (convert src dst x).run P w = .ok y w' ∧ Turns ρ L st w v st' y w' := by
  unfold strBytesE at h
  replace h := tyE_at.1 h; obtain ⟨si, hsi, h⟩ := h
  replace h := tyE_at.1 h; obtain ⟨di, hdi, h⟩ := h
  have hsd := ok.desc _ _ hsi
  have hdd := ok.desc _ _ hdi
  split at h
  case h_2 => simp [T.at_bad] at h
  rename_i el e1 e2
  rw [e1] at hsd
  rw [e2] at hdd
  replace h := tyE_at.1 h; obtain ⟨ei, hei, h⟩ := h
  have hed := ok.desc _ _ hei
  split at h
  case h_2 => simp [T.at_bad] at h
  rename_i s e3
  rw [e3] at hed
  replace h := ret_at h; obtain ⟨rfl, rfl⟩ := h
  have ex := h1 L (Agree.refl _ _)
  have hge := grownCap_ge w s.length 0 el
  have hsz : (⟨s.toArray⟩ : ByteArray).size = s.length := by simp [ByteArray.size]
  have hrun : (Conv.stringToBytes el ⟨s.toArray⟩).run P w = .ok (.slice (some ⟨w.heap.size, 0, none⟩) s.length (grownCap w s.length 0 el))
      (World.freeze { heap := w.heap.push (.cells (s.toArray.map (fun b => Value.int .u8 b.toNat) ++ Array.replicate (grownCap w s.length 0 el - s.length) (.int .u8 0)) el), tape := w.tape, drawn := w.drawn + 1, os := w.os, output := w.output }
        ⟨w.heap.size, s.length + (grownCap w s.length 0 el - s.length), none⟩ 1) := by
    unfold Conv.stringToBytes
    simp only [Sem.run_bind, hsz, run_choose, Question.forced, Bool.false_eq_true, if_false, Result.andThen_ok, newRow, run_newObj, Sem.run_pure, markStringish, run_shape, grownCap]
    generalize (Question.appendCap s.length 0 el).cut (w.tape w.drawn (Question.appendCap s.length 0 el)) = G
    have : World.shape? { heap := w.heap.push (.cells (s.toArray.map (fun b => Value.int .u8 b.toNat) ++ Array.replicate (G - s.length) (.int .u8 0)) el), tape := w.tape, drawn := w.drawn + 1, os := w.os, output := w.output } w.heap.size =
        some (el, s.length + (G - s.length)) := by
      simp [World.shape?]
    rw [this]
    rfl
  have hcv : (convert src dst x).run P w = (Conv.stringToBytes el ⟨s.toArray⟩).run P w := by
    rw [ex]
    unfold convert
    simp only [Sem.run_bind, run_underlying hsd, run_underlying hdd, Result.andThen_ok, conc, STm.den, run_underlying hed]
  generalize hG : grownCap w s.length 0 el - s.length = k at hrun
  have hk : grownCap w s.length 0 el = s.length + k := by omega
  rw [hk] at hrun
  have hnew : WNew w (.cells (s.toArray.map (fun b => Value.int .u8 b.toNat) ++ Array.replicate k (.int .u8 0)) el (s.length + k, s.length + k + 1))
      (World.freeze { heap := w.heap.push (.cells (s.toArray.map (fun b => Value.int .u8 b.toNat) ++ Array.replicate k (.int .u8 0)) el), tape := w.tape, drawn := w.drawn + 1, os := w.os, output := w.output } ⟨w.heap.size, s.length + k, none⟩ 1) := by
    refine ⟨?_, ?_, fun j hj => ?_, rfl, rfl, rfl⟩
    · simp [World.freeze]
    · simp only [World.freeze, Nat.one_ne_zero, if_false]
      rw [Array.getElem?_modify, if_pos rfl, Array.getElem?_push_size]
      rfl
    · simp only [World.freeze, Nat.one_ne_zero, if_false]
      rw [Array.getElem?_modify, if_neg (by omega)]
      simp [Array.getElem?_push, Nat.ne_of_lt hj]
  refine ⟨_, _, hcv.trans hrun, Turns.new (k := k) hs hx hnew (fun L' ha hn => ?_) (fun L' ha hn => ?_)⟩
  · simp [conc, hn, llen_eq]
  · refine ⟨_, _, hnew.at_, ?_, fun i hi => ?_, fun i u hi hu => ?_, fun _ => rfl⟩
    · simp [llen_eq]
    · simp at hi
      omega
    · rw [lmap_eq, look_ofList] at hu
      simp only [Nat.zero_add]
      rw [llen_eq] at hi
      rw [Array.getElem?_append_left (by simpa using hi)]
      simp only [List.getElem?_map, Option.map_eq_some_iff] at hu
      obtain ⟨b, hb, rfl⟩ := hu
      simp [hb, conc, Tm.den]

/-! ## Ranges over maps -/
theorem rangeE_sound (ok : cx.Ok P) {st st' : St} {t : TypeId} {xv v : AV} (hx : FxOk ρ st.fx) (h : (rangeE cx st t xv).at_ ρ = some (v, st')) {L : Nat → Loc} {w : World}
    (hs : ∀ L', Agree st.nx L L' → Sim L' ρ st.H w) {x : Value} (h1 : ∀ L', Agree st.nx L L' → x = conc L' ρ xv) :
    ∃ y w', (Instr.range t x).run P w = .ok y w' ∧ Turns ρ L st w v st' y w' := by
  unfold rangeE at h
  replace h := tyE_at.1 h; obtain ⟨ti, ht, h⟩ := h
  have hd := ok.desc _ _ ht
  have e1 := h1 L (Agree.refl _ _)
  split at h
  case h_3 => simp [T.at_bad] at h
  case h_1 _ _ kt el hdd =>
    rw [hdd] at hd
    replace h := ret_at h; obtain ⟨rfl, rfl⟩ := h
    refine ⟨.pointer (some ⟨w.heap.size, 0, none⟩), { w with heap := w.heap.push (.mapIter none 0 #[] 0) }, ?_, Turns.new (k := 0) hs hx (WNew.push _ _) (fun L' ha hn => by simp [conc, hn]) (fun L' ha hn => ?_)⟩
    · rw [e1]
      simp [Instr.range, conc, run_underlying hd]
    · exact ⟨rfl, #[], by show (w.heap.push _)[w.heap.size]? = _; simp, rfl⟩
  case h_2 _ _ kt el id hdd =>
    rw [hdd] at hd
    replace h := withMap_at h; obtain ⟨es, ck, ho, h⟩ := h
    replace h := ret_at h; obtain ⟨rfl, rfl⟩ := h
    have hm := (hs L (Agree.refl _ _)).map ho
    have hgo := run_getObj (P := P) hm rfl
    refine ⟨.pointer (some ⟨w.heap.size, 0, none⟩), { w with heap := w.heap.push (.mapIter (some (L id).b) ck #[] ck) }, ?_, Turns.new (k := 0) hs hx (WNew.push _ _) (fun L' ha hn => by simp [conc, hn]) (fun L' ha hn => ?_)⟩
    · rw [e1]
      simp [Instr.range, conc, run_underlying hd, hgo]
    · have e2 := h1 L' ha
      rw [e1] at e2
      simp [conc] at e2
      exact ⟨rfl, #[], by show (w.heap.push _)[w.heap.size]? = _; simp [e2], rfl⟩

theorem memN_eq (n : Nat) (l : List Nat) : memN n l = l.contains n := by
  induction l with
  | nil => rfl
  | cons x l ih =>
    have e : memN n (x :: l) = bif Nat.beq x n then true else memN n l := rfl
    rw [e, ih, List.contains_cons, show Nat.beq x n = (x == n) by rw [Bool.eq_iff_iff, beq_iff_eq]; exact ⟨Nat.eq_of_beq_eq_true, fun h => h ▸ Nat.beq_refl x⟩]
    cases hx : (x == n) with
    | true => have : (n == x) = true := by rw [beq_iff_eq] at hx ⊢; exact hx.symm
              simp [this]
    | false => have : (n == x) = false := by rw [beq_eq_false_iff_ne] at hx ⊢; exact Ne.symm hx
               simp [this]
theorem leftE_eq (seen : List Nat) (es : List (AV × AV × Nat)) : leftE seen es = es.filter fun e => !seen.contains e.2.2 := by
  induction es with
  | nil => rfl
  | cons e es ih =>
    have e' : leftE seen (e :: es) = bif memN e.2.2 seen then leftE seen es else e :: leftE seen es := rfl
    rw [e', ih, memN_eq, List.filter_cons]
    cases seen.contains e.2.2 <;> simp
theorem anyElder_iff (last : Nat) (es : List (AV × AV × Nat)) : anyElder last es = true → ∃ e ∈ es, e.2.2 < last := by
  induction es with
  | nil => intro h; cases h
  | cons e es ih =>
    intro h
    have h : (bif Nat.ble (Nat.succ e.2.2) last then true else anyElder last es) = true := h
    cases hb : Nat.ble (Nat.succ e.2.2) last with
    | true => exact ⟨e, by simp, Nat.le_of_ble_eq_true hb⟩
    | false =>
      rw [hb, cond_false] at h
      obtain ⟨e', he, hl⟩ := ih h
      exact ⟨e', by simp [he], hl⟩

theorem nextE_sound {st st' : St} {xv v : AV} (hx : FxOk ρ st.fx) (h : (nextE st xv).at_ ρ = some (v, st')) {L : Nat → Loc} {w : World}
    (hs : ∀ L', Agree st.nx L L' → Sim L' ρ st.H w) {x : Value} (h1 : ∀ L', Agree st.nx L L' → x = conc L' ρ xv) (ty : TypeId) :
    ∃ y w', (Instr.next x false ty).run P w = .ok y w' ∧ Turns ρ L st w v st' y w' := by
  unfold nextE at h
  split at h
  case h_2 => simp [T.at_bad] at h
  rename_i id
  replace h := chk_at h; obtain ⟨hid, h⟩ := h
  have hid := Nat.le_of_ble_eq_true hid
  replace h := T.at_opt_some.1 h; obtain ⟨o, ho, h⟩ := h
  have e1 := h1 L (Agree.refl _ _)
  split at h
  case h_3 => simp [T.at_bad] at h
  case h_1 =>
    replace h := ret_at h; obtain ⟨rfl, rfl⟩ := h
    obtain ⟨h0, sn, hh, _⟩ := (hs L (Agree.refl _ _)).at_ id _ ho
    have hgo := run_getObj (P := P) hh rfl
    refine ⟨.tuple #[.bool false], w, ?_, Turns.same hs (fun L' ha => rfl) hx rfl rfl rfl rfl⟩
    rw [e1]
    simp only [conc, h0]
    simp [Instr.next, hgo]
  rename_i m since seen last
  replace h := withMap_at h; obtain ⟨es, ck, hm, h⟩ := h
  replace h := chk_at h; obtain ⟨hel, h⟩ := h
  obtain ⟨h0, sn, hh, hsn⟩ := (hs L (Agree.refl _ _)).at_ id _ ho
  subst hsn
  have hgo := run_getObj (P := P) hh rfl
  have hmap := (hs L (Agree.refl _ _)).map hm
  have hgm := run_getObj (P := P) hmap rfl
  have hmb : ∀ L', Agree st.nx L L' → (L' m).b = (L m).b := fun L' ha => by
    obtain ⟨_, sn', hh', _⟩ := (hs L' ha).at_ id _ ho
    rw [ha id hid, hh] at hh'
    simp at hh'
    exact hh'.1.symm
  have concE_eq : ∀ L', Agree st.nx L L' → es.map (concE L' ρ) = es.map (concE L ρ) := fun L' ha => by
    have a1 := (hs L' ha).map hm
    rw [hmb L' ha, hmap] at a1
    simp only [Option.some.injEq, Obj.map.injEq, and_true] at a1
    exact (List.toArray_inj a1).symm
  have hno : (!seen.toArray.isEmpty && !(es.map (concE L ρ)).toArray.isEmpty && (es.map (concE L ρ)).toArray.all (fun e => decide (e.born ≥ last))) = false := by
    cases hs1 : seen.isEmpty with
    | true => simp [List.isEmpty_iff.1 hs1]
    | false =>
      cases hs2 : es.isEmpty with
      | true => simp [List.isEmpty_iff.1 hs2]
      | false =>
        rw [hs1, hs2, cond_false, cond_false] at hel
        obtain ⟨e, he, hlt⟩ := anyElder_iff last es hel
        have : (es.map (concE L ρ)).toArray.all (fun e => decide (e.born ≥ last)) = false := by
          rw [← Bool.not_eq_true]
          intro hall
          rw [List.all_toArray, List.all_eq_true] at hall
          have := hall (concE L ρ e) (List.mem_map_of_mem he)
          simp [concE] at this
          omega
        rw [this, Bool.and_false]
  have hleft : (es.map (concE L ρ)).toArray.filter (fun e => !seen.toArray.contains e.born) = ((leftE seen es).map (concE L ρ)).toArray := by
    rw [leftE_eq]
    apply Array.toList_inj.1
    simp only [Array.toList_filter, List.filter_map]
    simp [Function.comp_def, concE]
    rfl
  split at h
  case h_3 => simp [T.at_bad] at h
  · rename_i hl
    replace h := ret_at h; obtain ⟨rfl, rfl⟩ := h
    refine ⟨.tuple #[.bool false], w, ?_, Turns.same hs (fun L' ha => rfl) hx rfl rfl rfl rfl⟩
    rw [hl] at hleft
    rw [e1]
    simp only [conc, h0]
    simp only [Instr.next, Sem.run_bind, hgo, Result.andThen_ok, Option.map_some, hgm, hno, Bool.false_eq_true, if_false, hleft]
    simp [Question.forced]
  · rename_i e hl
    replace h := chk_at h; obtain ⟨hsi, h⟩ := h
    have hsi : e.2.2 < since := Nat.le_of_ble_eq_true hsi
    replace h := ret_at h; obtain ⟨rfl, rfl⟩ := h
    rw [hl] at hleft
    have hmem : e ∈ es := by
      have : e ∈ leftE seen es := by rw [hl]; simp
      rw [leftE_eq] at this
      exact (List.mem_filter.1 this).1
    have hrun0 : ∀ o' : Obj, (setObj (L id).b o').run P w = .ok () { w with heap := w.heap.setIfInBounds (L id).b o' } := fun o' => run_setObj hh rfl
    refine ⟨.tuple #[.bool true, conc L ρ e.1, conc L ρ e.2.1], _, ?_, Turns.put (c := .mapIter (some (L m).b) since (seen.toArray.push e.2.2) ck) hs hx ho (fun L' ha => by rw [ha id hid]) (WPut.set hh) (fun L' ha => ?_) (fun L' ha => ?_)⟩
    · rw [e1]
      simp only [conc, h0]
      simp only [Instr.next, Sem.run_bind, hgo, Result.andThen_ok, Option.map_some, hgm, hno, Bool.false_eq_true, if_false, hleft]
      simp [Question.forced, hrun0, concE, hsi]
    · have hee := List.map_inj_left.1 (concE_eq L' ha) e hmem
      simp only [concE, MapEntry.mk.injEq] at hee
      simp [conc, concs, hee.1, hee.2.1]
    · rw [ha id hid]
      refine ⟨h0, _, ?_, rfl⟩
      show (w.heap.setIfInBounds _ _)[_]? = _
      rw [Array.getElem?_setIfInBounds_self_of_lt (lt_of_some hh)]
      simp [lapp_eq, hmb L' ha]
theorem lastN_eq : ∀ (l : List Nat), lastN l = l.toArray.back?
  | [] => rfl
  | [x] => rfl
  | x :: y :: l => by
    have h : lastN (x :: y :: l) = lastN (y :: l) := rfl
    rw [h, lastN_eq (y :: l)]
    simp [Array.back?]
theorem findB_eq (L : Nat → Loc) (s : Nat) : ∀ (es : List (AV × AV × Nat)), (es.map (concE L ρ)).find? (fun e => e.born == s) = (findB s es).map (concE L ρ)
  | [] => rfl
  | e :: es => by
    have h : findB s (e :: es) = bif Nat.beq e.2.2 s then some e else findB s es := rfl
    rw [h, List.map_cons, List.find?_cons]
    have hb : (concE L ρ e).born = e.2.2 := rfl
    rw [hb]
    cases hs : Nat.beq e.2.2 s with
    | true => have := Nat.eq_of_beq_eq_true hs; simp [this]
    | false =>
      have := Nat.ne_of_beq_eq_false hs
      rw [cond_false]
      have h2 : (e.2.2 == s) = false := by simpa using this
      rw [h2]
      exact findB_eq L s es
theorem findB_mem {s : Nat} : ∀ {es : List (AV × AV × Nat)} {e : AV × AV × Nat}, findB s es = some e → e ∈ es
  | [], e, h => by cases h
  | y :: es, e, h => by
    have h : (bif Nat.beq y.2.2 s then some y else findB s es) = some e := h
    cases hs : Nat.beq y.2.2 s with
    | true => rw [hs, cond_true] at h; cases h; simp
    | false => rw [hs, cond_false] at h; exact List.mem_cons_of_mem _ (findB_mem h)
theorem entryE_sound {st st' : St} {xv v : AV} (hx : FxOk ρ st.fx) (h : (entryE st xv).at_ ρ = some (v, st')) {L : Nat → Loc} {w : World}
    (hs : ∀ L', Agree st.nx L L' → Sim L' ρ st.H w) {x : Value} (h1 : ∀ L', Agree st.nx L L' → x = conc L' ρ xv) :
    ∃ y, (Instr.entry x).run P w = .ok y w ∧ Turns ρ L st w v st' y w := by
  unfold entryE at h
  split at h
  case h_2 => simp [T.at_bad] at h
  rename_i id
  replace h := chk_at h; obtain ⟨hid, h⟩ := h
  have hid := Nat.le_of_ble_eq_true hid
  replace h := T.at_opt_some.1 h; obtain ⟨o, ho, h⟩ := h
  have e1 := h1 L (Agree.refl _ _)
  split at h
  case h_2 => simp [T.at_bad] at h
  rename_i m since seen last
  replace h := T.at_opt_some.1 h; obtain ⟨s, hls, h⟩ := h
  replace h := withMap_at h; obtain ⟨es, ck, hm, h⟩ := h
  replace h := chk_at h; obtain ⟨hck, h⟩ := h
  have hck := Nat.eq_of_beq_eq_true hck
  subst hck
  replace h := T.at_opt_some.1 h; obtain ⟨e, he, h⟩ := h
  obtain ⟨h0, sn, hh, hsn⟩ := (hs L (Agree.refl _ _)).at_ id _ ho
  subst hsn
  have hmap := (hs L (Agree.refl _ _)).map hm
  have hmb : ∀ L', Agree st.nx L L' → (L' m).b = (L m).b := fun L' ha => by
    obtain ⟨_, sn', hh', _⟩ := (hs L' ha).at_ id _ ho
    rw [ha id hid, hh] at hh'
    simp at hh'
    exact hh'.1.symm
  have concE_eq : ∀ L', Agree st.nx L L' → es.map (concE L' ρ) = es.map (concE L ρ) := fun L' ha => by
    have a1 := (hs L' ha).map hm
    rw [hmb L' ha, hmap] at a1
    simp only [Option.some.injEq, Obj.map.injEq, and_true] at a1
    exact (List.toArray_inj a1).symm
  have hf : (es.map (concE L ρ)).toArray.find? (fun e => e.born == s) = some (concE L ρ e) := by
    rw [← Array.find?_toList]
    show (es.map (concE L ρ)).find? _ = _
    rw [findB_eq, he]; rfl
  replace h := ret_at h; obtain ⟨rfl, rfl⟩ := h
  refine ⟨.tuple #[conc L ρ e.1, conc L ρ e.2.1], ?_, Turns.same hs (fun L' ha => ?_) hx rfl rfl rfl rfl⟩
  · rw [e1]
    simp only [conc, h0]
    have hb := lastN_eq seen
    rw [hls] at hb
    have hmap' : w.heap[(L m).b]? = some (.map (es.map (concE L ρ)).toArray ck) := hmap
    simp only [Instr.entry, getObj, Sem.run_bind, Sem.run, hh, Result.andThen, Option.map_some, ← hb, hmap', bne_self_eq_false, Bool.false_eq_true, if_false, hf]
    rfl
  · have hee := List.map_inj_left.1 (concE_eq L' ha) e (findB_mem he)
    simp only [concE, MapEntry.mk.injEq] at hee
    simp [conc, concs, hee.1, hee.2.1]
/-- OPERATIONS THAT WRITE. -/
theorem writeE_sound (ok : cx.Ok P) {g : Operand → Option AV} {op : Op} {st st' : St} {v : AV} (hx : FxOk ρ st.fx) (h : (writeE cx g op st).at_ ρ = some (v, st')) (L : Nat → Loc) (w : World)
    (hs : ∀ L', Agree st.nx L L' → Sim L' ρ st.H w) (a : Operand → Value) (hg : ∀ L', Agree st.nx L L' → GRel L' ρ g a) (o : Oper) (ho : o.op = op) :
    ∃ r x w', (execOp a o).run P w = .ok r w' ∧ (r = .value x ∨ (r = .skip ∧ x = undef)) ∧ Turns ρ L st w v st' x w' := by
  unfold writeE at h
  split at h
  case h_1 t ad x =>
    replace h := gE_at.1 h; obtain ⟨av, hav, h⟩ := h
    replace h := gE_at.1 h; obtain ⟨xv, hxv, h⟩ := h
    replace h := stE_at h; obtain ⟨rfl, h⟩ := h
    obtain ⟨w', hrun, ht⟩ := storeE_sound ok hx h hs (fun L' ha => hg L' ha _ _ hav) (fun L' ha => hg L' ha _ _ hxv)
    refine ⟨_, _, w', ?_, .inr ⟨rfl, rfl⟩, ht⟩
    unfold execOp; rw [ho]
    simp only [Sem.run_bind, hrun, Result.andThen_ok]; rfl
  case h_2 t m k x =>
    replace h := gE_at.1 h; obtain ⟨mv, hmv, h⟩ := h
    replace h := gE_at.1 h; obtain ⟨kv, hkv, h⟩ := h
    replace h := gE_at.1 h; obtain ⟨xv, hxv, h⟩ := h
    replace h := stE_at h; obtain ⟨rfl, h⟩ := h
    obtain ⟨w', hrun, ht⟩ := mapSetE_sound ok hx h hs (fun L' ha => hg L' ha _ _ hmv) (fun L' ha => hg L' ha _ _ hkv) (fun L' ha => hg L' ha _ _ hxv)
    refine ⟨_, _, w', ?_, .inr ⟨rfl, rfl⟩, ht⟩
    unfold execOp; rw [ho]
    simp only [Sem.run_bind, hrun, Result.andThen_ok]; rfl
  case h_3 t m k x =>
    replace h := gE_at.1 h; obtain ⟨mv, hmv, h⟩ := h
    replace h := gE_at.1 h; obtain ⟨kv, hkv, h⟩ := h
    replace h := gE_at.1 h; obtain ⟨xv, hxv, h⟩ := h
    replace h := stE_at h; obtain ⟨rfl, h⟩ := h
    obtain ⟨w', hrun, ht⟩ := mapSetE_sound ok hx h hs (fun L' ha => hg L' ha _ _ hmv) (fun L' ha => hg L' ha _ _ hkv) (fun L' ha => hg L' ha _ _ hxv)
    refine ⟨_, _, w', ?_, .inr ⟨rfl, rfl⟩, ht⟩
    unfold execOp; rw [ho]
    simp only [Sem.run_bind, hrun, Result.andThen_ok]; rfl
  case h_4 s d x =>
    replace h := gE_at.1 h; obtain ⟨xv, hxv, h⟩ := h
    obtain ⟨y, w', hrun, ht⟩ := strBytesE_sound ok hx h hs (fun L' ha => hg L' ha _ _ hxv)
    refine ⟨_, _, w', ?_, .inl rfl, ht⟩
    unfold execOp; rw [ho]
    simp only [Sem.run_bind, hrun, Result.andThen_ok]; rfl
  case h_5 t x =>
    replace h := gE_at.1 h; obtain ⟨xv, hxv, h⟩ := h
    obtain ⟨y, w', hrun, ht⟩ := rangeE_sound ok hx h hs (fun L' ha => hg L' ha _ _ hxv)
    refine ⟨_, _, w', ?_, .inl rfl, ht⟩
    unfold execOp; rw [ho]
    simp only [Sem.run_bind, hrun, Result.andThen_ok]; rfl
  case h_6 it isS =>
    cases isS with
    | true => rw [cond_true] at h; simp [T.at_bad] at h
    | false =>
      rw [cond_false] at h
      replace h := gE_at.1 h; obtain ⟨xv, hxv, h⟩ := h
      obtain ⟨y, w', hrun, ht⟩ := nextE_sound (P := P) hx h hs (fun L' ha => hg L' ha _ _ hxv) o.type
      refine ⟨_, _, w', ?_, .inl rfl, ht⟩
      unfold execOp; rw [ho]
      simp only [Sem.run_bind, hrun, Result.andThen_ok]; rfl
  case h_7 c =>
    split at h
    · rename_i hc
      split at h
      · rename_i x t hx1 ht1
        replace h := gE_at.1 h; obtain ⟨u, hu, h⟩ := h
        replace h := stE_at h; obtain ⟨rfl, h⟩ := h
        obtain ⟨w', hrun, ht⟩ := clearE_sound ok hx h hs (fun L' ha => hg L' ha _ _ hu) o.type
        refine ⟨_, _, w', ?_, .inl rfl, ht⟩
        unfold execOp; rw [ho]
        have e : c.args.map a = #[a x] := Array.toList_inj.1 (by simp [hx1])
        have e' : c.argTypes = #[t] := Array.toList_inj.1 (by simp [ht1])
        simp only [resolve, hc, Sem.run_bind, Sem.run_pure, Result.andThen_ok, invoke, builtin, e, e', hrun]
      · simp [T.at_bad] at h
    · rename_i hc
      split at h
      · rename_i s x t u hx1 ht1
        replace h := gE_at.1 h; obtain ⟨sv, hsv, h⟩ := h
        replace h := gE_at.1 h; obtain ⟨xv, hxv, h⟩ := h
        replace h := tyE_at.1 h; obtain ⟨ui, hui, h⟩ := h
        split at h
        · simp [T.at_bad] at h
        rename_i hun
        obtain ⟨y, w', hrun, ht⟩ := appendE_sound ok hx hui (fun k hk => hun k hk) h hs (fun L' ha => hg L' ha _ _ hsv) (fun L' ha => hg L' ha _ _ hxv) o.type
        refine ⟨_, _, w', ?_, .inl rfl, ht⟩
        unfold execOp; rw [ho]
        have e : c.args.map a = #[a s, a x] := Array.toList_inj.1 (by simp [hx1])
        have e' : c.argTypes = #[t, u] := Array.toList_inj.1 (by simp [ht1])
        simp only [resolve, hc, Sem.run_bind, Sem.run_pure, Result.andThen_ok, invoke, builtin, e, e', hrun]
      · simp [T.at_bad] at h
    · rename_i hc
      split at h
      · rename_i s x t u hx1 ht1
        replace h := gE_at.1 h; obtain ⟨sv, hsv, h⟩ := h
        replace h := gE_at.1 h; obtain ⟨xv, hxv, h⟩ := h
        obtain ⟨y, w', hrun, ht⟩ := copyE_sound (u := u) ok hx h hs (fun L' ha => hg L' ha _ _ hsv) (fun L' ha => hg L' ha _ _ hxv) o.type
        refine ⟨_, _, w', ?_, .inl rfl, ht⟩
        unfold execOp; rw [ho]
        have e : c.args.map a = #[a s, a x] := Array.toList_inj.1 (by simp [hx1])
        have e' : c.argTypes = #[t, u] := Array.toList_inj.1 (by simp [ht1])
        simp only [resolve, hc, Sem.run_bind, Sem.run_pure, Result.andThen_ok, invoke, builtin, e, e', hrun]
      · simp [T.at_bad] at h
    · rename_i hc
      split at h
      · rename_i s x t u hx1 ht1
        replace h := gE_at.1 h; obtain ⟨sv, hsv, h⟩ := h
        replace h := gE_at.1 h; obtain ⟨xv, hxv, h⟩ := h
        replace h := stE_at h; obtain ⟨rfl, h⟩ := h
        obtain ⟨w', hrun, ht⟩ := mapDelE_sound ok hx h hs (fun L' ha => hg L' ha _ _ hsv) (fun L' ha => hg L' ha _ _ hxv) o.type #[t, u] rfl
        refine ⟨_, _, w', ?_, .inl rfl, ht⟩
        unfold execOp; rw [ho]
        have e : c.args.map a = #[a s, a x] := Array.toList_inj.1 (by simp [hx1])
        have e' : c.argTypes = #[t, u] := Array.toList_inj.1 (by simp [ht1])
        simp only [resolve, hc, Sem.run_bind, Sem.run_pure, Result.andThen_ok, invoke, builtin, e, e', hrun]
      · simp [T.at_bad] at h
    · simp [T.at_bad] at h
  case h_8 it =>
    replace h := gE_at.1 h; obtain ⟨xv, hxv, h⟩ := h
    obtain ⟨y, hrun, ht⟩ := entryE_sound (P := P) hx h hs (fun L' ha => hg L' ha _ _ hxv)
    refine ⟨_, _, w, ?_, .inl rfl, ht⟩
    unfold execOp; rw [ho]
    simp only [Sem.run_bind, hrun, Result.andThen_ok]; rfl
  case h_9 => simp [T.at_bad] at h
end Ab
