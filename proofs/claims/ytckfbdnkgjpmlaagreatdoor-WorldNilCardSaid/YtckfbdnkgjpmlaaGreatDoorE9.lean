/- E, part 9: slicing, building, and all the operations that look at no memory together. -/
import Derived.Test.YtckfbdnkgjpmlaaGreatDoorE8
namespace Ab
open Go

variable {P : Program} {cx : Ctx} {ρ : Env}

/-! ## Slices of slices -/
theorem run_bound {v : AV} {k : IntKind} {n y : Nat} {code : BoundsCode} (hv : ∀ L, conc L ρ v = .int k (.ofNat n)) (hn : n ≤ y) (L : Nat → Loc) (w : World) :
    (Instr.sliceBound (conc L ρ v) y code).run P w = .ok n w := by
  rw [hv L]
  simp only [Instr.sliceBound, asIntOf, Sem.run_bind, Sem.run_pure, Result.andThen_ok]
  have : (0 : Int) ≤ Int.ofNat n ∧ Int.ofNat n ≤ (y : Int) := ⟨Int.natCast_nonneg n, by show (n : Int) ≤ y; omega⟩
  simp only [this, and_self, if_true]
  rfl
theorem boundsE_at {β : Type} {fx : Facts} {len cap : Nat} {lo hi mx : Option AV} {f : Nat → Nat → Option Nat → T β} {r : β} (hx : FxOk ρ fx)
    (h : (boundsE fx len cap lo hi mx f).at_ ρ = some r) :
    ∃ l hh m, (f l hh m).at_ ρ = some r ∧ l ≤ hh ∧ (∀ k, m = some k → k ≤ cap ∧ hh ≤ k ∧ mx.isSome = true) ∧ (m = none → mx = none ∧ (hh = len ∨ hh ≤ cap)) ∧
      ∀ (L : Nat → Loc) (w : World) (isSlice : Bool) (C : Nat), cap ≤ C →
        (Instr.sliceBounds isSlice len C (lo.map (conc L ρ)) (hi.map (conc L ρ)) (mx.map (conc L ρ))).run P w = .ok (l, hh, m.getD C) w := by
  have withLo : ∀ (hh : Nat) (m : Option Nat), (match lo with | none => f 0 hh m | some v => constN fx v fun l => T.chk (Nat.ble l hh) 70 (f l hh m)).at_ ρ = some r →
      ∃ l, (f l hh m).at_ ρ = some r ∧ l ≤ hh ∧ ((lo = none ∧ l = 0) ∨ ∃ v, lo = some v ∧ ∀ (L : Nat → Loc) (w : World) (code : BoundsCode), (Instr.sliceBound (conc L ρ v) hh code).run P w = .ok l w) := by
    intro hh m h
    cases lo with
    | none => exact ⟨0, h, Nat.zero_le _, .inl ⟨rfl, rfl⟩⟩
    | some v =>
      replace h := constN_at hx h
      obtain ⟨k, l, hv, h⟩ := h
      replace h := chk_at h
      obtain ⟨hl, h⟩ := h
      have hl := Nat.le_of_ble_eq_true hl
      exact ⟨l, h, hl, .inr ⟨v, rfl, fun L w code => run_bound hv hl L w⟩⟩
  unfold boundsE at h
  dsimp only at h
  cases mx with
  | none =>
    cases hi with
    | none =>
      obtain ⟨l, h, hl, hrun⟩ := withLo len none h
      refine ⟨l, len, none, h, hl, by simp, fun _ => ⟨rfl, .inl rfl⟩, fun L w b C hC => ?_⟩
      rcases hrun with ⟨rfl, rfl⟩ | ⟨v', rfl, hrun⟩
      · simp [Instr.sliceBounds]
      · simp [Instr.sliceBounds, hrun]
    | some v =>
      replace h := constN_at hx h
      obtain ⟨k, hh, hv, h⟩ := h
      replace h := chk_at h
      obtain ⟨hc, h⟩ := h
      have hc := Nat.le_of_ble_eq_true hc
      obtain ⟨l, h, hl, hrun⟩ := withLo hh none h
      refine ⟨l, hh, none, h, hl, by simp, fun _ => ⟨rfl, .inr hc⟩, fun L w b C hC => ?_⟩
      rcases hrun with ⟨rfl, rfl⟩ | ⟨v', rfl, hrun⟩
      · simp [Instr.sliceBounds, run_bound hv (Nat.le_trans hc hC)]
      · simp [Instr.sliceBounds, hrun, run_bound hv (Nat.le_trans hc hC)]
  | some u =>
    replace h := constN_at hx h
    obtain ⟨ku, m, hu, h⟩ := h
    replace h := chk_at h
    obtain ⟨hm, h⟩ := h
    have hm := Nat.le_of_ble_eq_true hm
    cases hi with
    | none => simp [T.at_bad] at h
    | some v =>
      replace h := constN_at hx h
      obtain ⟨k, hh, hv, h⟩ := h
      replace h := chk_at h
      obtain ⟨hc, h⟩ := h
      have hc := Nat.le_of_ble_eq_true hc
      obtain ⟨l, h, hl, hrun⟩ := withLo hh (some m) h
      refine ⟨l, hh, some m, h, hl, fun k e => by cases e; exact ⟨hm, hc, rfl⟩, by simp, fun L w b C hC => ?_⟩
      rcases hrun with ⟨rfl, rfl⟩ | ⟨v', rfl, hrun⟩
      · simp [Instr.sliceBounds, run_bound hv hc, run_bound hu (Nat.le_trans hm hC)]
      · simp [Instr.sliceBounds, hrun, run_bound hv hc, run_bound hu (Nat.le_trans hm hC)]

theorem extract_mk (s : List UInt8) (l h : Nat) : (⟨s.toArray⟩ : ByteArray).extract l h = ⟨((s.drop l).take (h - l)).toArray⟩ := by
  apply ByteArray.ext
  rw [ByteArray.data_extract]
  simp [List.extract_toArray]
theorem sliceE_sound (ok : cx.Ok P) {t : TypeId} {x v : AV} {lo hi mx : Option AV} {fx fx' : Facts} (hx : FxOk ρ fx) (h : (sliceE cx t x lo hi mx fx).at_ ρ = some (v, fx')) :
    fx' = fx ∧ ∀ (L : Nat → Loc) (w : World), (Instr.sliceAt t (conc L ρ x) (lo.map (conc L ρ)) (hi.map (conc L ρ)) (mx.map (conc L ρ))).run P w = .ok (conc L ρ v) w := by
  unfold sliceE at h
  replace h := tyE_at.1 h
  obtain ⟨ti, ht, h⟩ := h
  have hd := ok.desc _ _ ht
  split at h
  · rename_i el id off0 off len cap op hdd
    rw [hdd] at hd
    replace h := tyE_at.1 h
    obtain ⟨ei, hei, h⟩ := h
    replace h := boundsE_at (P := P) hx h
    obtain ⟨l, hh, m, h, hl, hms, hmn, hrun⟩ := h
    cases m with
    | none =>
      dsimp only at h
      replace h := chk_at h
      obtain ⟨hlc, h⟩ := h
      have hlc := Nat.le_of_ble_eq_true hlc
      replace h := ret_at h
      obtain ⟨rfl, rfl⟩ := h
      refine ⟨rfl, fun L w => ?_⟩
      have hr := hrun L w true (cap + (if op then (L id).x else 0)) (by omega)
      simp only [conc]
      generalize (if op then (L id).x else 0) = x at hr ⊢
      simp only [Instr.sliceAt, Instr.slice, Sem.run_bind, run_underlying hd, Result.andThen_ok, hr, ok.run_size hei, Sem.run_pure, Option.getD_none]
      have e : Nat.sub cap l + x = cap + x - l := by show cap - l + x = _; omega
      simp only [e]
      have key : (if cap + x = l then some (⟨(L id).b, (L id).o + (if cap + x = 0 then off0 else off), none⟩ : Addr)
          else (some (⟨(L id).b, (L id).o + (if cap + x = 0 then off0 else off), none⟩ : Addr)).map (·.add (l * ei.info.size))) =
          some ⟨(L id).b, (L id).o + (if cap + x - l = 0 then (bif Nat.beq l 0 then off0 else off) else Nat.add off (Nat.mul l ei.info.size)), none⟩ := by
        by_cases hC : cap + x = l
        · rw [if_pos hC, if_pos (by omega : cap + x - l = 0)]
          cases hb : Nat.beq l 0 with
          | true =>
            have := Nat.eq_of_beq_eq_true hb
            rw [if_pos (by omega)]
            rfl
          | false =>
            have := Nat.ne_of_beq_eq_false hb
            rw [if_neg (by omega)]
            rfl
        · rw [if_neg hC, if_neg (by omega : ¬ cap + x = 0), if_neg (by omega : ¬ cap + x - l = 0)]
          simp only [Option.map_some, addr_add]
          congr 2
          show (L id).o + off + l * ei.info.size = (L id).o + (off + l * ei.info.size)
          omega
      simp only [key]
      rfl
    | some m =>
      obtain ⟨hm1, hm2, _⟩ := hms m rfl
      dsimp only at h
      cases hb : Nat.beq cap 0 with
      | true =>
        have hc0 := Nat.eq_of_beq_eq_true hb
        rw [hb] at h
        simp only [cond_true] at h
        cases op with
        | true => simp [T.at_bad] at h
        | false =>
          simp only [cond_false] at h
          replace h := ret_at h
          obtain ⟨rfl, rfl⟩ := h
          refine ⟨rfl, fun L w => ?_⟩
          have hr := hrun L w true cap (by omega)
          obtain rfl : m = 0 := by omega
          obtain rfl : hh = 0 := by omega
          obtain rfl : l = 0 := by omega
          subst hc0
          simp only [conc]
          simp only [Instr.sliceAt, Instr.slice, Sem.run_bind, run_underlying hd, Result.andThen_ok, hr, ok.run_size hei, Sem.run_pure, Option.getD_some, if_true, Bool.false_eq_true, if_false, Nat.add_zero]
      | false =>
        have hc0 := Nat.ne_of_beq_eq_false hb
        rw [hb] at h
        simp only [cond_false] at h
        replace h := ret_at h
        obtain ⟨rfl, rfl⟩ := h
        refine ⟨rfl, fun L w => ?_⟩
        have hr := hrun L w true (cap + (if op then (L id).x else 0)) (by omega)
        simp only [conc]
        generalize (if op then (L id).x else 0) = x at hr ⊢
        simp only [Instr.sliceAt, Instr.slice, Sem.run_bind, run_underlying hd, Result.andThen_ok, hr, ok.run_size hei, Sem.run_pure, Option.getD_some]
        rw [if_neg (by omega : ¬ cap + x = 0)]
        simp only [Bool.false_eq_true, if_false, Nat.add_zero]
        have e : Nat.sub m l = m - l := rfl
        simp only [e]
        by_cases hC : m = l
        · subst hC
          simp
        · rw [if_neg hC, if_neg (by omega : ¬ m - l = 0)]
          simp only [Option.map_some, addr_add]
          congr 3
          show (⟨(L id).b, (L id).o + off + l * ei.info.size, none⟩ : Addr) = ⟨(L id).b, (L id).o + (off + l * ei.info.size), none⟩
          rw [Nat.add_assoc]
  · rename_i el hdd
    rw [hdd] at hd
    replace h := tyE_at.1 h
    obtain ⟨ei, hei, h⟩ := h
    replace h := boundsE_at (P := P) hx h
    obtain ⟨l, hh, m, h, hl, hms, hmn, hrun⟩ := h
    replace h := ret_at h
    obtain ⟨rfl, rfl⟩ := h
    refine ⟨rfl, fun L w => ?_⟩
    have hr := hrun L w true 0 (by omega)
    have h0 : hh = 0 := by
      cases m with
      | none => rcases (hmn rfl).2 with e | e <;> omega
      | some m => obtain ⟨a, b, _⟩ := hms m rfl; omega
    subst h0
    obtain rfl : l = 0 := by omega
    have hm0 : m.getD 0 = 0 := by
      cases m with
      | none => rfl
      | some m => obtain ⟨a, b, _⟩ := hms m rfl; simp; omega
    rw [hm0] at hr
    simp only [conc]
    simp only [Instr.sliceAt, Instr.slice, Sem.run_bind, run_underlying hd, Result.andThen_ok, hr, ok.run_size hei, Sem.run_pure, if_true]
  · rename_i s hdd
    rw [hdd] at hd
    split at h
    · replace h := boundsE_at (P := P) hx h
      obtain ⟨l, hh, m, h, hl, hms, hmn, hrun⟩ := h
      replace h := ret_at h
      obtain ⟨rfl, rfl⟩ := h
      refine ⟨rfl, fun L w => ?_⟩
      have hr := hrun L w false (llen s) (Nat.le_refl _)
      simp only [llen_eq] at hr
      simp only [conc, STm.den]
      simp only [Instr.sliceAt, Instr.slice, Sem.run_bind, run_underlying hd, Result.andThen_ok, Option.map_none, Option.isSome_none, Bool.false_eq_true, if_false, Sem.run_pure, size_mk]
      simp only [Option.map_none] at hr
      rw [hr]
      simp only [Result.andThen_ok, extract_mk, ltake_eq, ldrop_eq]
      rfl
    · simp [T.at_bad] at h
  · rename_i n el id off hdd
    rw [hdd] at hd
    replace h := tyE_at.1 h
    obtain ⟨ei, hei, h⟩ := h
    replace h := boundsE_at (P := P) hx h
    obtain ⟨l, hh, m, h, hl, hms, hmn, hrun⟩ := h
    replace h := ret_at h
    obtain ⟨rfl, rfl⟩ := h
    refine ⟨rfl, fun L w => ?_⟩
    have hr := hrun L w false n (Nat.le_refl _)
    simp only [conc]
    simp only [Instr.sliceAt, Sem.run_bind, run_underlying hd, Result.andThen_ok, Instr.sureAddr, Sem.run_pure, hr, ok.run_size hei, Bool.false_eq_true, if_false, Nat.add_zero]
    have hlM : l ≤ m.getD n := by
      cases m with
      | none => rcases (hmn rfl).2 with e | e <;> (simp; omega)
      | some k => have := hms k rfl; simp; omega
    generalize m.getD n = M at *
    by_cases hC : M = l
    · subst hC
      simp
    · have : ¬ (Nat.sub M l = 0) := by show ¬ (M - l = 0); omega
      rw [if_neg hC, if_neg this]
      simp only [addr_add]
      congr 3
      show (⟨(L id).b, (L id).o + off + l * ei.info.size, none⟩ : Addr) = ⟨(L id).b, (L id).o + (off + l * ei.info.size), none⟩
      rw [Nat.add_assoc]
  · simp [T.at_bad] at h

/-! ## Values built of parts -/
theorem fold_set (off : Nat) : ∀ (vals : List Value) (j : Nat) (arr : Array Value), off + j + vals.length ≤ arr.size →
    ((vals.zipIdx j).foldl (fun cs (c, i) => cs.setIfInBounds (off + i) c) arr).toList = arr.toList.take (off + j) ++ vals ++ arr.toList.drop (off + j + vals.length) := by
  intro vals
  induction vals with
  | nil => intro j arr h; simp
  | cons v vals ih =>
    intro j arr h
    simp only [List.zipIdx_cons, List.foldl_cons]
    rw [ih (j + 1) _ (by simp at h ⊢; omega)]
    simp only [List.length_cons] at h
    rw [Array.toList_setIfInBounds]
    have hlt : off + j < arr.toList.length := by simp; omega
    rw [List.set_eq_take_append_cons_drop, if_pos hlt]
    generalize arr.toList = l at *
    have hl : (l.take (off + j)).length = off + j := by simp; omega
    have e1 : (l.take (off + j) ++ v :: l.drop (off + j + 1)).take (off + (j + 1)) = l.take (off + j) ++ [v] := by
      rw [List.take_append, hl, show off + (j + 1) - (off + j) = 1 by omega, List.take_of_length_le (by omega)]
      rfl
    have e2 : (l.take (off + j) ++ v :: l.drop (off + j + 1)).drop (off + (j + 1) + vals.length) = l.drop (off + j + (vals.length + 1)) := by
      rw [List.drop_append, hl, show off + (j + 1) + vals.length - (off + j) = vals.length + 1 by omega, List.drop_of_length_le (by omega)]
      simp only [List.nil_append, List.drop_succ_cons, List.drop_drop]
      congr 1
      omega
    rw [e1, e2]
    simp
theorem overlay_cons (place : Nat → Option (Nat × Nat)) (p : Nat × AV) (ps : List (Nat × AV)) (cs : List AV) :
    overlay place (p :: ps) cs = match place p.1 with
      | none => none
      | some (off, size) =>
        bif Nat.beq (llen p.2.cells) size then (bif Nat.ble (Nat.add off size) (llen cs) then overlay place ps (lapp (ltake off cs) (lapp p.2.cells (ldrop (Nat.add off size) cs))) else none) else none := rfl
theorem overlay_fill (L : Nat → Loc) {place : Nat → Option (Nat × Nat)} : ∀ (ps : List (Nat × AV)) (cs cs' : List AV), overlay place ps cs = some cs' →
    Instr.fill place (cs.map (conc L ρ)).toArray (ps.map fun p => (p.1, conc L ρ p.2)) = some (cs'.map (conc L ρ)).toArray := by
  intro ps
  induction ps with
  | nil =>
    intro cs cs' h
    have h : some cs = some cs' := h
    simp only [Option.some.injEq] at h
    subst h
    rfl
  | cons p ps ih =>
    intro cs cs' h
    rw [overlay_cons] at h
    simp only [List.map_cons, Instr.fill]
    cases hp : place p.1 with
    | none => rw [hp] at h; simp at h
    | some os =>
      obtain ⟨off, size⟩ := os
      rw [hp] at h
      dsimp only at h ⊢
      cases h1 : Nat.beq (llen p.2.cells) size with
      | false => rw [h1] at h; simp at h
      | true =>
        have h1' := Nat.eq_of_beq_eq_true h1
        rw [h1] at h
        cases h2 : Nat.ble (Nat.add off size) (llen cs) with
        | false => rw [h2] at h; simp at h
        | true =>
          have h2' := Nat.le_of_ble_eq_true h2
          rw [h2] at h
          simp only [cond_true] at h
          rw [llen_eq] at h1' h2'
          have h2' : off + size ≤ cs.length := h2'
          rw [conc_cells]
          rw [if_neg (by simp; omega)]
          rw [← ih _ _ h]
          congr 1
          apply Array.toList_inj.1
          rw [← Array.foldl_toList, Array.toList_zipIdx]
          have := fold_set off (p.2.cells.map (conc L ρ)) 0 (cs.map (conc L ρ)).toArray (by simp; omega)
          simp only [Nat.add_zero] at this
          rw [this]
          simp only [ltake_eq, ldrop_eq, lapp_eq, List.map_append, List.map_take, List.map_drop, List.length_map, h1']
          simp only [List.append_assoc]
          rfl
end Ab
