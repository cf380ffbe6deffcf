/- E, part 22: what grows whatever the world is; the trace of a region. -/
import Derived.Test.YtckfbdnkgjpmlaaGreatDoorE21
namespace Ab
open Go

variable {P : Program} {cx : Ctx} {ρ : Env}

def Grows (ρ : Env) (st st' : St) : Prop := FxOk ρ st'.fx ∧ st.nx ≤ st'.nx

theorem findE_fx (ok : cx.Ok P) {t : TypeId} {ti : TI} (ht : cx.tt.get t = some ti) {qs : List Nat} (hk : ti.kinds = some qs) {k : AV} {es : List (AV × AV × Nat)} {fx fx' : Facts} {r : Option (Nat × AV)}
    (hx : FxOk ρ fx) (h : (findE ti.agg qs k es 0 fx).at_ ρ = some (r, fx')) : FxOk ρ fx' := (findKey_sound ok ht hk hx h).1

theorem mapSetE_grows (ok : cx.Ok P) {st st' : St} {t : TypeId} {mv kv xv : AV} (hx : FxOk ρ st.fx) (h : (mapSetE cx st t mv kv xv).at_ ρ = some st') : Grows ρ st st' := by
  unfold mapSetE at h
  replace h := tyE_at.1 h; obtain ⟨ti, ht, h⟩ := h
  split at h
  case h_2 => simp [T.at_bad] at h
  replace h := tyE_at.1 h; obtain ⟨ki, hki, h⟩ := h
  replace h := T.at_opt_some.1 h; obtain ⟨qs, hqs, h⟩ := h
  replace h := chk_at h; obtain ⟨hsh, h⟩ := h
  split at h
  case h_2 => simp [T.at_bad] at h
  replace h := chk_at h; obtain ⟨hid, h⟩ := h
  replace h := withMap_at h; obtain ⟨es, ck, ho, h⟩ := h
  replace h := T.at_bind_some.1 h
  obtain ⟨⟨r, fx1⟩, hf, h⟩ := h
  have hx1 := findE_fx ok hki hqs hx hf
  cases r with
  | none => replace h := ret1_at h; subst h; exact ⟨hx1, Nat.le_refl _⟩
  | some p => replace h := ret1_at h; subst h; exact ⟨hx1, Nat.le_refl _⟩
theorem mapDelE_grows (ok : cx.Ok P) {st st' : St} {t : TypeId} {mv kv : AV} (hx : FxOk ρ st.fx) (h : (mapDelE cx st t mv kv).at_ ρ = some st') : Grows ρ st st' := by
  unfold mapDelE at h
  replace h := tyE_at.1 h; obtain ⟨ti, ht, h⟩ := h
  split at h
  case h_2 => simp [T.at_bad] at h
  replace h := tyE_at.1 h; obtain ⟨ki, hki, h⟩ := h
  replace h := T.at_opt_some.1 h; obtain ⟨qs, hqs, h⟩ := h
  replace h := chk_at h; obtain ⟨hsh, h⟩ := h
  split at h
  case h_3 => simp [T.at_bad] at h
  case h_1 => replace h := ret1_at h; subst h; exact ⟨hx, Nat.le_refl _⟩
  replace h := chk_at h; obtain ⟨hid, h⟩ := h
  replace h := withMap_at h; obtain ⟨es, ck, ho, h⟩ := h
  replace h := T.at_bind_some.1 h
  obtain ⟨⟨r, fx1⟩, hf, h⟩ := h
  have hx1 := findE_fx ok hki hqs hx hf
  cases r with
  | none => replace h := ret1_at h; subst h; exact ⟨hx1, Nat.le_refl _⟩
  | some p => replace h := ret1_at h; subst h; exact ⟨hx1, Nat.le_refl _⟩
theorem storeE_grows {st st' : St} {t : TypeId} {av xv : AV} (hx : FxOk ρ st.fx) (h : (storeE cx st t av xv).at_ ρ = some st') : Grows ρ st st' := by
  unfold storeE at h
  split at h
  case h_2 => simp [T.at_bad] at h
  replace h := chk_at h; obtain ⟨hid, h⟩ := h
  replace h := tyE_at.1 h; obtain ⟨ti, ht, h⟩ := h
  replace h := withCells_at h; obtain ⟨tr, d, n, el, sz, ho, h⟩ := h
  replace h := chk_at h; obtain ⟨hl, h⟩ := h
  replace h := chk_at h; obtain ⟨hone, h⟩ := h
  replace h := chk_at h; obtain ⟨hn, h⟩ := h
  replace h := ret1_at h; subst h
  exact ⟨hx, Nat.le_refl _⟩
theorem clearE_grows {st st' : St} {t : TypeId} {xv : AV} (hx : FxOk ρ st.fx) (h : (clearE cx st t xv).at_ ρ = some st') : Grows ρ st st' := by
  unfold clearE at h
  replace h := tyE_at.1 h; obtain ⟨ti, ht, h⟩ := h
  split at h
  case h_5 => simp [T.at_bad] at h
  case h_1 => replace h := ret1_at h; subst h; exact ⟨hx, Nat.le_refl _⟩
  case h_2 => replace h := ret1_at h; subst h; exact ⟨hx, Nat.le_refl _⟩
  case h_3 =>
    replace h := chk_at h; obtain ⟨hid, h⟩ := h
    replace h := withMap_at h; obtain ⟨es, ck, ho, h⟩ := h
    replace h := ret1_at h; subst h; exact ⟨hx, Nat.le_refl _⟩
  case h_4 _ _ el id off0 off len cap op hdd =>
    cases hn : Nat.beq len 0 with
    | true => rw [hn, cond_true] at h; replace h := ret1_at h; subst h; exact ⟨hx, Nat.le_refl _⟩
    | false =>
      rw [hn, cond_false] at h
      replace h := tyE_at.1 h; obtain ⟨ei, hei, h⟩ := h
      replace h := T.at_opt_some.1 h; obtain ⟨z, hz, h⟩ := h
      replace h := chk_at h; obtain ⟨hid, h⟩ := h
      replace h := chk_at h; obtain ⟨hc, h⟩ := h
      replace h := withCells_at h; obtain ⟨tr, d, n, el', sz, ho, h⟩ := h
      replace h := chk_at h; obtain ⟨hzl, h⟩ := h
      replace h := chk_at h; obtain ⟨hone, h⟩ := h
      replace h := chk_at h; obtain ⟨hk, h⟩ := h
      replace h := ret1_at h; subst h; exact ⟨hx, Nat.le_refl _⟩
theorem strBytesE_grows {st st' : St} {src dst : TypeId} {xv v : AV} (hx : FxOk ρ st.fx) (h : (strBytesE cx st src dst xv).at_ ρ = some (v, st')) : Grows ρ st st' := by
  unfold strBytesE at h
  replace h := tyE_at.1 h; obtain ⟨si, hsi, h⟩ := h
  replace h := tyE_at.1 h; obtain ⟨di, hdi, h⟩ := h
  split at h
  case h_2 => simp [T.at_bad] at h
  replace h := tyE_at.1 h; obtain ⟨ei, hei, h⟩ := h
  split at h
  case h_2 => simp [T.at_bad] at h
  replace h := ret_at h; obtain ⟨rfl, rfl⟩ := h
  exact ⟨hx, Nat.le_succ _⟩
theorem rangeE_grows {st st' : St} {t : TypeId} {xv v : AV} (hx : FxOk ρ st.fx) (h : (rangeE cx st t xv).at_ ρ = some (v, st')) : Grows ρ st st' := by
  unfold rangeE at h
  replace h := tyE_at.1 h; obtain ⟨ti, ht, h⟩ := h
  split at h
  case h_3 => simp [T.at_bad] at h
  case h_1 => replace h := ret_at h; obtain ⟨rfl, rfl⟩ := h; exact ⟨hx, Nat.le_succ _⟩
  case h_2 =>
    replace h := withMap_at h; obtain ⟨es, ck, ho, h⟩ := h
    replace h := ret_at h; obtain ⟨rfl, rfl⟩ := h; exact ⟨hx, Nat.le_succ _⟩
theorem nextE_grows {st st' : St} {xv v : AV} (hx : FxOk ρ st.fx) (h : (nextE st xv).at_ ρ = some (v, st')) : Grows ρ st st' := by
  unfold nextE at h
  split at h
  case h_2 => simp [T.at_bad] at h
  replace h := chk_at h; obtain ⟨hid, h⟩ := h
  replace h := T.at_opt_some.1 h; obtain ⟨o, ho, h⟩ := h
  split at h
  case h_3 => simp [T.at_bad] at h
  case h_1 => replace h := ret_at h; obtain ⟨rfl, rfl⟩ := h; exact ⟨hx, Nat.le_refl _⟩
  replace h := withMap_at h; obtain ⟨es, ck, hm, h⟩ := h
  replace h := chk_at h; obtain ⟨hel, h⟩ := h
  split at h
  case h_3 => simp [T.at_bad] at h
  · replace h := ret_at h; obtain ⟨rfl, rfl⟩ := h; exact ⟨hx, Nat.le_refl _⟩
  · replace h := chk_at h; obtain ⟨hsi, h⟩ := h
    replace h := ret_at h; obtain ⟨rfl, rfl⟩ := h; exact ⟨hx, Nat.le_refl _⟩
theorem entryE_grows {st st' : St} {xv v : AV} (hx : FxOk ρ st.fx) (h : (entryE st xv).at_ ρ = some (v, st')) : Grows ρ st st' := by
  unfold entryE at h
  split at h
  case h_2 => simp [T.at_bad] at h
  replace h := chk_at h; obtain ⟨hid, h⟩ := h
  replace h := T.at_opt_some.1 h; obtain ⟨o, ho, h⟩ := h
  split at h
  case h_2 => simp [T.at_bad] at h
  replace h := T.at_opt_some.1 h; obtain ⟨s, hs, h⟩ := h
  replace h := withMap_at h; obtain ⟨es, ck, hm, h⟩ := h
  replace h := chk_at h; obtain ⟨hck, h⟩ := h
  replace h := T.at_opt_some.1 h; obtain ⟨e, he, h⟩ := h
  replace h := ret_at h; obtain ⟨rfl, rfl⟩ := h; exact ⟨hx, Nat.le_refl _⟩
theorem lenOfE_at' {x : AV} {f : Nat → T (AV × St)} {r : AV × St} (h : (lenOfE x f).at_ ρ = some r) : ∃ n, (f n).at_ ρ = some r := by
  unfold lenOfE at h
  split at h
  · exact ⟨_, h⟩
  · exact ⟨_, h⟩
  · exact ⟨_, h⟩
  · simp [T.at_bad] at h
theorem copyE_grows {st st' : St} {t : TypeId} {dv xv v : AV} (hx : FxOk ρ st.fx) (h : (copyE cx st t dv xv).at_ ρ = some (v, st')) : Grows ρ st st' := by
  unfold copyE at h
  replace h := tyE_at.1 h; obtain ⟨ti, ht, h⟩ := h
  split at h
  case h_2 => simp [T.at_bad] at h
  replace h := tyE_at.1 h; obtain ⟨ei, hei, h⟩ := h
  replace h := chk_at h; obtain ⟨hsize, h⟩ := h
  replace h := lenOfE_at' h; obtain ⟨m, h⟩ := h
  split at h
  case h_3 => simp [T.at_bad] at h
  case h_1 => replace h := ret_at h; obtain ⟨rfl, rfl⟩ := h; exact ⟨hx, Nat.le_refl _⟩
  rename_i id off0 off len cap op
  simp only at h
  cases hn : Nat.beq (bif Nat.ble m len then m else len) 0 with
  | true => rw [hn, cond_true] at h; replace h := ret_at h; obtain ⟨rfl, rfl⟩ := h; exact ⟨hx, Nat.le_refl _⟩
  | false =>
    rw [hn, cond_false] at h
    replace h := T.at_bind_some.1 h
    obtain ⟨cs, hcs, h⟩ := h
    replace h := chk_at h; obtain ⟨hid, h⟩ := h
    replace h := chk_at h; obtain ⟨hc, h⟩ := h
    replace h := withCells_at h; obtain ⟨tr, dd, k, el', sz, ho, h⟩ := h
    replace h := chk_at h; obtain ⟨hone, h⟩ := h
    replace h := chk_at h; obtain ⟨hk, h⟩ := h
    replace h := ret_at h; obtain ⟨rfl, rfl⟩ := h; exact ⟨hx, Nat.le_refl _⟩
theorem appNew_grows {st st' : St} {el size n len : Nat} {new : List AV} {sv v : AV} (hx : FxOk ρ st.fx) (h : (appNew st el size n new sv len).at_ ρ = some (v, st')) : Grows ρ st st' := by
  unfold appNew at h
  replace h := T.at_bind_some.1 h
  obtain ⟨old, hold, h⟩ := h
  replace h := chk_at h; obtain ⟨hol, h⟩ := h
  replace h := ret_at h; obtain ⟨rfl, rfl⟩ := h
  exact ⟨hx, Nat.le_succ _⟩
theorem appendE_grows {st st' : St} {t : TypeId} {sv xv v : AV} (hx : FxOk ρ st.fx) (h : (appendE cx st t sv xv).at_ ρ = some (v, st')) : Grows ρ st st' := by
  unfold appendE at h
  replace h := tyE_at.1 h; obtain ⟨ti, ht, h⟩ := h
  split at h
  case h_2 => simp [T.at_bad] at h
  replace h := tyE_at.1 h; obtain ⟨ei, hei, h⟩ := h
  replace h := chk_at h; obtain ⟨hsize, h⟩ := h
  replace h := T.at_opt_some.1 h; obtain ⟨z, hz, h⟩ := h
  replace h := chk_at h; obtain ⟨hzl, h⟩ := h
  replace h := lenOfE_at' h; obtain ⟨n, h⟩ := h
  replace h := chk_at h; obtain ⟨hnb, h⟩ := h
  replace h := T.at_bind_some.1 h
  obtain ⟨new, hnew, h⟩ := h
  replace h := chk_at h; obtain ⟨hnl, h⟩ := h
  unfold appTo at h
  split at h
  case h_3 => simp [T.at_bad] at h
  case h_1 =>
    cases hn : Nat.beq n 0 with
    | true => rw [hn, cond_true] at h; replace h := ret_at h; obtain ⟨rfl, rfl⟩ := h; exact ⟨hx, Nat.le_refl _⟩
    | false => rw [hn, cond_false] at h; exact appNew_grows hx h
  rename_i id off0 off len cap op
  cases hc : Nat.ble (Nat.add len n) cap with
  | true =>
    rw [hc, cond_true] at h
    unfold appIn at h
    cases hn : Nat.beq n 0 with
    | true => rw [hn, cond_true] at h; replace h := ret_at h; obtain ⟨rfl, rfl⟩ := h; exact ⟨hx, Nat.le_refl _⟩
    | false =>
      rw [hn, cond_false] at h
      replace h := chk_at h; obtain ⟨hid, h⟩ := h
      replace h := withCells_at h; obtain ⟨tr, d, m, el', sz, ho, h⟩ := h
      replace h := chk_at h; obtain ⟨hone, h⟩ := h
      replace h := chk_at h; obtain ⟨hm, h⟩ := h
      replace h := ret_at h; obtain ⟨rfl, rfl⟩ := h; exact ⟨hx, Nat.le_refl _⟩
  | false =>
    rw [hc, cond_false] at h
    cases hn : Nat.beq n 0 with
    | true => rw [hn, cond_true] at h; simp [T.at_bad] at h
    | false =>
      rw [hn, cond_false] at h
      replace h := chk_at h; obtain ⟨hb, h⟩ := h
      cases op with
      | true =>
        rw [cond_true] at h
        unfold appOpen at h
        replace h := chk_at h; obtain ⟨hid, h⟩ := h
        replace h := chk_at h; obtain ⟨hlc, h⟩ := h
        replace h := chk_at h; obtain ⟨hcap, h⟩ := h
        replace h := withCells_at h; obtain ⟨tr, d, m, el', sz, ho, h⟩ := h
        replace h := chk_at h; obtain ⟨hel, h⟩ := h
        replace h := chk_at h; obtain ⟨hsz, h⟩ := h
        replace h := chk_at h; obtain ⟨hm, h⟩ := h
        replace h := chk_at h; obtain ⟨hone, h⟩ := h
        replace h := T.at_opt_some.1 h; obtain ⟨old, hold, h⟩ := h
        replace h := ret_at h; obtain ⟨rfl, rfl⟩ := h; exact ⟨hx, Nat.le_succ _⟩
      | false => rw [cond_false] at h; exact appNew_grows hx h
theorem writeE_grows (ok : cx.Ok P) {g : Operand → Option AV} {op : Op} {st st' : St} {v : AV} (hx : FxOk ρ st.fx) (h : (writeE cx g op st).at_ ρ = some (v, st')) : Grows ρ st st' := by
  unfold writeE at h
  split at h
  case h_1 =>
    replace h := gE_at.1 h; obtain ⟨av, hav, h⟩ := h
    replace h := gE_at.1 h; obtain ⟨xv, hxv, h⟩ := h
    exact storeE_grows hx (stE_at h).2
  case h_2 =>
    replace h := gE_at.1 h; obtain ⟨mv, hmv, h⟩ := h
    replace h := gE_at.1 h; obtain ⟨kv, hkv, h⟩ := h
    replace h := gE_at.1 h; obtain ⟨xv, hxv, h⟩ := h
    exact mapSetE_grows ok hx (stE_at h).2
  case h_3 =>
    replace h := gE_at.1 h; obtain ⟨mv, hmv, h⟩ := h
    replace h := gE_at.1 h; obtain ⟨kv, hkv, h⟩ := h
    replace h := gE_at.1 h; obtain ⟨xv, hxv, h⟩ := h
    exact mapSetE_grows ok hx (stE_at h).2
  case h_4 =>
    replace h := gE_at.1 h; obtain ⟨xv, hxv, h⟩ := h
    exact strBytesE_grows hx h
  case h_5 =>
    replace h := gE_at.1 h; obtain ⟨xv, hxv, h⟩ := h
    exact rangeE_grows hx h
  case h_6 it isS =>
    cases isS with
    | true => rw [cond_true] at h; simp [T.at_bad] at h
    | false =>
      rw [cond_false] at h
      replace h := gE_at.1 h; obtain ⟨xv, hxv, h⟩ := h
      exact nextE_grows hx h
  case h_7 c =>
    split at h
    · split at h
      · replace h := gE_at.1 h; obtain ⟨u, hu, h⟩ := h
        exact clearE_grows hx (stE_at h).2
      · simp [T.at_bad] at h
    · split at h
      · replace h := gE_at.1 h; obtain ⟨sv, hsv, h⟩ := h
        replace h := gE_at.1 h; obtain ⟨xv, hxv, h⟩ := h
        replace h := tyE_at.1 h; obtain ⟨ui, hui, h⟩ := h
        split at h
        · simp [T.at_bad] at h
        exact appendE_grows hx h
      · simp [T.at_bad] at h
    · split at h
      · replace h := gE_at.1 h; obtain ⟨sv, hsv, h⟩ := h
        replace h := gE_at.1 h; obtain ⟨xv, hxv, h⟩ := h
        exact copyE_grows hx h
      · simp [T.at_bad] at h
    · split at h
      · replace h := gE_at.1 h; obtain ⟨sv, hsv, h⟩ := h
        replace h := gE_at.1 h; obtain ⟨xv, hxv, h⟩ := h
        exact mapDelE_grows ok hx (stE_at h).2
      · simp [T.at_bad] at h
    · simp [T.at_bad] at h
  case h_8 it =>
    replace h := gE_at.1 h; obtain ⟨xv, hxv, h⟩ := h
    exact entryE_grows hx h
  case h_9 => simp [T.at_bad] at h
theorem callE_grows {cf : CallF} (hcf : CallSound P ρ cf) {g : Operand → Option AV} {c : Call} {st st' : St} {v : AV} (hx : FxOk ρ st.fx) (h : (callE cx cf g c st).at_ ρ = some (v, st')) : Grows ρ st st' := by
  unfold callE at h
  replace h := T.at_opt_some.1 h; obtain ⟨args, hargs, h⟩ := h
  split at h
  case h_3 => simp [T.at_bad] at h
  case h_1 =>
    replace h := gE_at.1 h; obtain ⟨u, hu, h⟩ := h
    split at h
    case h_4 => simp [T.at_bad] at h
    case h_3 => exact (hcf.2 _ _ _ _ _ hx h).1
    · exact (hcf.1 _ _ _ _ _ hx h).2.1
    · replace h := T.at_opt_some.1 h; obtain ⟨m, hm, h⟩ := h
      replace h := tyE_at.1 h; obtain ⟨ti, ht, h⟩ := h
      split at h
      · exact (hcf.1 _ _ _ _ _ hx h).2.1
      · simp [T.at_bad] at h
      · simp [T.at_bad] at h
      · exact (hcf.1 _ _ _ _ _ hx h).2.1
  case h_2 =>
    replace h := gE_at.1 h; obtain ⟨u, hu, h⟩ := h
    split at h
    case h_2 => simp [T.at_bad] at h
    replace h := T.at_opt_some.1 h; obtain ⟨m, hm, h⟩ := h
    replace h := tyE_at.1 h; obtain ⟨ti, ht, h⟩ := h
    split at h
    · exact (hcf.1 _ _ _ _ _ hx h).2.1
    · simp [T.at_bad] at h
    · simp [T.at_bad] at h
    · exact (hcf.1 _ _ _ _ _ hx h).2.1
theorem opE_grows (ok : cx.Ok P) {cf : CallF} (hcf : CallSound P ρ cf) {g : Operand → Option AV} {cl : Nat} {op : Op} {st st' : St} {v : AV} (hx : FxOk ρ st.fx) (h : (opE cx cf g cl op st).at_ ρ = some (v, st')) : Grows ρ st st' := by
  unfold opE at h
  split at h
  case h_1 =>
    replace h := T.at_bind_some.1 h
    obtain ⟨⟨v1, fx1⟩, h1, h⟩ := h
    replace h := ret_at h; obtain ⟨rfl, rfl⟩ := h
    exact ⟨(pureE_sound ok hx h1).1, Nat.le_refl _⟩
  case h_2 =>
    replace h := T.at_bind_some.1 h
    obtain ⟨⟨v1, fx1⟩, h1, h⟩ := h
    replace h := ret_at h; obtain ⟨rfl, rfl⟩ := h
    exact ⟨(readE_sound ok hx h1).1, Nat.le_refl _⟩
  case h_3 =>
    replace h := T.at_bind_some.1 h
    obtain ⟨⟨ao, f⟩, h1, h⟩ := h
    replace h := ret_at h; obtain ⟨rfl, rfl⟩ := h
    exact ⟨hx, Nat.le_succ _⟩
  case h_4 => exact writeE_grows ok hx h
  case h_5 =>
    split at h
    · exact callE_grows hcf hx h
    · simp [T.at_bad] at h
  case h_6 => simp [T.at_bad] at h
end Ab
