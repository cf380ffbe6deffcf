/- E, part 12: operations that read, together; operations that make memory. -/
import Derived.Test.YtckfbdnkgjpmlaaGreatDoorE11
namespace Ab
open Go

variable {P : Program} {cx : Ctx} {ρ : Env}

theorem kinds_shape (ok : cx.Ok P) {t : TypeId} {ti : TI} (ht : cx.tt.get t = some ti) {qs : List Nat} (hk : ti.kinds = some qs) {k : AV} (h : shapeOk ti.agg qs k = true) : Shaped ti.agg qs.length k := by
  have hag := agg_struct ok ht hk
  rw [ok.kinds _ _ ht] at hk
  exact shapeOk_iff h (fun ha => kindsT_plain hk (fun hs => by rw [hag.2 hs] at ha; cases ha))
theorem run_checkKey (ok : cx.Ok P) {t : TypeId} {ti : TI} (ht : cx.tt.get t = some ti) {qs : List Nat} (hk : ti.kinds = some qs) {k : AV} (h : shapeOk ti.agg qs k = true) (L : Nat → Loc) (w : World) (empty : Bool) :
    (Instr.checkKey empty 10000 t (conc L ρ k)).run P w = .ok () w := by
  have hag := agg_struct ok ht hk
  have hs := kinds_shape ok ht hk h
  rw [ok.kinds _ _ ht] at hk
  exact run_checkKey_kinds 8 10000 t qs hk (by omega) L k w ti.agg empty hag hs

theorem lookupE_sound (ok : cx.Ok P) {H : Tr AObj} {t : TypeId} {m k v : AV} {okb : Bool} {fx fx' : Facts} (hx : FxOk ρ fx) (h : (lookupE cx H t m k okb fx).at_ ρ = some (v, fx')) :
    FxOk ρ fx' ∧ ∀ (L : Nat → Loc) (w : World), Sim L ρ H w → (Instr.lookup t (conc L ρ m) (conc L ρ k) okb).run P w = .ok (conc L ρ v) w := by
  unfold lookupE at h
  replace h := tyE_at.1 h; obtain ⟨ti, ht, h⟩ := h
  have hd := ok.desc _ _ ht
  split at h
  case h_2 => simp [T.at_bad] at h
  rename_i kt el hdd
  rw [hdd] at hd
  replace h := tyE_at.1 h; obtain ⟨ki, hki, h⟩ := h
  replace h := T.at_opt_some.1 h; obtain ⟨qs, hqs, h⟩ := h
  replace h := chk_at h; obtain ⟨hsh, h⟩ := h
  replace h := tyE_at.1 h; obtain ⟨ei, hei, h⟩ := h
  replace h := T.at_opt_some.1 h; obtain ⟨z, hz, h⟩ := h
  have hck := fun L w e => run_checkKey (ρ := ρ) ok hki hqs hsh L w e
  have hzr := fun L w => ok.run_zero (ρ := ρ) hei hz L w
  split at h
  · replace h := ret_at h; obtain ⟨rfl, rfl⟩ := h
    refine ⟨hx, fun L w hs => ?_⟩
    obtain ⟨dk, hdk⟩ : ∃ dk, P.underlying kt = some dk := ⟨_, ok.desc _ _ hki⟩
    have hfk : (Instr.findKey kt (conc L ρ k) []).run P w = .ok none w := by
      unfold Instr.findKey
      simp only [Sem.run_bind, run_underlying hdk, Result.andThen_ok, Instr.findNow]
      rfl
    simp only [conc, Instr.lookup, Sem.run_bind, run_underlying hd, Result.andThen_ok, Sem.run_pure, hck, hfk, hzr L w]
    cases okb <;> simp [conc, concs]
  · rename_i id
    replace h := withMap_at h; obtain ⟨es, ck, ho, h⟩ := h
    replace h := T.at_bind_some.1 h; obtain ⟨⟨r, fx1⟩, hf, h⟩ := h
    obtain ⟨hx1, hrun, _⟩ := findKey_sound ok hki hqs hx hf
    dsimp only at h
    have main : ∀ (L : Nat → Loc) (w : World), Sim L ρ H w → (Instr.lookup t (.map (some (L id).b)) (conc L ρ k) okb).run P w =
        .ok (match r with | some (_, u) => (if okb then .tuple #[conc L ρ u, .bool true] else conc L ρ u) | none => (if okb then .tuple #[conc L ρ z, .bool false] else conc L ρ z)) w := by
      intro L w hs
      have hg := run_getObj (P := P) (hs.map ho) rfl
      unfold Instr.lookup
      simp only [Sem.run_bind, run_underlying hd, Result.andThen_ok, Sem.run_pure, hck, hg, hrun L w]
      cases r with
      | none => simp [concF, hzr L w]
      | some p => simp [concF]
    cases r with
    | none =>
      replace h := ret_at h; obtain ⟨rfl, rfl⟩ := h
      refine ⟨hx1, fun L w hs => ?_⟩
      have := main L w hs
      simp only [conc] at this ⊢
      rw [this]
      cases okb <;> simp [conc, concs]
    | some p =>
      obtain ⟨j, u⟩ := p
      replace h := ret_at h; obtain ⟨rfl, rfl⟩ := h
      refine ⟨hx1, fun L w hs => ?_⟩
      have := main L w hs
      simp only [conc] at this ⊢
      rw [this]
      cases okb <;> simp [conc, concs]
  · simp [T.at_bad] at h

theorem lenE_sound (ok : cx.Ok P) {H : Tr AObj} {t : TypeId} {x v : AV} {fx fx' : Facts} (h : (lenE cx H t x fx).at_ ρ = some (v, fx')) :
    fx' = fx ∧ ∀ (L : Nat → Loc) (w : World) (ty : TypeId), Sim L ρ H w → (Builtin.len_ #[t] ty #[conc L ρ x]).run P w = .ok (conc L ρ v) w := by
  unfold lenE at h
  replace h := tyE_at.1 h; obtain ⟨ti, ht, h⟩ := h
  have hd := ok.desc _ _ ht
  split at h
  case h_1 s hdd =>
    rw [hdd] at hd
    replace h := ret_at h; obtain ⟨rfl, rfl⟩ := h
    refine ⟨rfl, fun L w ty hs => ?_⟩
    simp [Builtin.len_, run_underlying hd, conc, STm.den, size_mk, Tm.den, llen_eq, goInt]
  case h_2 i hdd =>
    rw [hdd] at hd
    replace h := ret_at h; obtain ⟨rfl, rfl⟩ := h
    refine ⟨rfl, fun L w ty hs => ?_⟩
    simp [Builtin.len_, run_underlying hd, conc, STm.den, size_mk, Tm.den, goInt]
  case h_3 l hdd =>
    rw [hdd] at hd
    replace h := ret_at h; obtain ⟨rfl, rfl⟩ := h
    refine ⟨rfl, fun L w ty hs => ?_⟩
    simp [Builtin.len_, run_underlying hd, conc, STm.den, size_mk, Tm.den, llen_eq, goInt]
  case h_4 hdd =>
    rw [hdd] at hd
    replace h := ret_at h; obtain ⟨rfl, rfl⟩ := h
    refine ⟨rfl, fun L w ty hs => ?_⟩
    simp [Builtin.len_, run_underlying hd, conc, Tm.den, goInt]
  case h_5 hdd =>
    rw [hdd] at hd
    replace h := ret_at h; obtain ⟨rfl, rfl⟩ := h
    refine ⟨rfl, fun L w ty hs => ?_⟩
    simp [Builtin.len_, run_underlying hd, conc, Tm.den, goInt]
  case h_6 i hdd =>
    rw [hdd] at hd
    replace h := ret_at h; obtain ⟨rfl, rfl⟩ := h
    refine ⟨rfl, fun L w ty hs => ?_⟩
    simp [Builtin.len_, run_underlying hd, conc, Tm.den, goInt]
  case h_7 hdd =>
    rw [hdd] at hd
    replace h := ret_at h; obtain ⟨rfl, rfl⟩ := h
    refine ⟨rfl, fun L w ty hs => ?_⟩
    simp [Builtin.len_, run_underlying hd, conc, Tm.den, goInt]
  case h_8 id hdd =>
    rw [hdd] at hd
    replace h := withMap_at h; obtain ⟨es, ck, ho, h⟩ := h
    replace h := ret_at h; obtain ⟨rfl, rfl⟩ := h
    refine ⟨rfl, fun L w ty hs => ?_⟩
    have hg := run_getObj (P := P) (hs.map ho) rfl
    simp [Builtin.len_, run_underlying hd, conc, hg, Tm.den, llen_eq, goInt]
  case h_9 n hdd =>
    rw [hdd] at hd
    replace h := ret_at h; obtain ⟨rfl, rfl⟩ := h
    refine ⟨rfl, fun L w ty hs => ?_⟩
    simp [Builtin.len_, run_underlying hd, conc, Tm.den, goInt]
  case h_10 => simp [T.at_bad] at h

theorem constBytes_map {l : List Tm} {r : List UInt8} (h : constBytes l = some r) : l.map (fun t => byteOf (t.den ρ)) = r := by
  have := lopt_map (fun x : UInt8 => x) (fun t : Tm => byteOf (t.den ρ)) (by
    intro x y hxy
    split at hxy
    · simp at hxy; subst hxy; rfl
    · cases hxy) h
  simpa using this.symm
theorem textOf_den (l : List Tm) : (textOf l).den ρ = l.map fun t => byteOf (t.den ρ) := by
  unfold textOf
  cases h : constBytes l with
  | none => rfl
  | some r => exact (constBytes_map h).symm
theorem bytesOf_map {l : List AV} {r : List Tm} (L : Nat → Loc) (h : bytesOf l = some r) : l.map (conc L ρ) = r.map fun t => .int .u8 (t.den ρ) := by
  have := lopt_map (fun t : Tm => (Value.int .u8 (t.den ρ))) (conc L ρ) (by
    intro x y hxy
    split at hxy
    · simp at hxy; subst hxy; simp [conc]
    · cases hxy) h
  exact this.symm
theorem run_bytesString {w : World} {b s len cap : Nat} {ts : List Tm} (h : (loadCells ⟨b, s, none⟩ len).run P w = .ok (ts.map fun t => Value.int .u8 (t.den ρ)).toArray w) :
    (Conv.bytesToString (.slice (some ⟨b, s, none⟩) len cap)).run P w = .ok (.string ⟨(ts.map fun t => byteOf (t.den ρ)).toArray⟩) w := by
  unfold Conv.bytesToString
  simp only [Sem.run_bind, h, Result.andThen_ok]
  rw [← Array.forIn_toList]
  have key : ∀ (ts : List Tm) (acc : ByteArray), (forIn (ts.map fun t => Value.int .u8 (t.den ρ)) acc fun c (r : ByteArray) =>
      (match c with
        | .int .u8 n => pure (ForInStep.yield (r.push (UInt8.ofNat n.toNat)))
        | _ => do
          stuck "bytesToString: byte expected"
          pure (ForInStep.yield r) : Sem (ForInStep ByteArray))).run P w = .ok ⟨acc.data ++ (ts.map fun t => byteOf (t.den ρ)).toArray⟩ w := by
    intro ts
    induction ts with
    | nil => intro acc; simp
    | cons t ts ih =>
      intro acc
      simp only [List.map_cons, List.forIn_cons, Sem.run_bind, Sem.run_pure, Result.andThen_ok]
      rw [ih]
      congr 1
      apply ByteArray.ext
      simp [ByteArray.push, byteOf]
  have := key ts ByteArray.empty
  refine (congrArg (fun r => Result.andThen r (fun a w' => Sem.run P (pure (Value.string a)) w')) this).trans ?_
  simp only [Result.andThen_ok, Sem.run_pure]
  congr 2
  apply ByteArray.ext
  simp
theorem bytesStrE_sound (ok : cx.Ok P) {H : Tr AObj} {s d : TypeId} {x v : AV} {fx fx' : Facts} (h : (bytesStrE cx H s d x fx).at_ ρ = some (v, fx')) :
    fx' = fx ∧ ∀ (L : Nat → Loc) (w : World), Sim L ρ H w → (convert s d (conc L ρ x)).run P w = .ok (conc L ρ v) w := by
  unfold bytesStrE at h
  replace h := tyE_at.1 h; obtain ⟨si, hsi, h⟩ := h
  replace h := tyE_at.1 h; obtain ⟨di, hdi, h⟩ := h
  have h1 := ok.desc _ _ hsi
  have h2 := ok.desc _ _ hdi
  split at h
  case h_2 => simp [T.at_bad] at h
  rename_i el e1 e2
  rw [e1] at h1
  rw [e2] at h2
  replace h := tyE_at.1 h; obtain ⟨ei, hei, h⟩ := h
  have h3 := ok.desc _ _ hei
  split at h
  case h_2 => simp [T.at_bad] at h
  rename_i e3
  rw [e3] at h3
  have red : ∀ (X : Value) (w : World), (∀ k n, X ≠ .int k n) → (∀ k n, X ≠ .float k n) → (∀ k a b, X ≠ .complex k a b) → (∀ b, X ≠ .string b) →
      (convert s d X).run P w = (Conv.bytesToString X).run P w := by
    intro X w n1 n2 n3 n4
    unfold convert
    simp only [Sem.run_bind, run_underlying h1, run_underlying h2, Result.andThen_ok]
    cases X <;> first
      | exact absurd rfl (n1 _ _)
      | exact absurd rfl (n2 _ _)
      | exact absurd rfl (n3 _ _ _)
      | exact absurd rfl (n4 _)
      | (simp only [run_underlying h3, Result.andThen_ok])
  split at h
  · replace h := ret_at h; obtain ⟨rfl, rfl⟩ := h
    refine ⟨rfl, fun L w hs => ?_⟩
    rw [red _ _ (by simp [conc]) (by simp [conc]) (by simp [conc]) (by simp [conc])]
    simp only [conc, STm.den]
    rfl
  · rename_i id off0 off len cap op
    cases hb : Nat.beq len 0 with
    | true =>
      have hl := Nat.eq_of_beq_eq_true hb
      subst hl
      simp only [hb, cond_true] at h
      replace h := ret_at h; obtain ⟨rfl, rfl⟩ := h
      refine ⟨rfl, fun L w hs => ?_⟩
      rw [red _ _ (by simp [conc]) (by simp [conc]) (by simp [conc]) (by simp [conc])]
      have := run_bytesString (P := P) (ρ := ρ) (w := w) (b := (L id).b) (s := (L id).o + (if cap + (if op then (L id).x else 0) = 0 then off0 else off)) (len := 0) (cap := cap + (if op then (L id).x else 0)) (ts := []) rfl
      simp only [conc]
      exact this
    | false =>
      simp only [hb, cond_false] at h
      replace h := chk_at h; obtain ⟨hc, h⟩ := h
      have hc := Nat.le_of_ble_eq_true hc
      replace h := withCells_at h; obtain ⟨tr, dd, n, el', sz, ho, h⟩ := h
      replace h := chk_at h; obtain ⟨hn, h⟩ := h
      have hn := Nat.le_of_ble_eq_true hn
      replace h := T.at_opt_some.1 h; obtain ⟨cs, hcs, h⟩ := h
      replace h := T.at_opt_some.1 h; obtain ⟨ts, hts, h⟩ := h
      replace h := ret_at h; obtain ⟨rfl, rfl⟩ := h
      refine ⟨rfl, fun L w hs => ?_⟩
      rw [red _ _ (by simp [conc]) (by simp [conc]) (by simp [conc]) (by simp [conc])]
      have hl := hs.cells (P := P) ho hn hcs
      rw [bytesOf_map L hts] at hl
      have := run_bytesString (P := P) (cap := cap + (if op then (L id).x else 0)) hl
      simp only [conc, textOf_den]
      rw [if_neg (by omega)]
      exact this
  · simp [T.at_bad] at h

/-- OPERATIONS THAT READ: in a world in which the heap lies they yield what E says. -/
theorem readE_sound (ok : cx.Ok P) {g : Operand → Option AV} {op : Op} {H : Tr AObj} {v : AV} {fx fx' : Facts} (hx : FxOk ρ fx) (h : (readE cx g op H fx).at_ ρ = some (v, fx')) :
    FxOk ρ fx' ∧ ∀ (L : Nat → Loc) (w : World) (a : Operand → Value) (o : Oper), o.op = op → GRel L ρ g a → Sim L ρ H w → (execOp a o).run P w = .ok (.value (conc L ρ v)) w := by
  unfold readE at h
  split at h
  case h_1 t x =>
    replace h := gE_at.1 h; obtain ⟨u, hu, h⟩ := h
    replace h := T.at_bind_some.1 h; obtain ⟨r, hl, h⟩ := h
    replace h := ret_at h; obtain ⟨rfl, rfl⟩ := h
    refine ⟨hx, fun L w a o ho hg hs => ?_⟩
    obtain ⟨ad, had, hrun⟩ := loadE_sound ok hl L w hs
    unfold execOp; rw [ho]
    simp only [hg _ _ hu, had, Instr.loadAt, Instr.sureAddr, Sem.run_bind, Sem.run_pure, Result.andThen_ok, hrun]
  case h_2 t m k okb =>
    replace h := gE_at.1 h; obtain ⟨u, hu, h⟩ := h
    replace h := gE_at.1 h; obtain ⟨u', hu', h⟩ := h
    obtain ⟨h1, h2⟩ := lookupE_sound ok hx h
    refine ⟨h1, fun L w a o ho hg hs => ?_⟩
    unfold execOp; rw [ho]
    simp only [hg _ _ hu, hg _ _ hu', Sem.run_bind, h2 L w hs, Result.andThen_ok]; rfl
  case h_3 s d x =>
    replace h := gE_at.1 h; obtain ⟨u, hu, h⟩ := h
    obtain ⟨rfl, h2⟩ := bytesStrE_sound ok h
    refine ⟨hx, fun L w a o ho hg hs => ?_⟩
    unfold execOp; rw [ho]
    simp only [hg _ _ hu, Sem.run_bind, h2 L w hs, Result.andThen_ok]; rfl
  case h_4 c =>
    split at h
    · rename_i hc
      split at h
      · rename_i x t hx1 ht1
        replace h := gE_at.1 h; obtain ⟨u, hu, h⟩ := h
        obtain ⟨rfl, h2⟩ := lenE_sound ok h
        refine ⟨hx, fun L w a o ho hg hs => ?_⟩
        unfold execOp; rw [ho]
        have e : c.args.map a = #[conc L ρ u] := Array.toList_inj.1 (by simp [hx1, hg _ _ hu])
        have e' : c.argTypes = #[t] := Array.toList_inj.1 (by simp [ht1])
        simp only [resolve, hc, Sem.run_bind, Sem.run_pure, Result.andThen_ok, invoke, builtin, e, e', h2 L w _ hs]
      · simp [T.at_bad] at h
    · simp [T.at_bad] at h
  case h_5 => simp [T.at_bad] at h
end Ab
