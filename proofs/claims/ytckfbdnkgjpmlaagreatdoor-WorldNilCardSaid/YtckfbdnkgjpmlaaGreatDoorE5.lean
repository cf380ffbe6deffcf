/- E, part 5: what an abstract state stands for in a world; first laws. -/
import Derived.Test.YtckfbdnkgjpmlaaGreatDoorE4
import Derived.Laws.Sem
import Derived.Laws.Entries
import Derived.RowKit3
namespace Ab
open Go

/-! ## The tables fit the program -/
structure Ctx.Ok (cx : Ctx) (P : Program) : Prop where
  fn : ∀ f fn, cx.ft.get f = some fn → P.funcs[f]? = some fn
  name : ∀ f fn, cx.ft.get f = some fn → fn.name ≠ "runtime.NumGoroutine"
  info : ∀ t ti, cx.tt.get t = some ti → P.info? t = some ti.info
  desc : ∀ t ti, cx.tt.get t = some ti → P.underlying t = some ti.desc
  zero : ∀ t ti z, cx.tt.get t = some ti → ti.zero = some z → ∃ v, ti.info.zero = some v ∧ ofV v = some z
  agg : ∀ t ti, cx.tt.get t = some ti → ti.agg = descAgg ti.desc
  kinds : ∀ t ti, cx.tt.get t = some ti → ti.kinds = kindsT P 8 t
  guard : ∀ t ti, cx.tt.get t = some ti → ti.guard = !P.eqGuardType P.depth t
  mixed : P.follows .mixedOrders = true

section
variable (L : Nat → Loc) (ρ : Env)

/-- An object of the abstract heap, as it lies in a world. -/
def ObjAt (w : World) (l : Loc) : AObj → Prop
  | .cells t d n el sz => ∃ c fz, w.heap[l.b]? = some (.cells c el fz) ∧ c.size = l.o + n + l.x * sz ∧ (∀ i, i < c.size → ¬ (fz.1 ≤ i ∧ i < fz.2)) ∧
      (∀ i v, i < n → look t d i = some v → c[l.o + i]? = some (conc L ρ v)) ∧ (sz = 0 → l.o = 0)
  | .map es ck => w.heap[l.b]? = some (.map (es.map fun e => ⟨conc L ρ e.1, conc L ρ e.2.1, e.2.2⟩).toArray ck)
  | .iter m since seen last => l.o = 0 ∧ ∃ sn, w.heap[l.b]? = some (.mapIter (m.map fun i => (L i).b) since sn last) ∧ sn = seen.toArray
  | .loop s pend _ env nt ps assign body _ => ∃ r : Loop, w.heap[l.b]? = some (.loop r) ∧ r.state = s ∧ r.pending = pend ∧ r.tmps.size = nt ∧ (∀ t v, env.get t = some v → r.tmps.getD t undef = conc L ρ v) ∧
      r.params.toList = ps ∧ r.assign = assign ∧ r.body = body
  | .dfr => w.heap[l.b]? = some (.deferred (some []))
  | .ro i cs => l.o = 0 ∧ w.heap[l.b]? = some (.cells (cs.map (conc L ρ)).toArray (ρ.ro i).1 (ρ.ro i).2)

/-- Package variables' objects lie in their blocks. -/
def Pin : Prop := ∀ g, g < ρ.gl → (L g).b = g ∧ (L g).o = 0
/-- The abstract heap, as it lies in a world: object by object, no two in one block. -/
structure Sim (H : Tr AObj) (w : World) : Prop where
  at_ : ∀ id o, H.get id = some o → ObjAt L ρ w (L id) o
  inj : ∀ i j oi oj, H.get i = some oi → H.get j = some oj → (L i).b = (L j).b → i = j
  pin : Pin L ρ

/-- Operands' values. -/
def GRel (g : Operand → Option AV) (a : Operand → Value) : Prop := ∀ x v, g x = some v → a x = conc L ρ v
/-- Temporaries' values. -/
def ERel (e : Tr AV) (a : Act) : Prop := ∀ t v, e.get t = some v → a.tmps.getD t undef = conc L ρ v
end

def Agree (n : Nat) (L L' : Nat → Loc) : Prop := ∀ i, i < n → L' i = L i
theorem Agree.refl (n : Nat) (L : Nat → Loc) : Agree n L L := fun _ _ => rfl
theorem Agree.mono {n m : Nat} {L L' : Nat → Loc} (h : Agree n L L') (hm : m ≤ n) : Agree m L L' := fun i hi => h i (Nat.lt_of_lt_of_le hi hm)
theorem Agree.trans {n : Nat} {L L' L'' : Nat → Loc} (h : Agree n L L') (h' : Agree n L' L'') : Agree n L L'' := fun i hi => (h' i hi).trans (h i hi)
theorem Agree.symm {n : Nat} {L L' : Nat → Loc} (h : Agree n L L') : Agree n L' L := fun i hi => (h i hi).symm
/-- Package variables' objects are among those that are there. -/
theorem gl_le {L : Nat → Loc} {ρ : Env} {n : Nat} {H : Tr AObj} {w : World} (h : ∀ L', Agree n L L' → Sim L' ρ H w) : ρ.gl ≤ n := by
  rcases Nat.lt_or_ge n ρ.gl with hn | hn
  · have h1 := ((h (fun i => if i = n then ⟨n + 1, 0, 0⟩ else L i) (fun i hi => by simp [Nat.ne_of_lt hi])).pin n hn).1
    simp at h1
  · exact hn
theorem Pin.agree {L L' : Nat → Loc} {ρ : Env} {n : Nat} (h : Pin L ρ) (hn : ρ.gl ≤ n) (ha : Agree n L L') : Pin L' ρ := fun g hg => by
  rw [ha g (Nat.lt_of_lt_of_le hg hn)]
  exact h g hg

/-- What a call leaves alone. -/
structure Fr (L : Nat → Loc) (H : Tr AObj) (w : World) (L' : Nat → Loc) (H' : Tr AObj) (w' : World) : Prop where
  size : w.heap.size ≤ w'.heap.size
  os : w'.os = w.os
  tape : w'.tape = w.tape
  output : w'.output = w.output
  keep : ∀ b, b < w.heap.size → (∀ id o, H.get id = some o → (L id).b ≠ b) → w'.heap[b]? = w.heap[b]?
  owns : ∀ b, b < w.heap.size → (∀ id o, H.get id = some o → (L id).b ≠ b) → ∀ id o, H'.get id = some o → (L' id).b ≠ b

theorem Fr.refl (L : Nat → Loc) (H : Tr AObj) (w : World) : Fr L H w L H w := ⟨Nat.le_refl _, rfl, rfl, rfl, fun _ _ _ => rfl, fun _ _ h => h⟩
theorem Fr.trans {L L' L'' : Nat → Loc} {H H' H'' : Tr AObj} {w w' w'' : World} (h : Fr L H w L' H' w') (k : Fr L' H' w' L'' H'' w'') : Fr L H w L'' H'' w'' :=
  ⟨Nat.le_trans h.size k.size, k.os.trans h.os, k.tape.trans h.tape, k.output.trans h.output,
    fun b hb hn => (k.keep b (Nat.lt_of_lt_of_le hb h.size) (h.owns b hb hn)).trans (h.keep b hb hn),
    fun b hb hn => k.owns b (Nat.lt_of_lt_of_le hb h.size) (h.owns b hb hn)⟩

def FxOk (ρ : Env) (fx : Facts) : Prop := ∀ p ∈ fx, p.1.den ρ = p.2

/-- An activation's temporaries and the world are what an abstract state says, wherever what it doesn't speak of may lie. -/
structure KS (ρ : Env) (L : Nat → Loc) (e : Tr AV) (nt : Nat) (ds : List Deferred) (st : St) (a : Act) (w : World) : Prop where
  env : ∀ L', Agree st.nx L L' → ERel L' ρ e a
  sim : ∀ L', Agree st.nx L L' → Sim L' ρ st.H w
  fx : FxOk ρ st.fx
  size : a.tmps.size = nt
  dfr : a.defers = ds

/-! ## Facts -/
theorem known_nil (A : Atom) : known A [] = none := rfl
theorem known_cons (A : Atom) (p : Atom × Bool) (fx : Facts) : known A (p :: fx) = if Atom.same A p.1 = true then some p.2 else known A fx := Tr.brec _ _ _
theorem known_some {ρ : Env} {A : Atom} {b : Bool} : ∀ {fx : Facts}, FxOk ρ fx → known A fx = some b → A.den ρ = b
  | [], _, h => by rw [known_nil] at h; cases h
  | p :: fx, hx, h => by
    rw [known_cons] at h
    split at h
    · rename_i hs
      rw [Atom.same_eq hs, ← Option.some.inj h]
      exact hx p (by simp)
    · exact known_some (fun q hq => hx q (by simp [hq])) h
theorem FxOk.cons {ρ : Env} {A : Atom} {b : Bool} {fx : Facts} (h : FxOk ρ fx) (hb : A.den ρ = b) : FxOk ρ ((A, b) :: fx) := by
  intro p hp
  rcases List.mem_cons.1 hp with rfl | hp
  · exact hb
  · exact h p hp
theorem dec_at {ρ : Env} {A : Atom} {fx fx' : Facts} {b : Bool} (hx : FxOk ρ fx) (h : (dec A fx).at_ ρ = some (b, fx')) : A.den ρ = b ∧ FxOk ρ fx' := by
  unfold dec at h
  cases hk : known A fx with
  | some c =>
    rw [hk] at h
    simp only [T.at_ret, Option.some.injEq, Prod.mk.injEq] at h
    obtain ⟨rfl, rfl⟩ := h
    exact ⟨known_some hx hk, hx⟩
  | none =>
    rw [hk] at h
    simp only [T.at_split, T.at_ret] at h
    split at h
    · rename_i hd
      simp only [Option.some.injEq, Prod.mk.injEq] at h
      obtain ⟨rfl, rfl⟩ := h
      exact ⟨hd, hx.cons hd⟩
    · rename_i hd
      simp only [Option.some.injEq, Prod.mk.injEq] at h
      obtain ⟨rfl, rfl⟩ := h
      have hd : A.den ρ = false := by simpa using hd
      exact ⟨hd, hx.cons hd⟩

/-! ## Whole numbers -/
theorem hiN_eq (k : IntKind) : ((hiN k : Nat) : Int) = k.max := by cases k <;> decide
theorem loN_eq (k : IntKind) : -((loN k : Nat) : Int) = k.min := by cases k <;> decide
theorem bitsN_eq (k : IntKind) : bitsN k = k.bits := by cases k <;> rfl
theorem wrap_in {k : IntKind} {n : Int} (h : k.min ≤ n) (h' : n ≤ k.max) : k.wrap n = n := by
  cases k <;> simp only [IntKind.min, IntKind.max, IntKind.wrap, IntKind.bits, IntKind.signed] at * <;> simp at * <;> omega
theorem wrapF_eq (k : IntKind) (n : Int) : wrapF k n = k.wrap n := by
  unfold wrapF
  split
  · rename_i a
    cases h : Nat.ble a (hiN k) with
    | false => simp
    | true =>
      have h := Nat.le_of_ble_eq_true h
      have h1 := hiN_eq k
      have h2 : k.min ≤ 0 := by cases k <;> decide
      simp only [cond_true]
      exact (wrap_in (by show k.min ≤ (a : Int); omega) (by show (a : Int) ≤ k.max; omega)).symm
  · rename_i a
    cases h : Nat.ble (Nat.succ a) (loN k) with
    | false => simp
    | true =>
      have h := Nat.le_of_ble_eq_true h
      have h1 := loN_eq k
      have h2 : 0 ≤ k.max := by cases k <;> decide
      simp only [cond_true]
      exact (wrap_in (by show k.min ≤ Int.negSucc a; omega) (by show Int.negSucc a ≤ k.max; omega)).symm
theorem wrap_mod (k : IntKind) (n : Nat) : k.wrap ((n % 2 ^ k.bits : Nat) : Int) = k.wrap (n : Int) := by
  unfold IntKind.wrap
  have : ((n % 2 ^ k.bits : Nat) : Int) % (2 ^ k.bits : Int) = (n : Int) % (2 ^ k.bits : Int) := by
    rw [Int.natCast_emod]
    push_cast
    exact Int.emod_emod_of_dvd _ (Int.dvd_refl _)
  simp only [this]
theorem ofInt_nat (w n : Nat) : BitVec.ofInt w (Int.ofNat n) = BitVec.ofNat w n := by
  show BitVec.ofInt w (n : Int) = _
  exact BitVec.ofInt_natCast w n
theorem arithF_eq (op : BinOp) (k : IntKind) (x y : Int) : arithF op k x y = arith op k x y := by
  have pw : ∀ b : Nat, (bif Nat.ble b (bitsN k) then b else bitsN k) = min b k.bits := by
    intro b
    rw [bitsN_eq]
    cases h : Nat.ble b k.bits with
    | true => have := Nat.le_of_ble_eq_true h; simp only [cond_true]; omega
    | false =>
      have : ¬ b ≤ k.bits := fun hh => by rw [Nat.ble_eq_true_of_le hh] at h; cases h
      simp only [cond_false]; omega
  cases op <;> simp only [arithF]
  · rw [wrapF_eq]; rfl
  · rw [wrapF_eq]; rfl
  · rw [wrapF_eq]; rfl
  · split
    · rename_i a b
      cases hb : Nat.beq b 0 with
      | true =>
        have hb := Nat.eq_of_beq_eq_true hb
        subst hb
        rfl
      | false =>
        have : b ≠ 0 := Nat.ne_of_beq_eq_false hb
        have h0 : ¬ (Int.ofNat b = 0) := by simp; omega
        rw [wrapF_eq]
        simp only [cond_false, arith, if_neg h0]
        rfl
    · rfl
  · split
    · rename_i a b
      cases hb : Nat.beq b 0 with
      | true =>
        have hb := Nat.eq_of_beq_eq_true hb
        subst hb
        rfl
      | false =>
        have : b ≠ 0 := Nat.ne_of_beq_eq_false hb
        have h0 : ¬ (Int.ofNat b = 0) := by simp; omega
        simp only [cond_false, arith, if_neg h0]
        rfl
    · rfl
  · split
    · rename_i a b
      rw [wrapF_eq]
      simp only [arith, ofInt_nat, BitVec.toNat_and, BitVec.toNat_ofNat]
      rw [← Nat.and_mod_two_pow, wrap_mod]
      rfl
    · rfl
  · split
    · rename_i a b
      rw [wrapF_eq]
      simp only [arith, ofInt_nat, BitVec.toNat_or, BitVec.toNat_ofNat]
      rw [← Nat.or_mod_two_pow, wrap_mod]
      rfl
    · rfl
  · split
    · rename_i a b
      rw [wrapF_eq]
      simp only [arith, ofInt_nat, BitVec.toNat_xor, BitVec.toNat_ofNat]
      rw [← Nat.xor_mod_two_pow, wrap_mod]
      rfl
    · rfl
  · split
    · rename_i a b
      rw [wrapF_eq, pw]
      have h0 : ¬ (Int.ofNat b < 0) := by simp
      simp only [arith, if_neg h0]
      congr 2
    · rfl
  · split
    · rename_i a b
      rw [pw]
      have h0 : ¬ (Int.ofNat b < 0) := by simp
      simp only [arith, if_neg h0]
      congr 1
      show ((a / 2 ^ min b k.bits : Nat) : Int) = (a : Int).fdiv (2 ^ min (Int.ofNat b).toNat k.bits)
      have : ((2 : Int) ^ min (Int.ofNat b).toNat k.bits) = ((2 ^ min b k.bits : Nat) : Int) := by push_cast; rfl
      rw [this]
      exact Int.ofNat_fdiv _ _
    · rfl
theorem intLt_eq (a b : Int) : intLt a b = decide (a < b) := by
  cases a <;> cases b <;> simp only [intLt]
  · rename_i a b
    show Nat.ble (a + 1) b = decide ((a : Int) < (b : Int))
    rw [Bool.eq_iff_iff, Nat.ble_eq, decide_eq_true_iff]
    omega
  · rename_i a b
    symm; apply decide_eq_false
    show ¬ (a : Int) < Int.negSucc b
    omega
  · rename_i a b
    symm; apply decide_eq_true
    show Int.negSucc a < (b : Int)
    omega
  · rename_i a b
    show Nat.ble (b + 1) a = _
    rw [Bool.eq_iff_iff, Nat.ble_eq, decide_eq_true_iff]
    omega
theorem intSame_beq (a b : Int) : intSame a b = (a == b) := by
  rw [Bool.eq_iff_iff, intSame_eq, beq_iff_eq]

theorem redK_den {ρ : Env} (t : Tm) : ∀ {fx : Facts}, FxOk ρ fx → (redK t fx).den ρ = t.den ρ
  | [], _ => rfl
  | p :: fx, hx => by
    have ih := redK_den t (fx := fx) (fun q hq => hx q (by simp [hq]))
    have hp := hx p (by simp)
    show Tm.den ρ (redStep t p (redK t fx)) = _
    unfold redStep
    split
    · rename_i s n
      cases hs : Tm.same s t with
      | false => exact ih
      | true =>
        rw [← Tm.same_eq hs]
        simp only [Atom.den, beq_iff_eq] at hp
        exact hp.symm
    · rename_i n s _
      cases hs : Tm.same s t with
      | false => exact ih
      | true =>
        rw [← Tm.same_eq hs]
        simp only [Atom.den, beq_iff_eq] at hp
        exact hp
    · exact ih
theorem binTm_den (ρ : Env) {op : BinOp} {k : IntKind} {s t r : Tm} (h : binTm op k s t = some r) : arith op k (s.den ρ) (t.den ρ) = some (r.den ρ) := by
  unfold binTm at h
  split at h
  · rw [arithF_eq] at h
    split at h
    · rename_i n hn
      simp only [Option.some.injEq] at h
      subst h
      exact hn
    · cases h
  · rename_i b _
    split at h
    · cases hb : intSame b 0 with
      | true => simp [hb] at h
      | false =>
        simp [hb] at h
        subst h
        have : ¬ b = 0 := fun e => by rw [(intSame_eq b 0).2 e] at hb; cases hb
        simp [Tm.den, arith, this]
    · cases hb : intSame b 0 with
      | true => simp [hb] at h
      | false =>
        simp [hb] at h
        subst h
        have : ¬ b = 0 := fun e => by rw [(intSame_eq b 0).2 e] at hb; cases hb
        simp [Tm.den, arith, this]
    · cases hb : intLt b 0 with
      | true => simp [hb] at h
      | false =>
        simp [hb] at h
        subst h
        rw [intLt_eq] at hb
        have : ¬ b < 0 := by simpa using hb
        simp [Tm.den, arith, this]
    · cases hb : intLt b 0 with
      | true => simp [hb] at h
      | false =>
        simp [hb] at h
        subst h
        rw [intLt_eq] at hb
        have : ¬ b < 0 := by simpa using hb
        simp [Tm.den, arith, this]
    all_goals first
      | (simp only [Option.some.injEq] at h; subst h; simp [Tm.den, arith]; done)
      | cases h
  · split at h <;> first
      | (simp only [Option.some.injEq] at h; subst h; simp [Tm.den, arith]; done)
      | cases h
theorem red_den {ρ : Env} {fx : Facts} (hx : FxOk ρ fx) (t : Tm) : (red fx t).den ρ = t.den ρ := by
  unfold red
  split
  · rfl
  · rename_i op k a b
    have ha := redK_den a hx
    have hb := redK_den b hx
    dsimp only
    split
    · rename_i n hn
      have := binTm_den ρ hn
      rw [ha, hb] at this
      simp [Tm.den, this]
    · rw [redK_den _ hx]
      simp only [Tm.den, ha, hb]
  · exact redK_den _ hx
theorem binTm_red {ρ : Env} {fx : Facts} (hx : FxOk ρ fx) {op : BinOp} {k : IntKind} {s t r : Tm} (h : binTm op k (red fx s) (red fx t) = some r) : arith op k (s.den ρ) (t.den ρ) = some (r.den ρ) := by
  have := binTm_den ρ h
  rwa [red_den hx, red_den hx] at this
theorem eqTm0_at {ρ : Env} {s t : Tm} {fx fx' : Facts} {b : Bool} (hx : FxOk ρ fx) (h : (eqTm0 s t fx).at_ ρ = some (b, fx')) : (s.den ρ == t.den ρ) = b ∧ FxOk ρ fx' := by
  unfold eqTm0 at h
  split at h
  · simp only [T.at_ret, Option.some.injEq, Prod.mk.injEq] at h
    obtain ⟨rfl, rfl⟩ := h
    exact ⟨(intSame_beq _ _).symm, hx⟩
  · cases hs : Tm.same s t with
    | true =>
      simp only [hs, cond_true, T.at_ret, Option.some.injEq, Prod.mk.injEq] at h
      obtain ⟨rfl, rfl⟩ := h
      rw [Tm.same_eq hs]
      exact ⟨by simp, hx⟩
    | false =>
      simp only [hs, cond_false] at h
      cases hk : known (.eq t s) fx with
      | none => rw [hk] at h; exact dec_at hx h
      | some c =>
        rw [hk] at h
        simp only [T.at_ret, Option.some.injEq, Prod.mk.injEq] at h
        obtain ⟨rfl, rfl⟩ := h
        have := known_some hx hk
        simp only [Atom.den] at this
        exact ⟨by rw [← this]; exact Bool.beq_comm, hx⟩
theorem eqTm_at {ρ : Env} {s t : Tm} {fx fx' : Facts} {b : Bool} (hx : FxOk ρ fx) (h : (eqTm s t fx).at_ ρ = some (b, fx')) : (s.den ρ == t.den ρ) = b ∧ FxOk ρ fx' := by
  have := eqTm0_at hx h
  rwa [red_den hx, red_den hx] at this
theorem ltTm1_at {ρ : Env} {s t : Tm} {fx fx' : Facts} {b : Bool} (hx : FxOk ρ fx) (h : (ltTm1 s t fx).at_ ρ = some (b, fx')) : decide (s.den ρ < t.den ρ) = b ∧ FxOk ρ fx' := by
  unfold ltTm1 at h
  split at h
  · simp only [T.at_ret, Option.some.injEq, Prod.mk.injEq] at h
    obtain ⟨rfl, rfl⟩ := h
    exact ⟨(intLt_eq _ _).symm, hx⟩
  · cases hs : Tm.same s t with
    | true =>
      simp only [hs, cond_true, T.at_ret, Option.some.injEq, Prod.mk.injEq] at h
      obtain ⟨rfl, rfl⟩ := h
      rw [Tm.same_eq hs]
      exact ⟨by simp, hx⟩
    | false =>
      simp only [hs, cond_false] at h
      exact dec_at hx h
theorem and_range' {ρ : Env} (k : IntKind) (a : Tm) (m : Nat) (hm : m ≤ hiN k) : (0 : Int) ≤ (Tm.bin .and k a (.c (.ofNat m))).den ρ ∧ (Tm.bin .and k a (.c (.ofNat m))).den ρ ≤ (m : Int) := by
  have hlt : hiN k < 2 ^ k.bits := by cases k <;> decide
  have hle : (BitVec.ofInt k.bits (a.den ρ) &&& BitVec.ofInt k.bits (Int.ofNat m)).toNat ≤ m := by
    rw [BitVec.toNat_and]
    refine Nat.le_trans Nat.and_le_right ?_
    rw [BitVec.toNat_ofInt]
    have : (Int.ofNat m) % ((2 ^ k.bits : Nat) : Int) = (m : Int) := Int.emod_eq_of_lt (Int.natCast_nonneg m) (by exact Int.ofNat_lt.2 (by omega))
    rw [this]
    simp
  have hmin : k.min ≤ 0 := by cases k <;> decide
  have hmax := hiN_eq k
  have hw : ∀ n : Nat, n ≤ hiN k → k.wrap (n : Int) = (n : Int) := fun n hn => wrap_in (by omega) (by omega)
  have hd : (Tm.bin .and k a (.c (.ofNat m))).den ρ = ((BitVec.ofInt k.bits (a.den ρ) &&& BitVec.ofInt k.bits (Int.ofNat m)).toNat : Int) := by
    show (some (k.wrap ((BitVec.ofInt k.bits (a.den ρ) &&& BitVec.ofInt k.bits (Int.ofNat m)).toNat : Int))).getD 0 = _
    rw [hw _ (by omega)]
    rfl
  rw [hd]
  omega
theorem and_range {ρ : Env} (k : IntKind) (a : Tm) (m : Nat) (hm : m ≤ 15) : (0 : Int) ≤ (Tm.bin .and k a (.c (.ofNat m))).den ρ ∧ (Tm.bin .and k a (.c (.ofNat m))).den ρ ≤ (m : Int) :=
  and_range' k a m (by have : 15 ≤ hiN k := by cases k <;> decide
                       omega)
theorem ubT_at {ρ : Env} : ∀ {t : Tm} {u : Nat}, ubT t = some u → 0 ≤ t.den ρ ∧ t.den ρ ≤ (u : Int)
  | .c _, u, h => by cases h
  | .v _, u, h => by cases h
  | .len _, u, h => by cases h
  | .conv k a, u, h => by
    unfold ubT at h
    cases ha : ubT a with
    | none => rw [ha] at h; cases h
    | some u' =>
      rw [ha] at h
      simp only at h
      cases hb : Nat.ble u' (hiN k) with
      | false => rw [hb] at h; cases h
      | true =>
        rw [hb, cond_true] at h
        obtain rfl : u' = u := Option.some.inj h
        obtain ⟨h1, h2⟩ := ubT_at (ρ := ρ) ha
        have hb := Nat.le_of_ble_eq_true hb
        have he := hiN_eq k
        have hm : k.min ≤ 0 := by cases k <;> decide
        have : (Tm.conv k a).den ρ = a.den ρ := wrap_in (by omega) (by omega)
        rw [this]
        exact ⟨h1, h2⟩
  | .bin op k a b, u, h => by
    unfold ubT at h
    split at h
    · rename_i heq
      cases heq
      rename_i m
      cases hb : Nat.ble m (hiN k) with
      | false => rw [hb] at h; cases h
      | true =>
        rw [hb, cond_true] at h
        obtain rfl : m = u := Option.some.inj h
        exact and_range' k a m (Nat.le_of_ble_eq_true hb)
    · rename_i heq; cases heq
    · rename_i heq
      cases heq
      rename_i n
      cases ha : ubT a with
      | none => rw [ha] at h; cases h
      | some u' =>
        rw [ha] at h
        simp only at h
        cases hb : Nat.ble n (bitsN k) with
        | false => rw [hb] at h; cases h
        | true =>
          rw [hb, cond_true] at h
          obtain rfl : u' / 2 ^ n = u := Option.some.inj h
          obtain ⟨h1, h2⟩ := ubT_at (ρ := ρ) ha
          have hb := Nat.le_of_ble_eq_true hb
          rw [bitsN_eq] at hb
          have hd : (Tm.bin .shr k a (.c (.ofNat n))).den ρ = (a.den ρ).fdiv (2 ^ n) := by
            show (arith .shr k (a.den ρ) (Int.ofNat n)).getD 0 = _
            have hn : ¬ (Int.ofNat n < 0) := by simp
            simp only [arith, if_neg hn, Option.getD_some]
            rw [show min (Int.ofNat n).toNat k.bits = n by show min n k.bits = n; omega]
          rw [hd]
          obtain ⟨q, hq⟩ := Int.eq_ofNat_of_zero_le h1
          rw [hq] at h2 ⊢
          have e : ((q : Int)).fdiv (2 ^ n) = ((q / 2 ^ n : Nat) : Int) := by
            rw [Int.fdiv_eq_ediv_of_nonneg _ (by exact Int.le_of_lt (Int.pow_pos (by decide)))]
            rw [Int.natCast_ediv]
            push_cast
            rfl
          rw [e]
          exact ⟨Int.natCast_nonneg _, Int.ofNat_le.2 (Nat.div_le_div_right (by omega))⟩
    · cases h
theorem bndT_at {ρ : Env} {s t : Tm} {b : Bool} (h : bndT s t = some b) : decide (s.den ρ < t.den ρ) = b := by
  unfold bndT at h
  split at h
  · rename_i i
    cases hu : ubT t with
    | none => rw [hu] at h; cases h
    | some u =>
      rw [hu] at h
      obtain ⟨h1, h2⟩ := ubT_at (ρ := ρ) hu
      simp only at h
      show decide ((i : Int) < t.den ρ) = b
      cases hb : Nat.ble u i with
      | false => rw [hb] at h; cases h
      | true =>
        rw [hb, cond_true] at h
        have hb := Nat.le_of_ble_eq_true hb
        cases h
        exact decide_eq_false (by omega)
  · rename_i i
    cases hu : ubT t with
    | none => rw [hu] at h; cases h
    | some u =>
      rw [hu] at h
      obtain ⟨h1, h2⟩ := ubT_at (ρ := ρ) hu
      simp only at h
      show decide (Int.negSucc i < t.den ρ) = b
      cases h
      exact decide_eq_true (by omega)
  · rename_i i _ _
    cases hu : ubT s with
    | none => rw [hu] at h; cases h
    | some u =>
      rw [hu] at h
      obtain ⟨h1, h2⟩ := ubT_at (ρ := ρ) hu
      simp only at h
      show decide (s.den ρ < (i : Int)) = b
      cases hb : Nat.ble (Nat.succ u) i with
      | true =>
        rw [hb, cond_true] at h
        have hb := Nat.le_of_ble_eq_true hb
        cases h
        exact decide_eq_true (by omega)
      | false =>
        rw [hb, cond_false] at h
        cases hi : Nat.beq i 0 with
        | false => rw [hi] at h; cases h
        | true =>
          rw [hi, cond_true] at h
          have hi := Nat.eq_of_beq_eq_true hi
          cases h
          exact decide_eq_false (by omega)
  · rename_i i _ _
    cases hu : ubT s with
    | none => rw [hu] at h; cases h
    | some u =>
      rw [hu] at h
      obtain ⟨h1, h2⟩ := ubT_at (ρ := ρ) hu
      simp only at h
      show decide (s.den ρ < Int.negSucc i) = b
      cases h
      exact decide_eq_false (by omega)
  · cases h
def WhichP (ρ : Env) (t : Tm) (n : Nat) : Option Nat → Prop
  | none => (n : Int) ≤ t.den ρ
  | some j => t.den ρ = (j : Int) ∧ j < n
theorem whichG_at {ρ : Env} {t : Tm} : ∀ (n i : Nat) {fx fx' : Facts} {r : Option Nat}, FxOk ρ fx → (whichG t n i fx).at_ ρ = some (r, fx') → (i : Int) ≤ t.den ρ → FxOk ρ fx' ∧ WhichP ρ t (i + n) r
  | 0, i, fx, fx', r, hx, h, h1 => by
    have h : (T.ret ((none : Option Nat), fx)).at_ ρ = some (r, fx') := h
    simp only [T.at_ret, Option.some.injEq, Prod.mk.injEq] at h
    obtain ⟨rfl, rfl⟩ := h
    exact ⟨hx, h1⟩
  | n + 1, i, fx, fx', r, hx, h, h1 => by
    have h : ((eqTm0 t (.c (.ofNat i)) fx).bind fun p => Bool.rec (whichG t n (i + 1) p.2) (.ret (some i, p.2)) p.1 : T (Option Nat × Facts)).at_ ρ = some (r, fx') := h
    replace h := T.at_bind_some.1 h
    obtain ⟨⟨b, fx1⟩, hd, h⟩ := h
    obtain ⟨hb, hx1⟩ := eqTm0_at hx hd
    cases b with
    | true =>
      have h : (T.ret (some i, fx1)).at_ ρ = some (r, fx') := h
      simp only [T.at_ret, Option.some.injEq, Prod.mk.injEq] at h
      obtain ⟨rfl, rfl⟩ := h
      exact ⟨hx1, beq_iff_eq.1 hb, by omega⟩
    | false =>
      have h : (whichG t n (i + 1) fx1).at_ ρ = some (r, fx') := h
      have hne : t.den ρ ≠ (i : Int) := by
        rw [beq_eq_false_iff_ne] at hb
        exact hb
      have := whichG_at n (i + 1) hx1 h (by omega)
      rw [show i + 1 + n = i + (n + 1) by omega] at this
      exact this
theorem maskT_at {ρ : Env} {t : Tm} {m : Nat} (h : maskT t = some m) : 0 ≤ t.den ρ ∧ t.den ρ ≤ (m : Int) := by
  unfold maskT at h
  split at h
  · rename_i k a m'
    cases hm : Nat.ble m' 15 with
    | true =>
      rw [hm, cond_true] at h
      obtain rfl : m' = m := Option.some.inj h
      exact and_range k a m' (Nat.le_of_ble_eq_true hm)
    | false => rw [hm, cond_false] at h; cases h
  · cases h
theorem natT_eq {t : Tm} {n : Nat} (h : natT t = some n) : t = .c (.ofNat n) := by
  unfold natT at h
  split at h
  · cases h; rfl
  · cases h
theorem ltTm2_at {ρ : Env} {s t : Tm} {fx fx' : Facts} {b : Bool} (hx : FxOk ρ fx) (h : (ltTm2 s t fx).at_ ρ = some (b, fx')) : decide (s.den ρ < t.den ρ) = b ∧ FxOk ρ fx' := by
  unfold ltTm2 at h
  cases hm : maskT t with
  | some m =>
    rw [hm] at h
    cases hn : natT s with
    | none => rw [hn] at h; exact ltTm1_at hx h
    | some i =>
      rw [hn] at h
      obtain ⟨h1, h2⟩ := maskT_at (ρ := ρ) hm
      rw [natT_eq hn]
      have h : (bif Nat.ble (Nat.succ i) m then (whichG t (Nat.succ i) 0 fx).bind fun p => .ret (Option.rec true (fun _ => false) p.1, p.2) else .ret (false, fx) : T (Bool × Facts)).at_ ρ = some (b, fx') := h
      show decide ((i : Int) < t.den ρ) = b ∧ _
      cases hb : Nat.ble (Nat.succ i) m with
      | false =>
        rw [hb, cond_false] at h
        simp only [T.at_ret, Option.some.injEq, Prod.mk.injEq] at h
        obtain ⟨rfl, rfl⟩ := h
        have : ¬ (Nat.succ i ≤ m) := fun hh => by rw [Nat.ble_eq_true_of_le hh] at hb; cases hb
        exact ⟨decide_eq_false (by omega), hx⟩
      | true =>
        rw [hb, cond_true] at h
        replace h := T.at_bind_some.1 h
        obtain ⟨⟨r, fx1⟩, hd, h⟩ := h
        have := whichG_at (Nat.succ i) 0 hx hd h1
        simp only [T.at_ret, Option.some.injEq, Prod.mk.injEq] at h
        obtain ⟨rfl, rfl⟩ := h
        refine ⟨?_, this.1⟩
        cases r with
        | none => have h3 : ((0 + Nat.succ i : Nat) : Int) ≤ t.den ρ := this.2; exact decide_eq_true (by omega)
        | some j => have h3 : t.den ρ = (j : Int) ∧ j < 0 + Nat.succ i := this.2; exact decide_eq_false (by omega)
  | none =>
    rw [hm] at h
    cases hm : maskT s with
    | none => rw [hm] at h; exact ltTm1_at hx h
    | some m =>
      rw [hm] at h
      cases hn : natT t with
      | none => rw [hn] at h; exact ltTm1_at hx h
      | some i =>
        rw [hn] at h
        obtain ⟨h1, h2⟩ := maskT_at (ρ := ρ) hm
        rw [natT_eq hn]
        have h : (bif Nat.ble i m then (whichG s i 0 fx).bind fun p => .ret (Option.rec false (fun _ => true) p.1, p.2) else .ret (true, fx) : T (Bool × Facts)).at_ ρ = some (b, fx') := h
        show decide (s.den ρ < (i : Int)) = b ∧ _
        cases hb : Nat.ble i m with
        | false =>
          rw [hb, cond_false] at h
          simp only [T.at_ret, Option.some.injEq, Prod.mk.injEq] at h
          obtain ⟨rfl, rfl⟩ := h
          have : ¬ (i ≤ m) := fun hh => by rw [Nat.ble_eq_true_of_le hh] at hb; cases hb
          exact ⟨decide_eq_true (by omega), hx⟩
        | true =>
          rw [hb, cond_true] at h
          replace h := T.at_bind_some.1 h
          obtain ⟨⟨r, fx1⟩, hd, h⟩ := h
          have := whichG_at i 0 hx hd h1
          simp only [T.at_ret, Option.some.injEq, Prod.mk.injEq] at h
          obtain ⟨rfl, rfl⟩ := h
          refine ⟨?_, this.1⟩
          cases r with
          | none => have h3 : ((0 + i : Nat) : Int) ≤ s.den ρ := this.2; exact decide_eq_false (by omega)
          | some j => have h3 : s.den ρ = (j : Int) ∧ j < 0 + i := this.2; exact decide_eq_true (by omega)
theorem ltTm0_at {ρ : Env} {s t : Tm} {fx fx' : Facts} {b : Bool} (hx : FxOk ρ fx) (h : (ltTm0 s t fx).at_ ρ = some (b, fx')) : decide (s.den ρ < t.den ρ) = b ∧ FxOk ρ fx' := by
  unfold ltTm0 at h
  split at h
  · simp only [T.at_ret, Option.some.injEq, Prod.mk.injEq] at h
    obtain ⟨rfl, rfl⟩ := h
    exact ⟨(intLt_eq _ _).symm, hx⟩
  · cases hb : bndT s t with
    | none => rw [hb] at h; exact ltTm2_at hx h
    | some c =>
      rw [hb] at h
      have h : some (c, fx) = some (b, fx') := h
      simp only [Option.some.injEq, Prod.mk.injEq] at h
      obtain ⟨rfl, rfl⟩ := h
      exact ⟨bndT_at hb, hx⟩
theorem ltTm_at {ρ : Env} {s t : Tm} {fx fx' : Facts} {b : Bool} (hx : FxOk ρ fx) (h : (ltTm s t fx).at_ ρ = some (b, fx')) : decide (s.den ρ < t.den ρ) = b ∧ FxOk ρ fx' := by
  have := ltTm0_at hx h
  rwa [red_den hx, red_den hx] at this
theorem bytesLt_eq : ∀ (x y : List UInt8), bytesLt x y = Op.bytesLess x y
  | x, [] => by cases x <;> rfl
  | [], _ :: _ => rfl
  | a :: x, b :: y => by
    have ih := bytesLt_eq x y
    unfold bytesLt Op.bytesLess
    cases h : Nat.beq a.toNat b.toNat with
    | true =>
      have h : a = b := UInt8.toNat_inj.1 (Nat.eq_of_beq_eq_true h)
      subst h
      simp [ih]
    | false =>
      have h : a ≠ b := fun e => by subst e; simp at h
      simp only [cond_false]
      rw [Bool.eq_iff_iff]
      simp [h, UInt8.lt_iff_toNat_lt, Nat.ble_eq, Nat.succ_le_iff]
theorem bytesSame_beq (x y : List UInt8) : bytesSame x y = (x == y) := by rw [Bool.eq_iff_iff, bytesSame_eq, beq_iff_eq]
theorem bytesLess_self (x : List UInt8) : Op.bytesLess x x = false := by
  induction x with
  | nil => rfl
  | cons a x ih => simp [Op.bytesLess, ih]
theorem eqStm_at {ρ : Env} {s t : STm} {fx fx' : Facts} {b : Bool} (hx : FxOk ρ fx) (h : (eqStm s t fx).at_ ρ = some (b, fx')) : (s.den ρ == t.den ρ) = b ∧ FxOk ρ fx' := by
  unfold eqStm at h
  split at h
  · simp only [T.at_ret, Option.some.injEq, Prod.mk.injEq] at h
    obtain ⟨rfl, rfl⟩ := h
    exact ⟨(bytesSame_beq _ _).symm, hx⟩
  · cases hs : STm.same s t with
    | true =>
      simp only [hs, cond_true, T.at_ret, Option.some.injEq, Prod.mk.injEq] at h
      obtain ⟨rfl, rfl⟩ := h
      rw [STm.same_eq hs]
      exact ⟨by simp, hx⟩
    | false =>
      simp only [hs, cond_false] at h
      cases hk : known (.seq t s) fx with
      | none => rw [hk] at h; exact dec_at hx h
      | some c =>
        rw [hk] at h
        simp only [T.at_ret, Option.some.injEq, Prod.mk.injEq] at h
        obtain ⟨rfl, rfl⟩ := h
        have := known_some hx hk
        simp only [Atom.den] at this
        exact ⟨by rw [← this]; exact Bool.beq_comm, hx⟩
theorem ltStm_at {ρ : Env} {s t : STm} {fx fx' : Facts} {b : Bool} (hx : FxOk ρ fx) (h : (ltStm s t fx).at_ ρ = some (b, fx')) : Op.bytesLess (s.den ρ) (t.den ρ) = b ∧ FxOk ρ fx' := by
  unfold ltStm at h
  split at h
  · simp only [T.at_ret, Option.some.injEq, Prod.mk.injEq] at h
    obtain ⟨rfl, rfl⟩ := h
    exact ⟨(bytesLt_eq _ _).symm, hx⟩
  · cases hs : STm.same s t with
    | true =>
      simp only [hs, cond_true, T.at_ret, Option.some.injEq, Prod.mk.injEq] at h
      obtain ⟨rfl, rfl⟩ := h
      rw [STm.same_eq hs]
      exact ⟨bytesLess_self _, hx⟩
    | false =>
      simp only [hs, cond_false] at h
      exact dec_at hx h
theorem convTm_den (ρ : Env) (k : IntKind) (t : Tm) : (convTm k t).den ρ = k.wrap (t.den ρ) := by
  unfold convTm
  split
  · simp only [Tm.den, wrapF_eq]
  · rfl
end Ab
