/- E, part 2: the executor's words: trees of ways, state, operations. No program's text is named here. -/
import Derived.Test.YtckfbdnkgjpmlaaGreatDoorE1
namespace Ab
open Go

/-! ## Trees of ways -/
inductive T (α : Type) where
  | bad (code : Nat)
  | ret (a : α)
  | split (c : Atom) (t f : T α)

namespace T
variable {α β : Type}
noncomputable def bind (t : T α) (f : α → T β) : T β :=
  T.rec (motive := fun _ => T β) (fun c => .bad c) (fun a => f a) (fun c _ _ x y => .split c x y) t
/-- What a tree comes to where the symbols are so. -/
def at_ (ρ : Env) : T α → Option α
  | .bad _ => none
  | .ret a => some a
  | .split c t f => if c.den ρ then t.at_ ρ else f.at_ ρ
noncomputable def opt (o : Option α) (code : Nat) (f : α → T β) : T β := Option.rec (motive := fun _ => T β) (.bad code) f o
noncomputable def chk (b : Bool) (code : Nat) (x : T β) : T β := Bool.rec (motive := fun _ => T β) (.bad code) x b

theorem bind_bad (c : Nat) (f : α → T β) : bind (.bad c) f = .bad c := rfl
theorem bind_ret (a : α) (f : α → T β) : bind (.ret a) f = f a := rfl
theorem bind_split (c : Atom) (x y : T α) (f : α → T β) : bind (.split c x y) f = .split c (bind x f) (bind y f) := rfl
theorem opt_none (code : Nat) (f : α → T β) : opt none code f = .bad code := rfl
theorem opt_some (a : α) (code : Nat) (f : α → T β) : opt (some a) code f = f a := rfl
theorem chk_true (code : Nat) (x : T β) : chk true code x = x := rfl
theorem chk_false (code : Nat) (x : T β) : chk false code x = .bad code := rfl
theorem at_bad (ρ : Env) (c : Nat) : (T.bad c : T α).at_ ρ = none := rfl
theorem at_ret (ρ : Env) (a : α) : (T.ret a).at_ ρ = some a := rfl
theorem at_split (ρ : Env) (c : Atom) (x y : T α) : (T.split c x y).at_ ρ = if c.den ρ then x.at_ ρ else y.at_ ρ := rfl
theorem at_bind (ρ : Env) (t : T α) (f : α → T β) : (bind t f).at_ ρ = (t.at_ ρ).bind fun a => (f a).at_ ρ := by
  induction t with
  | bad c => rfl
  | ret a => rfl
  | split c x y ihx ihy =>
    rw [bind_split, at_split, at_split, ihx, ihy]
    split <;> rfl
theorem at_bind_some {ρ : Env} {t : T α} {f : α → T β} {b : β} : (bind t f).at_ ρ = some b ↔ ∃ a, t.at_ ρ = some a ∧ (f a).at_ ρ = some b := by
  rw [at_bind]; cases t.at_ ρ <;> simp
theorem at_opt_some {ρ : Env} {o : Option α} {code : Nat} {f : α → T β} {b : β} : (opt o code f).at_ ρ = some b ↔ ∃ a, o = some a ∧ (f a).at_ ρ = some b := by
  cases o with
  | none => simp [opt_none, at_bad]
  | some a => simp [opt_some]
theorem at_chk_some {ρ : Env} {c : Bool} {code : Nat} {x : T β} {b : β} : (chk c code x).at_ ρ = some b ↔ c = true ∧ x.at_ ρ = some b := by
  cases c <;> simp [chk_true, chk_false, at_bad]
end T

/-! ## Sameness of symbolic words, for looking up what is known already -/
def kid : IntKind → Nat
  | .i8 => 0 | .i16 => 1 | .i32 => 2 | .i64 => 3 | .u8 => 4 | .u16 => 5 | .u32 => 6 | .u64 => 7
theorem kid_inj {a b : IntKind} (h : kid a = kid b) : a = b := by
  cases a <;> cases b <;> first | rfl | (exact absurd h (by decide))
def bid : BinOp → Nat
  | .add => 0 | .sub => 1 | .mul => 2 | .quo => 3 | .rem => 4 | .and => 5 | .or => 6 | .xor => 7 | .shl => 8 | .shr => 9 | .andNot => 10
  | .eql => 11 | .neq => 12 | .lss => 13 | .leq => 14 | .gtr => 15 | .geq => 16
theorem bid_inj {a b : BinOp} (h : bid a = bid b) : a = b := by
  cases a <;> cases b <;> first | rfl | (exact absurd h (by decide))
def intSame : Int → Int → Bool
  | .ofNat a, .ofNat b => Nat.beq a b
  | .negSucc a, .negSucc b => Nat.beq a b
  | _, _ => false
theorem intSame_eq (a b : Int) : intSame a b = true ↔ a = b := by
  cases a <;> cases b <;> simp [intSame, Nat.beq_eq] <;> omega
def bytesSame : List UInt8 → List UInt8 → Bool
  | [], [] => true
  | a :: x, b :: y => bif Nat.beq a.toNat b.toNat then bytesSame x y else false
  | _, _ => false
theorem bytesSame_eq : ∀ (x y : List UInt8), bytesSame x y = true ↔ x = y
  | [], [] => by simp [bytesSame]
  | [], _ :: _ => by simp [bytesSame]
  | _ :: _, [] => by simp [bytesSame]
  | a :: x, b :: y => by
    have ih := bytesSame_eq x y
    have hab : Nat.beq a.toNat b.toNat = true ↔ a = b := by rw [Nat.beq_eq]; exact UInt8.toNat_inj
    unfold bytesSame
    cases h : Nat.beq a.toNat b.toNat
    · simp [h] at hab; simp [hab]
    · simp [h] at hab; simp [hab, ih]
def Tm.same : Tm → Tm → Bool
  | .c a, .c b => intSame a b
  | .v i, .v j => Nat.beq i j
  | .bin o k a b, .bin o' k' a' b' => bif Nat.beq (bid o) (bid o') then (bif Nat.beq (kid k) (kid k') then (bif Tm.same a a' then Tm.same b b' else false) else false) else false
  | .conv k a, .conv k' a' => bif Nat.beq (kid k) (kid k') then Tm.same a a' else false
  | .len i, .len j => Nat.beq i j
  | _, _ => false
theorem Tm.same_eq : ∀ {a b : Tm}, a.same b = true → a = b := by
  intro a
  induction a with
  | c n => intro b h; cases b <;> simp [Tm.same, intSame_eq] at h; simp [h]
  | v i => intro b h; cases b <;> simp [Tm.same, Nat.beq_eq] at h; simp [h]
  | bin o k a b iha ihb =>
    intro c h
    cases c <;> simp [Tm.same] at h
    obtain ⟨h1, h2, h3, h4⟩ := h
    rw [bid_inj h1, kid_inj h2, iha h3, ihb h4]
  | conv k a ih =>
    intro c h
    cases c <;> simp [Tm.same] at h
    rw [kid_inj h.1, ih h.2]
  | len i => intro b h; cases b <;> simp [Tm.same, Nat.beq_eq] at h; simp [h]
def tmsSame : List Tm → List Tm → Bool
  | [], [] => true
  | a :: x, b :: y => bif Tm.same a b then tmsSame x y else false
  | _, _ => false
theorem tmsSame_eq : ∀ {x y : List Tm}, tmsSame x y = true → x = y
  | [], [], _ => rfl
  | [], _ :: _, h => by simp [tmsSame] at h
  | _ :: _, [], h => by simp [tmsSame] at h
  | a :: x, b :: y, h => by
    simp [tmsSame] at h
    rw [Tm.same_eq h.1, tmsSame_eq h.2]
def STm.same : STm → STm → Bool
  | .c x, .c y => bytesSame x y
  | .v i, .v j => Nat.beq i j
  | .b x, .b y => tmsSame x y
  | _, _ => false
theorem STm.same_eq {a b : STm} (h : a.same b = true) : a = b := by
  cases a <;> cases b <;> simp [STm.same, bytesSame_eq, Nat.beq_eq] at h
  · simp [h]
  · simp [h]
  · rw [tmsSame_eq h]
def Atom.same : Atom → Atom → Bool
  | .eq a b, .eq c d => bif Tm.same a c then Tm.same b d else false
  | .lt a b, .lt c d => bif Tm.same a c then Tm.same b d else false
  | .seq a b, .seq c d => bif STm.same a c then STm.same b d else false
  | .slt a b, .slt c d => bif STm.same a c then STm.same b d else false
  | _, _ => false
theorem Atom.same_eq {a b : Atom} (h : a.same b = true) : a = b := by
  cases a <;> cases b <;> simp [Atom.same] at h
  · rw [Tm.same_eq h.1, Tm.same_eq h.2]
  · rw [Tm.same_eq h.1, Tm.same_eq h.2]
  · rw [STm.same_eq h.1, STm.same_eq h.2]
  · rw [STm.same_eq h.1, STm.same_eq h.2]

/-! ## The heap -/
inductive AObj where
  /-- cells: those that are known by place, what the others are, how many there are; the element's type; how many cells an element has where there is more room than that (0: there is none) -/
  | cells (t : Tr AV) (d : Option AV) (n : Nat) (el : TypeId) (sz : Nat)
  | map (es : List (AV × AV × Nat)) (ck : Nat)
  | iter (m : Option Nat) (since : Nat) (seen : List Nat) (last : Nat)
  | loop (st : LoopState) (pend : Option Code) (fn : FuncId) (env : Tr AV) (nt : Nat) (params : List Tmp) (assign body : Code) (dfr : Nat)
  | dfr
  /-- a block that is read alone -/
  | ro (i : Nat) (cs : List AV)

structure St where
  H : Tr AObj
  nx : Nat
  fx : List (Atom × Bool)

/-- A new object. -/
noncomputable def St.new (st : St) (o : AObj) : St := ⟨st.H.set st.nx o, Nat.succ st.nx, st.fx⟩
noncomputable def St.put (st : St) (id : Nat) (o : AObj) : St := ⟨st.H.set id o, st.nx, st.fx⟩

abbrev Facts := List (Atom × Bool)
/-- What is known of an atom. -/
noncomputable def known (A : Atom) (fx : Facts) : Option Bool :=
  List.rec (motive := fun _ => Option Bool) none (fun p _ ih => Bool.rec ih (some p.2) (Atom.same A p.1)) fx
/-- A test of what is symbolic: both ways, where it isn't known. -/
noncomputable def dec (A : Atom) (fx : Facts) : T (Bool × Facts) :=
  Option.rec (motive := fun _ => T (Bool × Facts))
    (.split A (.ret (true, (A, true) :: fx)) (.ret (false, (A, false) :: fx)))
    (fun b => .ret (b, fx)) (known A fx)

/-! ## Whole numbers -/
def hiN : IntKind → Nat
  | .i8 => 127 | .i16 => 32767 | .i32 => 2147483647 | .i64 => 9223372036854775807
  | .u8 => 255 | .u16 => 65535 | .u32 => 4294967295 | .u64 => 18446744073709551615
def loN : IntKind → Nat
  | .i8 => 128 | .i16 => 32768 | .i32 => 2147483648 | .i64 => 9223372036854775808
  | _ => 0
def wrapF (k : IntKind) (n : Int) : Int :=
  match n with
  | .ofNat a => bif Nat.ble a (hiN k) then .ofNat a else k.wrap n
  | .negSucc a => bif Nat.ble (Nat.succ a) (loN k) then n else k.wrap n
def bitsN : IntKind → Nat
  | .i8 => 8 | .u8 => 8 | .i16 => 16 | .u16 => 16 | .i32 => 32 | .u32 => 32 | .i64 => 64 | .u64 => 64
def arithF (op : BinOp) (k : IntKind) (x y : Int) : Option Int :=
  match op with
  | .add => some (wrapF k (Int.add x y))
  | .sub => some (wrapF k (Int.sub x y))
  | .mul => some (wrapF k (Int.mul x y))
  | .and => match x, y with
    | .ofNat a, .ofNat b => some (wrapF k (.ofNat (Nat.land a b)))
    | _, _ => arith .and k x y
  | .or => match x, y with
    | .ofNat a, .ofNat b => some (wrapF k (.ofNat (Nat.lor a b)))
    | _, _ => arith .or k x y
  | .xor => match x, y with
    | .ofNat a, .ofNat b => some (wrapF k (.ofNat (Nat.xor a b)))
    | _, _ => arith .xor k x y
  | .quo => match x, y with
    | .ofNat a, .ofNat b => bif Nat.beq b 0 then none else some (wrapF k (.ofNat (Nat.div a b)))
    | _, _ => arith .quo k x y
  | .rem => match x, y with
    | .ofNat a, .ofNat b => bif Nat.beq b 0 then none else some (.ofNat (Nat.mod a b))
    | _, _ => arith .rem k x y
  | .shl => match x, y with
    | .ofNat a, .ofNat b => some (wrapF k (.ofNat (Nat.mul a (Nat.pow 2 (bif Nat.ble b (bitsN k) then b else bitsN k)))))
    | _, _ => arith .shl k x y
  | .shr => match x, y with
    | .ofNat a, .ofNat b => some (.ofNat (Nat.div a (Nat.pow 2 (bif Nat.ble b (bitsN k) then b else bitsN k))))
    | _, _ => arith .shr k x y
  | op => arith op k x y
def intLt : Int → Int → Bool
  | .ofNat a, .ofNat b => Nat.ble (Nat.succ a) b
  | .negSucc _, .ofNat _ => true
  | .ofNat _, .negSucc _ => false
  | .negSucc a, .negSucc b => Nat.ble (Nat.succ b) a

/-- Operators that give a number. -/
def binTm (op : BinOp) (k : IntKind) (s t : Tm) : Option Tm :=
  match s, t with
  | .c a, .c b => match arithF op k a b with
    | some n => some (.c n)
    | none => none
  | s, .c b => match op with
    | .quo | .rem => bif intSame b 0 then none else some (.bin op k s (.c b))
    | .shl | .shr => bif intLt b 0 then none else some (.bin op k s (.c b))
    | .add | .sub | .mul | .and | .or | .xor | .andNot => some (.bin op k s (.c b))
    | _ => none
  | s, t => match op with
    | .add | .sub | .mul | .and | .or | .xor | .andNot => some (.bin op k s t)
    | _ => none
def convTm (k : IntKind) (t : Tm) : Tm :=
  match t with
  | .c n => .c (wrapF k n)
  | t => .conv k t
def redStep (t : Tm) (p : Atom × Bool) (ih : Tm) : Tm :=
  match p with
  | (.eq s (.c n), true) => bif Tm.same s t then .c n else ih
  | (.eq (.c n) s, true) => bif Tm.same s t then .c n else ih
  | _ => ih
/-- A number that is known to be so. -/
noncomputable def redK (t : Tm) (fx : Facts) : Tm := List.rec (motive := fun _ => Tm) t (fun p _ ih => redStep t p ih) fx
/-- The same, part by part. -/
noncomputable def red (fx : Facts) (t : Tm) : Tm :=
  match t with
  | .c n => .c n
  | .bin op k a b => (fun a b => (fun r => match r with
    | some (.c n) => .c n
    | _ => redK (.bin op k a b) fx) (binTm op k a b)) (redK a fx) (redK b fx)
  | t => redK t fx
noncomputable def eqTm0 (s t : Tm) (fx : Facts) : T (Bool × Facts) :=
  match s, t with
  | .c a, .c b => .ret (intSame a b, fx)
  | s, t => bif Tm.same s t then .ret (true, fx) else
    Option.rec (motive := fun _ => T (Bool × Facts)) (dec (.eq s t) fx) (fun b => .ret (b, fx)) (known (.eq t s) fx)
noncomputable def eqTm (s t : Tm) (fx : Facts) : T (Bool × Facts) := eqTm0 (red fx s) (red fx t) fx
noncomputable def ltTm1 (s t : Tm) (fx : Facts) : T (Bool × Facts) :=
  match s, t with
  | .c a, .c b => .ret (intLt a b, fx)
  | s, t => bif Tm.same s t then .ret (false, fx) else dec (.lt s t) fx
/-- Which of some numbers, from one on, a word is. -/
noncomputable def whichG (t : Tm) (n : Nat) : Nat → Facts → T (Option Nat × Facts) :=
  Nat.rec (motive := fun _ => Nat → Facts → T (Option Nat × Facts)) (fun _ fx => .ret (none, fx))
    (fun _ ih i fx => (eqTm0 t (.c (.ofNat i)) fx).bind fun p => Bool.rec (ih (Nat.succ i) p.2) (.ret (some i, p.2)) p.1) n
/-- What is masked is one of few numbers. -/
def maskT (t : Tm) : Option Nat :=
  match t with
  | .bin .and _ _ (.c (.ofNat m)) => bif Nat.ble m 15 then some m else none
  | _ => none
def natT (t : Tm) : Option Nat :=
  match t with
  | .c (.ofNat n) => some n
  | _ => none
noncomputable def ltTm2 (s t : Tm) (fx : Facts) : T (Bool × Facts) :=
  Option.rec (motive := fun _ => T (Bool × Facts))
    (Option.rec (motive := fun _ => T (Bool × Facts)) (ltTm1 s t fx)
      (fun m => Option.rec (motive := fun _ => T (Bool × Facts)) (ltTm1 s t fx)
        (fun i => bif Nat.ble i m then (whichG s i 0 fx).bind fun p => .ret (Option.rec false (fun _ => true) p.1, p.2) else .ret (true, fx)) (natT t)) (maskT s))
    (fun m => Option.rec (motive := fun _ => T (Bool × Facts)) (ltTm1 s t fx)
      (fun i => bif Nat.ble (Nat.succ i) m then (whichG t (Nat.succ i) 0 fx).bind fun p => .ret (Option.rec true (fun _ => false) p.1, p.2) else .ret (false, fx)) (natT s)) (maskT t)
/-- Words that lie between nought and a number. -/
def ubT : Tm → Option Nat
  | .bin .and k _ (.c (.ofNat m)) => bif Nat.ble m (hiN k) then some m else none
  | .conv k a => match ubT a with
    | some u => bif Nat.ble u (hiN k) then some u else none
    | none => none
  | .bin .shr k a (.c (.ofNat n)) => match ubT a with
    | some u => bif Nat.ble n (bitsN k) then some (Nat.div u (Nat.pow 2 n)) else none
    | none => none
  | _ => none
/-- A comparison that bounds decide. -/
def bndT (s t : Tm) : Option Bool :=
  match s, t with
  | .c (.ofNat i), t => match ubT t with
    | some u => bif Nat.ble u i then some false else none
    | none => none
  | .c (.negSucc _), t => match ubT t with
    | some _ => some true
    | none => none
  | s, .c (.ofNat i) => match ubT s with
    | some u => bif Nat.ble (Nat.succ u) i then some true else (bif Nat.beq i 0 then some false else none)
    | none => none
  | s, .c (.negSucc _) => match ubT s with
    | some _ => some false
    | none => none
  | _, _ => none
noncomputable def ltTm0 (s t : Tm) (fx : Facts) : T (Bool × Facts) :=
  match s, t with
  | .c a, .c b => .ret (intLt a b, fx)
  | s, t => Option.rec (motive := fun _ => T (Bool × Facts)) (ltTm2 s t fx) (fun b => .ret (b, fx)) (bndT s t)
noncomputable def ltTm (s t : Tm) (fx : Facts) : T (Bool × Facts) := ltTm0 (red fx s) (red fx t) fx
def bytesLt : List UInt8 → List UInt8 → Bool
  | _, [] => false
  | [], _ :: _ => true
  | a :: x, b :: y => bif Nat.beq a.toNat b.toNat then bytesLt x y else Nat.ble (Nat.succ a.toNat) b.toNat
noncomputable def eqStm (s t : STm) (fx : Facts) : T (Bool × Facts) :=
  match s, t with
  | .c a, .c b => .ret (bytesSame a b, fx)
  | s, t => bif STm.same s t then .ret (true, fx) else
    Option.rec (motive := fun _ => T (Bool × Facts)) (dec (.seq s t) fx) (fun b => .ret (b, fx)) (known (.seq t s) fx)
noncomputable def ltStm (s t : STm) (fx : Facts) : T (Bool × Facts) :=
  match s, t with
  | .c a, .c b => .ret (bytesLt a b, fx)
  | s, t => bif STm.same s t then .ret (false, fx) else dec (.slt s t) fx
noncomputable def neg1 (x : T (Bool × Facts)) : T (Bool × Facts) := x.bind fun p => .ret (!p.1, p.2)
noncomputable def asV (x : T (Bool × Facts)) : T (AV × Facts) := x.bind fun p => .ret (.bool p.1, p.2)

/-! ## Tables -/
structure TI where
  info : TypeInfo
  desc : TypeDesc
  zero : Option AV
  agg : Bool
  /-- where values of it are the same just where their cells are: the kinds of these: 0 whole numbers, 1 texts, 2 truths -/
  kinds : Option (List Nat)
  guard : Bool

structure Ctx where
  ft : Tr Func
  tt : Tr TI
  /-- how many package-level variables there are: their blocks bear these numbers in the abstract heap too -/
  gl : Nat
  /-- functions that are not run but summed up: each wants a proof of its own -/
  hk : Tr (List AV → St → T (AV × St))
  /-- masked symbols below this one are split into their values at once -/
  en : Nat

def descAgg : TypeDesc → Bool
  | .struct _ => true
  | .array _ _ => true
  | _ => false

end Ab
