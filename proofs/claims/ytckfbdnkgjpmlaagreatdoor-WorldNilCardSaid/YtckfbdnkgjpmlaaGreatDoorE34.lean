/- E, part 34: the executor with its code turned into functions beforehand: the kernel keeps what it has turned, so that each operation is looked at once. It is the same executor. -/
import Derived.Test.YtckfbdnkgjpmlaaGreatDoorE33
namespace Ab
open Go

/-! ## Paths in tries that are known beforehand -/
namespace Tr
variable {α : Type}
noncomputable def lft (t : Tr α) : Tr α := Tr.rec (motive := fun _ => Tr α) nil (fun _ l _ _ _ => l) t
noncomputable def rgt (t : Tr α) : Tr α := Tr.rec (motive := fun _ => Tr α) nil (fun _ _ r _ _ => r) t
noncomputable def val (t : Tr α) : Option α := Tr.rec (motive := fun _ => Option α) none (fun v _ _ _ _ => v) t
noncomputable def putV (a : α) (t : Tr α) : Tr α := Tr.rec (motive := fun _ => Tr α) (node (some a) nil nil) (fun _ l r _ _ => node (some a) l r) t
noncomputable def putL (g : Tr α → Tr α) (t : Tr α) : Tr α := Tr.rec (motive := fun _ => Tr α) (node none (g nil) nil) (fun v l r _ _ => node v (g l) r) t
noncomputable def putR (g : Tr α → Tr α) (t : Tr α) : Tr α := Tr.rec (motive := fun _ => Tr α) (node none nil (g nil)) (fun v l r _ _ => node v l (g r)) t
noncomputable def getC {R : Type} (f : Nat) : Nat → ((Tr α → Option α) → R) → R :=
  Nat.rec (motive := fun _ => Nat → ((Tr α → Option α) → R) → R) (fun k c => c fun t => t.get k)
    (fun _ ih k c => Nat.rec (motive := fun _ => R) (c val)
      (fun j _ => Bool.rec (ih (Nat.shiftRight j 1) fun g => c fun t => g (lft t)) (ih (Nat.shiftRight j 1) fun g => c fun t => g (rgt t)) (Nat.beq (Nat.land j 1) 1)) k) f
noncomputable def setC {R : Type} (f : Nat) : Nat → ((α → Tr α → Tr α) → R) → R :=
  Nat.rec (motive := fun _ => Nat → ((α → Tr α → Tr α) → R) → R) (fun k c => c fun a t => t.set k a)
    (fun _ ih k c => Nat.rec (motive := fun _ => R) (c putV)
      (fun j _ => Bool.rec (ih (Nat.shiftRight j 1) fun g => c fun a t => putL (g a) t) (ih (Nat.shiftRight j 1) fun g => c fun a t => putR (g a) t) (Nat.beq (Nat.land j 1) 1)) k) f

theorem getC_eq {R : Type} : ∀ (f k : Nat) (c : (Tr α → Option α) → R), getC f k c = c fun t => t.get k := by
  intro f
  induction f with
  | zero => intro k c; rfl
  | succ f ih =>
    intro k c
    cases k with
    | zero =>
      show c val = _
      congr 1
      funext t
      cases t <;> rfl
    | succ j =>
      show (Bool.rec (getC f (Nat.shiftRight j 1) fun g => c fun t => g (lft t)) (getC f (Nat.shiftRight j 1) fun g => c fun t => g (rgt t)) (Nat.beq (Nat.land j 1) 1) : R) = _
      rw [brec, ih, ih]
      by_cases hb : Nat.beq (Nat.land j 1) 1 = true
      · rw [if_pos hb]
        congr 1
        funext t
        cases t with
        | nil => simp [rgt, get_nil]
        | node v l r => rw [get_node_succ, if_pos hb]; rfl
      · rw [if_neg hb]
        congr 1
        funext t
        cases t with
        | nil => simp [lft, get_nil]
        | node v l r => rw [get_node_succ, if_neg hb]; rfl
theorem updF_fuel (o : Option α) : ∀ (f f' : Nat) (t : Tr α) (k : Nat), k < f → k < f' → updF o f t k = updF o f' t k := by
  intro f
  induction f with
  | zero => intro f' t k h; omega
  | succ f ih =>
    intro f' t k h h'
    cases f' with
    | zero => omega
    | succ f' =>
      cases k with
      | zero => cases t <;> rfl
      | succ j =>
        have e : ∀ t : Tr α, updF o f t (Nat.shiftRight j 1) = updF o f' t (Nat.shiftRight j 1) := fun t => ih f' t _ (by rw [shr1]; omega) (by rw [shr1]; omega)
        cases t with
        | nil => rw [updF_nil_succ, updF_nil_succ, e]
        | node v l r => rw [updF_node_succ, updF_node_succ, e, e]
theorem setC_eq {R : Type} : ∀ (f k : Nat) (c : (α → Tr α → Tr α) → R), setC f k c = c fun a t => t.set k a := by
  intro f
  induction f with
  | zero => intro k c; rfl
  | succ f ih =>
    intro k c
    cases k with
    | zero =>
      show c putV = _
      congr 1
    | succ j =>
      show (Bool.rec (setC f (Nat.shiftRight j 1) fun g => c fun a t => putL (g a) t) (setC f (Nat.shiftRight j 1) fun g => c fun a t => putR (g a) t) (Nat.beq (Nat.land j 1) 1) : R) = _
      rw [brec, ih, ih]
      have e : ∀ (a : α) (t : Tr α), t.set (Nat.shiftRight j 1) a = updF (some a) (j + 1) t (Nat.shiftRight j 1) := fun a t => updF_fuel _ _ _ _ _ (Nat.lt_succ_self _) (by rw [shr1]; omega)
      by_cases hb : Nat.beq (Nat.land j 1) 1 = true
      · rw [if_pos hb]
        congr 1
        funext a t
        show _ = updF (some a) (j + 1 + 1) t (j + 1)
        cases t with
        | nil => rw [updF_nil_succ, if_pos hb, ← e]; rfl
        | node v l r => rw [updF_node_succ, if_pos hb, ← e]; rfl
      · rw [if_neg hb]
        congr 1
        funext a t
        show _ = updF (some a) (j + 1 + 1) t (j + 1)
        cases t with
        | nil => rw [updF_nil_succ, if_neg hb, ← e]; rfl
        | node v l r => rw [updF_node_succ, if_neg hb, ← e]; rfl
end Tr

/-! ## Small eliminators -/
noncomputable def AV.onPtr {R : Type} (v : AV) (d : R) (f : Nat → Nat → R) : R :=
  AV.rec (motive_1 := fun _ => R) (motive_2 := fun _ => R) (fun _ => d) (fun _ _ => d) (fun _ => d) f d (fun _ _ _ _ _ _ => d) d (fun _ => d) d (fun _ _ _ _ _ => d) (fun _ _ _ _ _ => d) (fun _ => d) d (fun _ _ _ => d) d (fun _ _ => d) (fun _ _ => d) (fun _ => d) d (fun _ _ _ _ => d) v
noncomputable def AV.onBool {R : Type} (v : AV) (d : R) (f : Bool → R) : R :=
  AV.rec (motive_1 := fun _ => R) (motive_2 := fun _ => R) f (fun _ _ => d) (fun _ => d) (fun _ _ => d) d (fun _ _ _ _ _ _ => d) d (fun _ => d) d (fun _ _ _ _ _ => d) (fun _ _ _ _ _ => d) (fun _ => d) d (fun _ _ _ => d) d (fun _ _ => d) (fun _ _ => d) (fun _ => d) d (fun _ _ _ _ => d) v
noncomputable def AV.onTuple {R : Type} (v : AV) (d : R) (f : List AV → R) : R :=
  AV.rec (motive_1 := fun _ => R) (motive_2 := fun _ => R) (fun _ => d) (fun _ _ => d) (fun _ => d) (fun _ _ => d) d (fun _ _ _ _ _ _ => d) d (fun _ => d) d (fun _ _ _ _ _ => d) (fun _ _ _ _ _ => d) (fun _ => d) d (fun _ _ _ => d) d (fun _ _ => d) (fun l _ => f l) (fun _ => d) d (fun _ _ _ _ => d) v
noncomputable def AV.onInt {R : Type} (v : AV) (d : R) (f : IntKind → Tm → R) : R :=
  AV.rec (motive_1 := fun _ => R) (motive_2 := fun _ => R) (fun _ => d) f (fun _ => d) (fun _ _ => d) d (fun _ _ _ _ _ _ => d) d (fun _ => d) d (fun _ _ _ _ _ => d) (fun _ _ _ _ _ => d) (fun _ => d) d (fun _ _ _ => d) d (fun _ _ => d) (fun _ _ => d) (fun _ => d) d (fun _ _ _ _ => d) v
/-- The cells of a value. -/
noncomputable def AV.cellsF (v : AV) : List AV :=
  AV.rec (motive_1 := fun _ => List AV) (motive_2 := fun _ => List AV) (fun _ => [v]) (fun _ _ => [v]) (fun _ => [v]) (fun _ _ => [v]) [v] (fun _ _ _ _ _ _ => [v]) [v] (fun _ => [v]) [v] (fun _ _ _ _ _ => [v]) (fun _ _ _ _ _ => [v]) (fun _ => [v]) [v] (fun _ _ _ => [v]) [v] (fun l _ => l) (fun _ _ => [v]) (fun _ => [v]) [] (fun _ _ _ _ => []) v
theorem AV.cellsF_eq (v : AV) : v.cellsF = v.cells := by cases v <;> rfl
noncomputable def AV.oneF (v : AV) : Bool :=
  AV.rec (motive_1 := fun _ => Bool) (motive_2 := fun _ => Bool) (fun _ => true) (fun _ _ => true) (fun _ => true) (fun _ _ => true) true (fun _ _ _ _ _ _ => true) true (fun _ => true) true (fun _ _ _ _ _ => true) (fun _ _ _ _ _ => true) (fun _ => true) true (fun _ _ _ => true) true (fun _ _ => false) (fun _ _ => false) (fun _ => true) true (fun _ _ _ _ => true) v
theorem AV.oneF_eq (v : AV) : v.oneF = v.one := by cases v <;> rfl
noncomputable def allOneF (l : List AV) : Bool := List.rec (motive := fun _ => Bool) true (fun v _ ih => Bool.rec false ih v.oneF) l
theorem allOneF_eq (l : List AV) : allOneF l = allOne l := by
  induction l with
  | nil => rfl
  | cons v l ih =>
    show (Bool.rec false (allOneF l) v.oneF : Bool) = Bool.rec false (allOne l) v.one
    rw [ih, AV.oneF_eq]
noncomputable def AObj.onCells {R : Type} (o : AObj) (d : R) (f : Tr AV → Option AV → Nat → TypeId → Nat → R) : R :=
  AObj.rec (motive := fun _ => R) f (fun _ _ => d) (fun _ _ _ _ => d) (fun _ _ _ _ _ _ _ _ _ => d) d (fun _ _ => d) o
noncomputable def AObj.onLd {R : Type} (o : AObj) (d : R) (f : Tr AV → Option AV → Nat → TypeId → Nat → R) (g : List AV → R) : R :=
  AObj.rec (motive := fun _ => R) f (fun _ _ => d) (fun _ _ _ _ => d) (fun _ _ _ _ _ _ _ _ _ => d) d (fun _ cs => g cs) o
noncomputable def Ex.onNormal {R : Type} (x : Ex) (d f : R) : R := Ex.rec (motive := fun _ => R) f (fun _ => d) d x

/-! ## Operands -/
noncomputable def withO {R : Type} (gl : Nat) (x : Operand) (k : (Tr AV → Option AV) → R) : R :=
  match x with
  | .tmp t => Tr.getC 16 t k
  | .const v => Option.rec (motive := fun _ => R) (k fun _ => none) (fun a => k fun _ => some a) (ofV v)
  | .func f => k fun _ => some (.func f [] [])
  | .global g => k fun e => opnd gl e (.global g)
theorem withO_eq {R : Type} (gl : Nat) (x : Operand) (k : (Tr AV → Option AV) → R) : withO gl x k = k fun e => opnd gl e x := by
  cases x with
  | tmp t => exact Tr.getC_eq 16 t k
  | const v =>
    show (Option.rec (motive := fun _ => R) (k fun _ => none) (fun a => k fun _ => some a) (ofV v) : R) = k fun _ => ofV v
    cases ofV v <;> rfl
  | func f => rfl
  | global g => rfl

/-! ## Operations -/
abbrev PureF := Tr AV → Facts → T (AV × Facts)
abbrev RdF := Tr AV → Tr AObj → Facts → T (AV × Facts)
abbrev OpF := CallF → Tr AV → St → T (AV × St)
noncomputable def fieldAddrC {R : Type} (cx : Ctx) (s : TypeId) (f : Nat) (k : (AV → Facts → T (AV × Facts)) → R) : R :=
  match cx.tt.get s with
  | none => k fun a fx => fieldAddrE cx s a f fx
  | some ti => match ti.desc with
    | .struct fs => match lget fs.toList f with
      | none => k fun a fx => fieldAddrE cx s a f fx
      | some fd => match cx.tt.get fd.type with
        | none => k fun a fx => fieldAddrE cx s a f fx
        | some fi => bif Nat.ble 1 fi.info.size then k fun a fx => a.onPtr (.bad 57) fun id off => .ret (.ptr id (Nat.add off fd.offset), fx)
          else k fun a fx => fieldAddrE cx s a f fx
    | _ => k fun a fx => fieldAddrE cx s a f fx
theorem fieldAddrC_eq {R : Type} (cx : Ctx) (s : TypeId) (f : Nat) (k : (AV → Facts → T (AV × Facts)) → R) : fieldAddrC cx s f k = k fun a fx => fieldAddrE cx s a f fx := by
  unfold fieldAddrC
  split
  · rfl
  · rename_i ti h1
    split
    · rename_i fs h2
      split
      · rfl
      · rename_i fd h3
        split
        · rfl
        · rename_i fi h4
          cases h5 : Nat.ble 1 fi.info.size with
          | false => rfl
          | true =>
            rw [cond_true]
            congr 1
            funext a fx
            cases a <;> first | rfl | skip
            rename_i id off
            show _ = tyE cx s _
            unfold tyE
            rw [h1, T.opt_some]
            simp only [h2, h3, T.opt_some, h4, h5, T.chk_true]
            rfl
    · rfl
noncomputable def pureC {R : Type} (cx : Ctx) (op : Op) (k : PureF → R) : R :=
  match op with
  | .move x => withO cx.gl x fun gx => k fun e fx => T.opt (gx e) 100 fun v => .ret (v, fx)
  | .assign x => withO cx.gl x fun gx => k fun e fx => T.opt (gx e) 100 fun v => .ret (v, fx)
  | .nilCheck x => withO cx.gl x fun gx => k fun e fx => T.opt (gx e) 100 fun v => v.onPtr (match v with
    | .ptr id off => .ret (.ptr id off, fx)
    | .func f a b => .ret (.func f a b, fx)
    | .meth name a b => boundE cx name a b fx
    | .iface t v => .ret (.iface t v, fx)
    | _ => .bad 105) fun id off => .ret (.ptr id off, fx)
  | .binOp o t x y _ => withO cx.gl x fun gx => withO cx.gl y fun gy => k fun e fx => T.opt (gx e) 100 fun a => T.opt (gy e) 100 fun b => binE cx o t a b fx
  | .unOp o _ x => withO cx.gl x fun gx => k fun e fx => T.opt (gx e) 100 fun a => unE o a fx
  | .convert s d x => withO cx.gl x fun gx => k fun e fx => T.opt (gx e) 100 fun a => convE cx s d a fx
  | .makeInterface t x => withO cx.gl x fun gx => k fun e fx => T.opt (gx e) 100 fun a => ifaceE cx t a fx
  | .fieldAddr s x f => withO cx.gl x fun gx => fieldAddrC cx s f fun fa => k fun e fx => T.opt (gx e) 100 fun a => fa a fx
  | .field t x f => withO cx.gl x fun gx => k fun e fx => T.opt (gx e) 100 fun a => fieldE cx t a f fx
  | .indexAddr t x ix => withO cx.gl x fun gx => withO cx.gl ix fun gy => k fun e fx => T.opt (gx e) 100 fun a => T.opt (gy e) 100 fun b => indexAddrE cx t a b fx
  | .index t x ix => withO cx.gl x fun gx => withO cx.gl ix fun gy => k fun e fx => T.opt (gx e) 100 fun a => T.opt (gy e) 100 fun b => indexE cx t a b fx
  | .extract t i => withO cx.gl t fun g => k fun e fx => T.opt (g e) 100 fun v => v.onTuple (.bad 110) fun vs => T.opt (lget vs i) 109 fun v => .ret (v, fx)
  | .typeAssert x _ t ok => withO cx.gl x fun gx => k fun e fx => T.opt (gx e) 100 fun v => assertE cx v t ok fx
  | op => k fun e fx => pureE cx (opnd cx.gl e) op fx
theorem pureC_eq {R : Type} (cx : Ctx) (op : Op) (k : PureF → R) : pureC cx op k = k fun e fx => pureE cx (opnd cx.gl e) op fx := by
  cases op <;> try rfl
  all_goals (simp only [pureC, withO_eq, fieldAddrC_eq]; try rfl)
  all_goals (congr 1; funext e fx; simp only [pureE, gE]; congr 1; funext v; cases v <;> rfl)
noncomputable def loadC {R : Type} (cx : Ctx) (t : TypeId) (k : (Tr AObj → AV → T AV) → R) : R :=
  match cx.tt.get t with
  | none => k fun H v => loadE cx H t v
  | some ti => bif ti.agg then k fun H v => v.onPtr (.bad 24) fun id off => T.opt (H.get id) 10 fun o => o.onLd (.bad 11) (fun tr d n _ _ =>
        T.chk (Nat.ble (Nat.add off ti.info.size) n) 20 (T.opt (gather tr d ti.info.size off) 21 fun cs => .ret (.agg cs))) fun cs => T.chk (Nat.beq off 0) 32 (T.chk (Nat.beq (llen cs) ti.info.size) 33 (.ret (.agg cs)))
      else k fun H v => v.onPtr (.bad 24) fun id off => T.opt (H.get id) 10 fun o => o.onLd (.bad 11) (fun tr d n _ _ =>
        T.chk (Nat.ble (Nat.succ off) n) 22 (T.opt (look tr d off) 23 .ret)) fun cs => T.opt (lget cs off) 34 .ret
theorem withCells_eq {β : Type} (H : Tr AObj) (id : Nat) (f : Tr AV → Option AV → Nat → TypeId → Nat → T β) : withCells H id f = T.opt (H.get id) 10 fun o => o.onCells (.bad 11) f := by
  unfold withCells
  cases H.get id with
  | none => rfl
  | some o => cases o <;> rfl
theorem loadC_eq {R : Type} (cx : Ctx) (t : TypeId) (k : (Tr AObj → AV → T AV) → R) : loadC cx t k = k fun H v => loadE cx H t v := by
  unfold loadC
  split
  · rfl
  · rename_i ti h1
    cases h2 : ti.agg with
    | true =>
      rw [cond_true]
      congr 1
      funext H v
      cases v <;> first | rfl | skip
      rename_i id off
      show _ = tyE cx t _
      unfold tyE
      rw [h1, T.opt_some, h2]
      refine congrArg (T.opt (H.get id) 10) (funext fun o => ?_)
      cases o <;> rfl
    | false =>
      rw [cond_false]
      congr 1
      funext H v
      cases v <;> first | rfl | skip
      rename_i id off
      show _ = tyE cx t _
      unfold tyE
      rw [h1, T.opt_some, h2]
      refine congrArg (T.opt (H.get id) 10) (funext fun o => ?_)
      cases o <;> rfl
noncomputable def rdC {R : Type} (cx : Ctx) (op : Op) (k : RdF → R) : R :=
  match op with
  | .load t a => withO cx.gl a fun ga => loadC cx t fun ld => k fun e H fx => T.opt (ga e) 100 fun v => (ld H v).bind fun r => .ret (r, fx)
  | .lookup t m x ok => withO cx.gl m fun gm => withO cx.gl x fun gx => k fun e H fx => T.opt (gm e) 100 fun m => T.opt (gx e) 100 fun x => lookupE cx H t m x ok fx
  | op => k fun e H fx => readE cx (opnd cx.gl e) op H fx
theorem rdC_eq {R : Type} (cx : Ctx) (op : Op) (k : RdF → R) : rdC cx op k = k fun e H fx => readE cx (opnd cx.gl e) op H fx := by
  cases op <;> try rfl
  all_goals (simp only [rdC, withO_eq, loadC_eq]; try rfl)
noncomputable def storeC {R : Type} (cx : Ctx) (t : TypeId) (k : (St → AV → AV → T (AV × St)) → R) : R :=
  match cx.tt.get t with
  | none => k fun st a v => stE (storeE cx st t a v)
  | some ti => k fun st a v => a.onPtr (.bad 28) fun id off => T.chk (Nat.ble (Nat.succ id) st.nx) 29 (T.opt (st.H.get id) 10 fun o => o.onCells (.bad 11) fun tr d n el sz =>
      T.chk (Nat.beq (llen v.cellsF) ti.info.size) 25 (T.chk (allOneF v.cellsF) 26 (T.chk (Nat.ble (Nat.add off ti.info.size) n) 27
        (.ret (undefA, st.put id (.cells (lay v.cellsF off tr) d n el sz))))))
theorem chk_bind {α β : Type} (b : Bool) (code : Nat) (x : T α) (f : α → T β) : (T.chk b code x).bind f = T.chk b code (x.bind f) := by cases b <;> rfl
theorem opt_bind {α β γ : Type} (o : Option γ) (code : Nat) (x : γ → T α) (f : α → T β) : (T.opt o code x).bind f = T.opt o code fun a => (x a).bind f := by cases o <;> rfl
theorem onCells_bind {α β : Type} (o : AObj) (c : Nat) (x : Tr AV → Option AV → Nat → TypeId → Nat → T α) (f : α → T β) : (o.onCells (.bad c) x).bind f = o.onCells (.bad c) fun a b c d e => (x a b c d e).bind f := by cases o <;> rfl
theorem storeC_eq {R : Type} (cx : Ctx) (t : TypeId) (k : (St → AV → AV → T (AV × St)) → R) : storeC cx t k = k fun st a v => stE (storeE cx st t a v) := by
  unfold storeC
  split
  · rfl
  · rename_i ti h1
    congr 1
    funext st a v
    cases a <;> first | rfl | skip
    rename_i id off
    show _ = stE (T.chk _ 29 (tyE cx t _))
    unfold tyE stE
    rw [h1, T.opt_some, withCells_eq]
    simp only [chk_bind, opt_bind, onCells_bind, AV.cellsF_eq, allOneF_eq]
    rfl
noncomputable def wrC {R : Type} (cx : Ctx) (op : Op) (k : (Tr AV → St → T (AV × St)) → R) : R :=
  match op with
  | .store t a x => withO cx.gl a fun ga => withO cx.gl x fun gx => storeC cx t fun s => k fun e st => T.opt (ga e) 100 fun a => T.opt (gx e) 100 fun x => s st a x
  | op => k fun e st => writeE cx (opnd cx.gl e) op st
theorem wrC_eq {R : Type} (cx : Ctx) (op : Op) (k : (Tr AV → St → T (AV × St)) → R) : wrC cx op k = k fun e st => writeE cx (opnd cx.gl e) op st := by
  cases op <;> try rfl
  all_goals (simp only [wrC, withO_eq, storeC_eq]; try rfl)
/-- One operation of a kind. -/
noncomputable def opC {R : Type} (cx : Ctx) (c : Nat) (op : Op) (k : OpF → R) : R :=
  match c with
  | 0 => pureC cx op fun f => k fun _ e st => (f e st.fx).bind fun p => .ret (p.1, ⟨st.H, st.nx, p.2⟩)
  | 1 => rdC cx op fun f => k fun _ e st => (f e st.H st.fx).bind fun p => .ret (p.1, ⟨st.H, st.nx, p.2⟩)
  | 3 => wrC cx op fun f => k fun _ e st => f e st
  | c => k fun cf e st => opE cx cf (opnd cx.gl e) c op st
theorem opC_eq {R : Type} (cx : Ctx) (c : Nat) (op : Op) (k : OpF → R) : opC cx c op k = k fun cf e st => opE cx cf (opnd cx.gl e) c op st := by
  unfold opC
  split
  · rw [pureC_eq]; rfl
  · rw [rdC_eq]; rfl
  · rw [wrC_eq]; rfl
  · rfl
/-- Operations one by one, by what they are. -/
noncomputable def genK {R : Type} (cx : Ctx) (op : Op) (k : OpF → R) : R := opC cx (cls cx op) op k
noncomputable def moveK {R : Type} (cx : Ctx) (x : Operand) (k : OpF → R) : R := withO cx.gl x fun gx => k fun _ e st => T.opt (gx e) 100 fun v => .ret (v, st)
noncomputable def nilK {R : Type} (cx : Ctx) (x : Operand) (k : OpF → R) : R := withO cx.gl x fun gx => k fun _ e st => T.opt (gx e) 100 fun v =>
  v.onPtr ((pureE cx (fun _ => some v) (.nilCheck x) st.fx).bind fun p => .ret (p.1, ⟨st.H, st.nx, p.2⟩)) fun id off => .ret (.ptr id off, st)
noncomputable def binK {R : Type} (cx : Ctx) (o : BinOp) (t : TypeId) (x y : Operand) (k : OpF → R) : R :=
  withO cx.gl x fun gx => withO cx.gl y fun gy => k fun _ e st => T.opt (gx e) 100 fun a => T.opt (gy e) 100 fun b => (binE cx o t a b st.fx).bind fun p => .ret (p.1, ⟨st.H, st.nx, p.2⟩)
noncomputable def faddrK {R : Type} (cx : Ctx) (s : TypeId) (x : Operand) (f : Nat) (k : OpF → R) : R :=
  withO cx.gl x fun gx => fieldAddrC cx s f fun fa => k fun _ e st => T.opt (gx e) 100 fun a => (fa a st.fx).bind fun p => .ret (p.1, ⟨st.H, st.nx, p.2⟩)
noncomputable def fieldK {R : Type} (cx : Ctx) (t : TypeId) (x : Operand) (f : Nat) (k : OpF → R) : R :=
  withO cx.gl x fun gx => k fun _ e st => T.opt (gx e) 100 fun a => (fieldE cx t a f st.fx).bind fun p => .ret (p.1, ⟨st.H, st.nx, p.2⟩)
noncomputable def iaddrK {R : Type} (cx : Ctx) (t : TypeId) (x ix : Operand) (k : OpF → R) : R :=
  withO cx.gl x fun gx => withO cx.gl ix fun gy => k fun _ e st => T.opt (gx e) 100 fun a => T.opt (gy e) 100 fun b => (indexAddrE cx t a b st.fx).bind fun p => .ret (p.1, ⟨st.H, st.nx, p.2⟩)
noncomputable def extrK {R : Type} (cx : Ctx) (t : Operand) (i : Nat) (k : OpF → R) : R :=
  withO cx.gl t fun g => k fun _ e st => T.opt (g e) 100 fun v => v.onTuple (.bad 110) fun vs => T.opt (lget vs i) 109 fun v => .ret (v, st)
noncomputable def loadK {R : Type} (cx : Ctx) (t : TypeId) (a : Operand) (k : OpF → R) : R :=
  withO cx.gl a fun ga => loadC cx t fun ld => k fun _ e st => T.opt (ga e) 100 fun v => (ld st.H v).bind fun r => .ret (r, st)
noncomputable def storeK {R : Type} (cx : Ctx) (t : TypeId) (a x : Operand) (k : OpF → R) : R :=
  withO cx.gl a fun ga => withO cx.gl x fun gx => storeC cx t fun s => k fun _ e st => T.opt (ga e) 100 fun a => T.opt (gx e) 100 fun x => s st a x
noncomputable def opA {R : Type} (cx : Ctx) (op : Op) (k : OpF → R) : R :=
  Op.rec (motive := fun _ => R) (fun x => moveK cx x k) (fun x => moveK cx x k) (fun _ _ _ => genK cx op k) (fun _ => genK cx op k) (fun _ _ => genK cx op k) (fun _ _ => genK cx op k) (fun _ _ _ => genK cx op k) (fun _ _ _ _ => genK cx op k)
    (fun t a => loadK cx t a k) (fun t a x => storeK cx t a x k) (fun _ => genK cx op k) (fun _ => genK cx op k) (fun x => nilK cx x k) (fun o t x y _ => binK cx o t x y k) (fun _ _ _ => genK cx op k) (fun _ _ _ => genK cx op k) (fun _ _ => genK cx op k) (fun _ _ => genK cx op k)
    (fun _ _ _ => genK cx op k) (fun _ _ => genK cx op k) (fun _ _ => genK cx op k) (fun _ _ _ => genK cx op k) (fun _ _ _ _ _ => genK cx op k) (fun s x f => faddrK cx s x f k) (fun t x f => fieldK cx t x f k) (fun t x ix => iaddrK cx t x ix k) (fun _ _ _ => genK cx op k) (fun _ _ _ _ => genK cx op k)
    (fun _ _ _ _ => genK cx op k) (fun _ _ _ => genK cx op k) (fun _ _ _ _ => genK cx op k) (fun _ _ => genK cx op k) (fun _ _ => genK cx op k) (fun _ => genK cx op k) (fun _ _ _ _ => genK cx op k) (fun t i => extrK cx t i k) (fun _ => genK cx op k) (fun _ => genK cx op k) (fun _ => genK cx op k)
    (fun _ => genK cx op k) (fun _ _ => genK cx op k) (fun _ _ _ => genK cx op k) (fun _ _ => genK cx op k) op
theorem onPtr_bind {α β : Type} (v : AV) (d : T α) (x : Nat → Nat → T α) (f : α → T β) : (v.onPtr d x).bind f = v.onPtr (d.bind f) fun a b => (x a b).bind f := by cases v <;> rfl
theorem bind_bind {α β γ : Type} (x : T α) (f : α → T β) (g : β → T γ) : (x.bind f).bind g = x.bind fun a => (f a).bind g := by
  induction x with
  | bad c => rfl
  | ret a => rfl
  | split c x y ihx ihy => rw [T.bind_split, T.bind_split, T.bind_split, ihx, ihy]
theorem opA_eq {R : Type} (cx : Ctx) (op : Op) (k : OpF → R) : opA cx op k = k fun cf e st => opE cx cf (opnd cx.gl e) (cls cx op) op st := by
  have hg : genK cx op k = k fun cf e st => opE cx cf (opnd cx.gl e) (cls cx op) op st := opC_eq _ _ _ _
  cases op <;> try exact hg
  case move x =>
    show moveK cx x k = _
    simp only [moveK, withO_eq]
    congr 1; funext cf e st
    show _ = (T.opt (opnd cx.gl e x) 100 _).bind _
    rw [opt_bind]; rfl
  case assign x =>
    show moveK cx x k = _
    simp only [moveK, withO_eq]
    congr 1; funext cf e st
    show _ = (T.opt (opnd cx.gl e x) 100 _).bind _
    rw [opt_bind]; rfl
  case load t a =>
    show loadK cx t a k = _
    simp only [loadK, withO_eq, loadC_eq]
    congr 1; funext cf e st
    show _ = (T.opt (opnd cx.gl e a) 100 _).bind _
    rw [opt_bind]
    refine congrArg (T.opt (opnd cx.gl e a) 100) (funext fun v => ?_)
    rw [bind_bind]; rfl
  case nilCheck x =>
    show nilK cx x k = _
    simp only [nilK, withO_eq]
    congr 1; funext cf e st
    show _ = (T.opt (opnd cx.gl e x) 100 _).bind _
    rw [opt_bind]
    refine congrArg (T.opt (opnd cx.gl e x) 100) (funext fun v => ?_)
    cases v <;> rfl
  case binOp o t x y z =>
    show binK cx o t x y k = _
    simp only [binK, withO_eq]
    congr 1; funext cf e st
    show _ = (T.opt (opnd cx.gl e x) 100 _).bind _
    rw [opt_bind]
    refine congrArg (T.opt (opnd cx.gl e x) 100) (funext fun v => ?_)
    show _ = (T.opt (opnd cx.gl e y) 100 _).bind _
    rw [opt_bind]
  case fieldAddr s x f =>
    show faddrK cx s x f k = _
    simp only [faddrK, withO_eq, fieldAddrC_eq]
    congr 1; funext cf e st
    show _ = (T.opt (opnd cx.gl e x) 100 _).bind _
    rw [opt_bind]
  case field s x f =>
    show fieldK cx s x f k = _
    simp only [fieldK, withO_eq]
    congr 1; funext cf e st
    show _ = (T.opt (opnd cx.gl e x) 100 _).bind _
    rw [opt_bind]
  case indexAddr t x y =>
    show iaddrK cx t x y k = _
    simp only [iaddrK, withO_eq]
    congr 1; funext cf e st
    show _ = (T.opt (opnd cx.gl e x) 100 _).bind _
    rw [opt_bind]
    refine congrArg (T.opt (opnd cx.gl e x) 100) (funext fun v => ?_)
    show _ = (T.opt (opnd cx.gl e y) 100 _).bind _
    rw [opt_bind]
  case extract x i =>
    show extrK cx x i k = _
    simp only [extrK, withO_eq]
    congr 1; funext cf e st
    show _ = (T.opt (opnd cx.gl e x) 100 _).bind _
    rw [opt_bind]
    refine congrArg (T.opt (opnd cx.gl e x) 100) (funext fun v => ?_)
    cases v <;> try rfl
    rename_i vs
    show _ = (T.opt (lget vs i) 109 _).bind _
    rw [opt_bind]; rfl
abbrev PutF := Nat → Tr AV → AV → (Tr AV → T (Tr AV × St)) → T (Tr AV × St)
noncomputable def putC {R : Type} (d : Option Tmp) (k : PutF → R) : R :=
  match d with
  | none => k fun _ e _ f => f e
  | some d => Tr.setC 16 d fun s => k fun nt e v f => T.chk (Nat.ble (Nat.succ d) nt) 310 (f (s v e))
theorem putC_eq {R : Type} (d : Option Tmp) (k : PutF → R) : putC d k = k fun nt e v f => putE nt e d v f := by
  cases d with
  | none => rfl
  | some d => exact Tr.setC_eq 16 d fun s => k fun nt e v f => T.chk (Nat.ble (Nat.succ d) nt) 310 (f (s v e))

/-! ## Regions -/
abbrev StepF := CallF → Nat → Tr AV → St → (Tr AV → St → T (Tr AV × St)) → T (Tr AV × St)
noncomputable def stepS (cx : Ctx) (ops : List Oper) (o : Oper) : Option StepF :=
  opA cx o.op fun f => putC o.dst fun put => match o.guard with
    | none => some fun cf nt e st ih => (f cf e st).bind fun p => put nt e p.1 fun e => ih e p.2
    | some _ => some fun cf nt e st ih => T.opt (wantE ops e o) 313 fun w =>
      Bool.rec (put nt e undefA fun e => ih e st) ((f cf e st).bind fun p => put nt e p.1 fun e => ih e p.2) w
noncomputable def regSF (cx : Ctx) (cf : CallF) (nt : Nat) (ops : List Oper) (l : List Oper) : Tr AV → St → T (Tr AV × St) :=
  List.rec (motive := fun _ => Tr AV → St → T (Tr AV × St)) (fun e st => .ret (e, st))
    (fun o _ ih e st => T.opt (stepS cx ops o) 0 fun F => F cf nt e st ih) l
theorem wantE_none {ops : List Oper} {e : Tr AV} {o : Oper} (h : o.guard = none) : wantE ops e o = some true := by unfold wantE; rw [h]
theorem regSF_eq {cx : Ctx} (cf : CallF) (nt : Nat) (ops : List Oper) : ∀ (l : List Oper) (e : Tr AV) (st : St), regSF cx cf nt ops l e st = regS cx cf nt ops l e st
  | [], e, st => rfl
  | o :: l, e, st => by
    have ih := fun e st => regSF_eq (cx := cx) cf nt ops l e st
    show T.opt (stepS cx ops o) 0 (fun F => F cf nt e st (regSF cx cf nt ops l)) = T.opt (wantE ops e o) 313 fun w =>
      Bool.rec (putE nt e o.dst undefA fun e => regS cx cf nt ops l e st)
        ((opE cx cf (opnd cx.gl e) (cls cx o.op) o.op st).bind fun p => putE nt e o.dst p.1 fun e => regS cx cf nt ops l e p.2) w
    have ih' : regSF cx cf nt ops l = regS cx cf nt ops l := by funext e st; exact ih e st
    rw [ih']
    unfold stepS
    rw [opA_eq, putC_eq]
    cases hg : o.guard with
    | none => rw [wantE_none hg]; rfl
    | some p => rfl
abbrev StepDF := CallF → Nat → Tr AV → St → List (Tr AObj) → (Tr AV → St → List (Tr AObj) → T (Tr AV × St)) → T (Tr AV × St)
noncomputable def guardC (ops : List Oper) (o : Oper) (skip body : StepDF) : StepDF := fun cf nt e st hs ih =>
  T.opt (wantE ops e o) 316 fun w => Bool.rec (skip cf nt e st hs ih) (body cf nt e st hs ih) w
noncomputable def sameAtF (f : Tr AObj → Facts → T (AV × Facts)) (v : AV) (n : Nat) : List (Tr AObj) → Facts → T Facts :=
  Nat.rec (motive := fun _ => List (Tr AObj) → Facts → T Facts) (fun _ fx => .ret fx)
    (fun _ ih hs fx => match hs with
      | [] => .bad 314
      | h :: hs => (f h fx).bind fun p => T.chk (AV.same p.1 v) 315 (ih hs p.2)) n
theorem sameAtF_eq {cx : Ctx} {g : Operand → Option AV} {op : Op} (v : AV) : ∀ (n : Nat) (hs : List (Tr AObj)) (fx : Facts), sameAtF (fun H fx => readE cx g op H fx) v n hs fx = sameAt cx g op v n hs fx
  | 0, hs, fx => rfl
  | n + 1, [], fx => rfl
  | n + 1, h :: hs, fx => by
    show (readE cx g op h fx).bind (fun p => T.chk (AV.same p.1 v) 315 (sameAtF (fun H fx => readE cx g op H fx) v n hs p.2)) = (readE cx g op h fx).bind (fun p => T.chk (AV.same p.1 v) 315 (sameAt cx g op v n hs p.2))
    exact congrArg (readE cx g op h fx).bind (funext fun p => by rw [sameAtF_eq v n hs p.2])
noncomputable def stepD (cx : Ctx) (ops : List Oper) (s : Step) : Option StepDF :=
  putC s.o.dst fun put => match s.c with
    | 1 => rdC cx s.o.op fun f => match s.o.guard with
      | none => some fun _ nt e st hs ih => match hs with
        | [] => .bad 317
        | h :: hr => (f e h st.fx).bind fun p => (sameAtF (f e) p.1 s.d hr p.2).bind fun fx => put nt e p.1 fun e => ih e ⟨st.H, st.nx, fx⟩ hs
      | some _ => some (guardC ops s.o (fun _ nt e st hs ih => put nt e undefA fun e => bif Nat.ble 3 s.c then ih e st (st.H :: hs) else ih e st hs) fun _ nt e st hs ih => match hs with
        | [] => .bad 317
        | h :: hr => (f e h st.fx).bind fun p => (sameAtF (f e) p.1 s.d hr p.2).bind fun fx => put nt e p.1 fun e => ih e ⟨st.H, st.nx, fx⟩ hs)
    | c => opC cx c s.o.op fun f => bif Nat.ble 3 c then (match s.o.guard with
        | none => some fun cf nt e st hs ih => (f cf e st).bind fun p => put nt e p.1 fun e => ih e p.2 (p.2.H :: hs)
        | some _ => some (guardC ops s.o (fun _ nt e st hs ih => put nt e undefA fun e => bif Nat.ble 3 s.c then ih e st (st.H :: hs) else ih e st hs) fun cf nt e st hs ih => (f cf e st).bind fun p => put nt e p.1 fun e => ih e p.2 (p.2.H :: hs)))
      else (match s.o.guard with
        | none => some fun cf nt e st hs ih => (f cf e st).bind fun p => put nt e p.1 fun e => ih e p.2 hs
        | some _ => some (guardC ops s.o (fun _ nt e st hs ih => put nt e undefA fun e => bif Nat.ble 3 s.c then ih e st (st.H :: hs) else ih e st hs) fun cf nt e st hs ih => (f cf e st).bind fun p => put nt e p.1 fun e => ih e p.2 hs))
noncomputable def regDF (cx : Ctx) (cf : CallF) (nt : Nat) (ops : List Oper) (l : List Step) : Tr AV → St → List (Tr AObj) → T (Tr AV × St) :=
  List.rec (motive := fun _ => Tr AV → St → List (Tr AObj) → T (Tr AV × St)) (fun e st _ => .ret (e, st))
    (fun s _ ih e st hs => T.opt (stepD cx ops s) 0 fun F => F cf nt e st hs ih) l
theorem regDF_eq {cx : Ctx} (cf : CallF) (nt : Nat) (ops : List Oper) : ∀ (l : List Step) (e : Tr AV) (st : St) (hs : List (Tr AObj)), regDF cx cf nt ops l e st hs = regD cx cf nt ops l e st hs
  | [], e, st, hs => rfl
  | s :: l, e, st, hs => by
    have ih' : regDF cx cf nt ops l = regD cx cf nt ops l := by funext e st hs; exact regDF_eq cf nt ops l e st hs
    show T.opt (stepD cx ops s) 0 (fun F => F cf nt e st hs (regDF cx cf nt ops l)) = T.opt (wantE ops e s.o) 316 fun w =>
      Bool.rec (putE nt e s.o.dst undefA fun e => bif Nat.ble 3 s.c then regD cx cf nt ops l e st (st.H :: hs) else regD cx cf nt ops l e st hs)
        (match s.c with
        | 1 => match hs with
          | [] => .bad 317
          | h :: hr => (readE cx (opnd cx.gl e) s.o.op h st.fx).bind fun p => (sameAt cx (opnd cx.gl e) s.o.op p.1 s.d hr p.2).bind fun fx =>
              putE nt e s.o.dst p.1 fun e => regD cx cf nt ops l e ⟨st.H, st.nx, fx⟩ hs
        | c => (opE cx cf (opnd cx.gl e) c s.o.op st).bind fun p => putE nt e s.o.dst p.1 fun e => bif Nat.ble 3 c then regD cx cf nt ops l e p.2 (p.2.H :: hs) else regD cx cf nt ops l e p.2 hs) w
    rw [ih']
    unfold stepD
    rw [putC_eq]
    split
    · rename_i h1
      rw [rdC_eq]
      cases hg : s.o.guard with
      | none =>
        rw [wantE_none hg]
        simp only [T.opt_some]
        cases hs with
        | nil => rfl
        | cons h hr => simp only [sameAtF_eq]
      | some p =>
        simp only [T.opt_some, guardC]
        refine congrArg (T.opt (wantE ops e s.o) 316) (funext fun w => ?_)
        cases w with
        | false => rfl
        | true =>
          cases hs with
          | nil => rfl
          | cons h hr => simp only [sameAtF_eq]
    · rw [opC_eq]
      cases h3 : Nat.ble 3 s.c with
      | true =>
        simp only [cond_true]
        cases hg : s.o.guard with
        | none => rw [wantE_none hg]; rfl
        | some p => rfl
      | false =>
        simp only [cond_false]
        cases hg : s.o.guard with
        | none => rw [wantE_none hg]; rfl
        | some p => rfl

/-! ## Code -/
noncomputable def codeC (cx : Ctx) (c : Code) : Option (CodeF → Bool → Nat → Tr AV → St → T Res) :=
  match c with
  | .skip => some fun _ _ _ e st => .ret ⟨.normal, e, st, []⟩
  | .region _ ops draw =>
    bif draw then Option.rec (motive := fun _ => Option (CodeF → Bool → Nat → Tr AV → St → T Res)) (some fun _ _ _ _ _ => .bad 330)
        (fun p => some fun ih _ nt e st => (regDF cx (callF cx ih) nt ops.toList p e st [st.H]).bind fun p => .ret ⟨.normal, p.1, p.2, []⟩) (plan cx ops.toList)
      else (match deferAt ops.toList with
        | none => some fun ih _ nt e st => (regSF cx (callF cx ih) nt ops.toList ops.toList e st).bind fun p => .ret ⟨.normal, p.1, p.2, []⟩
        | some q => some fun ih rd nt e st => bif rd then .bad 428 else (regSF cx (callF cx ih) nt ops.toList q.1 e st).bind fun p => T.opt (lopt (opnd cx.gl p.1) q.2.2) 431 fun args =>
          T.chk (idsLt p.2.nx args) 432 (.ret ⟨.normal, p.1, p.2, [.dfr q.2.1 args]⟩))
  | .seq a b => some fun ih rd nt e st => (ih rd a nt e st).bind fun r => r.x.onNormal (.ret r) ((ih rd b nt r.e r.st).bind fun q => .ret ⟨q.x, q.e, q.st, lapp q.mks r.mks⟩)
  | .cond c a b => withO cx.gl c fun g => some fun ih rd nt e st => T.opt (g e) 331 fun v => v.onBool (.bad 332) fun w => Bool.rec (ih rd b nt e st) (ih rd a nt e st) w
  | .block id c => some fun ih rd nt e st => (ih rd c nt e st).bind fun r => match r.x with
    | .exit j => bif Nat.beq j id then .ret ⟨.normal, r.e, r.st, r.mks⟩ else .ret r
    | _ => .ret r
  | .loop c => some fun ih rd nt e st => (ih rd c nt e st).bind fun r => r.x.onNormal (.ret r) ((ih rd (.loop c) nt r.e r.st).bind fun q => .ret ⟨q.x, q.e, q.st, lapp q.mks r.mks⟩)
  | .exit id => some fun _ _ _ e st => .ret ⟨.exit id, e, st, []⟩
  | .label _ => some fun _ _ _ e st => .ret ⟨.normal, e, st, []⟩
  | .ret => some fun _ _ _ e st => .ret ⟨.ret, e, st, []⟩
  | .rangeFunc g ps assign body => some fun ih rd nt e st => bif rd then .bad 400 else rangeF cx ih g ps.toList assign body nt e st
  | .scope _ => some fun _ _ _ _ _ => .bad 334
  | _ => none
noncomputable def codeF (cx : Ctx) (ih : CodeF) : CodeF := fun rd c nt e st => T.opt (codeC cx c) 333 fun F => F ih rd nt e st
theorem codeF_eq {cx : Ctx} (ih : CodeF) : codeF cx ih = codeE cx ih := by
  funext rd c nt e st
  cases c <;> try rfl
  case region id ops draw =>
    cases draw with
    | false =>
      show T.opt (match deferAt ops.toList with
        | none => some fun ih _ nt e st => (regSF cx (callF cx ih) nt ops.toList ops.toList e st).bind fun p => .ret ⟨.normal, p.1, p.2, []⟩
        | some q => some fun ih rd nt e st => bif rd then .bad 428 else (regSF cx (callF cx ih) nt ops.toList q.1 e st).bind fun p => T.opt (lopt (opnd cx.gl p.1) q.2.2) 431 fun args =>
          T.chk (idsLt p.2.nx args) 432 (.ret ⟨.normal, p.1, p.2, [.dfr q.2.1 args]⟩) : Option (CodeF → Bool → Nat → Tr AV → St → T Res)) 333 (fun F => F ih rd nt e st) = (match deferAt ops.toList with
        | none => (regS cx (callF cx ih) nt ops.toList ops.toList e st).bind fun p => .ret ⟨.normal, p.1, p.2, []⟩
        | some q => bif rd then .bad 428 else (regS cx (callF cx ih) nt ops.toList q.1 e st).bind fun p => T.opt (lopt (opnd cx.gl p.1) q.2.2) 431 fun args =>
          T.chk (idsLt p.2.nx args) 432 (.ret ⟨.normal, p.1, p.2, [.dfr q.2.1 args]⟩) : T Res)
      cases deferAt ops.toList with
      | none =>
        show (regSF cx (callF cx ih) nt ops.toList ops.toList e st).bind _ = (regS cx (callF cx ih) nt ops.toList ops.toList e st).bind _
        rw [regSF_eq]
      | some q =>
        show (bif rd then .bad 428 else (regSF cx (callF cx ih) nt ops.toList q.1 e st).bind _ : T Res) = (bif rd then .bad 428 else (regS cx (callF cx ih) nt ops.toList q.1 e st).bind _ : T Res)
        rw [regSF_eq]
    | true =>
      show T.opt (Option.rec (motive := fun _ => Option (CodeF → Bool → Nat → Tr AV → St → T Res)) _ _ (plan cx ops.toList)) 333 _ = (T.opt (plan cx ops.toList) 330 fun p => regD cx (callF cx ih) nt ops.toList p e st [st.H]).bind _
      cases plan cx ops.toList with
      | none => rfl
      | some p =>
        show (regDF cx (callF cx ih) nt ops.toList p e st [st.H]).bind _ = (regD cx (callF cx ih) nt ops.toList p e st [st.H]).bind _
        rw [regDF_eq]
  case seq a b =>
    show (ih rd a nt e st).bind _ = (ih rd a nt e st).bind _
    congr 1
    funext r
    cases h : r.x <;> rfl
  case cond c a b =>
    show T.opt (withO cx.gl c _) 333 _ = T.opt (opnd cx.gl e c) 331 _
    rw [withO_eq, T.opt_some]
    show T.opt (opnd cx.gl e c) 331 _ = _
    congr 1
    funext v
    cases v <;> try rfl
    rename_i w
    cases w <;> rfl
  case loop c =>
    show (ih rd c nt e st).bind _ = (ih rd c nt e st).bind _
    congr 1
    funext r
    cases h : r.x <;> rfl
noncomputable def execF (cx : Ctx) (n : Nat) : CodeF :=
  Nat.rec (motive := fun _ => CodeF) (fun _ _ _ _ _ => .bad 340) (fun _ ih => codeF cx ih) n
theorem execF_eq {cx : Ctx} : ∀ n, execF cx n = execN cx n
  | 0 => rfl
  | n + 1 => by
    show codeF cx (execF cx n) = codeE cx (execN cx n)
    rw [codeF_eq, execF_eq n]
/-- Calls, and rounds. -/
noncomputable def callAF (cx : Ctx) (n : Nat) : CallF := callF cx (execF cx n)
noncomputable def callNF (cx : Ctx) (n : Nat) : FuncId → List AV → St → T (AV × St) := fun f => callAF cx n (.fn f)
theorem callNF_eq {cx : Ctx} (n : Nat) : callNF cx n = callN cx n := by funext f; unfold callNF callAF callN; rw [execF_eq]
end Ab
