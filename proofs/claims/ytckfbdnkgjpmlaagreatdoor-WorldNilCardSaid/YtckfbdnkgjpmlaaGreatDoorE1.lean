/- E, part 1: tries with plain recursors, symbolic whole numbers and texts, abstract values and what they stand for. No program's text is named here. -/
import Derived.OrdersIn
import Derived.LoopNIn
namespace Ab
open Go

/-! ## Tries: a key is a number; the path is by its bits. Written with recursors: the kernel runs them. -/
inductive Tr (α : Type) where
  | nil
  | node (v : Option α) (l r : Tr α)

namespace Tr
variable {α : Type}

noncomputable def get (t : Tr α) : Nat → Option α :=
  Tr.rec (motive := fun _ => Nat → Option α) (fun _ => none)
    (fun v _ _ gl gr k => Nat.rec (motive := fun _ => Option α) v
      (fun j _ => Bool.rec (gl (Nat.shiftRight j 1)) (gr (Nat.shiftRight j 1)) (Nat.beq (Nat.land j 1) 1)) k) t

noncomputable def updF (o : Option α) (f : Nat) : Tr α → Nat → Tr α :=
  Nat.rec (motive := fun _ => Tr α → Nat → Tr α) (fun t _ => t)
    (fun _ ih t k => Tr.rec (motive := fun _ => Tr α)
      (Nat.rec (motive := fun _ => Tr α) (node o nil nil)
        (fun j _ => Bool.rec (node none (ih nil (Nat.shiftRight j 1)) nil) (node none nil (ih nil (Nat.shiftRight j 1))) (Nat.beq (Nat.land j 1) 1)) k)
      (fun v l r _ _ => Nat.rec (motive := fun _ => Tr α) (node o l r)
        (fun j _ => Bool.rec (node v (ih l (Nat.shiftRight j 1)) r) (node v l (ih r (Nat.shiftRight j 1))) (Nat.beq (Nat.land j 1) 1)) k) t) f

/-- A key with another value, or none. -/
noncomputable def upd (t : Tr α) (k : Nat) (o : Option α) : Tr α := updF o (Nat.succ k) t k
noncomputable def set (t : Tr α) (k : Nat) (a : α) : Tr α := upd t k (some a)

theorem get_nil (k : Nat) : (nil : Tr α).get k = none := rfl
theorem get_node_zero (v : Option α) (l r : Tr α) : (node v l r).get 0 = v := rfl
theorem brec {β : Type} (b : Bool) (x y : β) : (Bool.rec (motive := fun _ => β) x y b) = if b = true then y else x := by cases b <;> rfl
theorem get_node_succ (v : Option α) (l r : Tr α) (j : Nat) :
    (node v l r).get (j + 1) = if Nat.beq (Nat.land j 1) 1 = true then r.get (Nat.shiftRight j 1) else l.get (Nat.shiftRight j 1) := brec _ _ _
theorem updF_zero (o : Option α) (t : Tr α) (k : Nat) : updF o 0 t k = t := rfl
theorem updF_nil_zero (o : Option α) (f : Nat) : updF o (f + 1) nil 0 = node o nil nil := rfl
theorem updF_node_zero (o : Option α) (f : Nat) (v : Option α) (l r : Tr α) : updF o (f + 1) (node v l r) 0 = node o l r := rfl
theorem updF_nil_succ (o : Option α) (f j : Nat) : updF o (f + 1) nil (j + 1) =
    if Nat.beq (Nat.land j 1) 1 = true then node none nil (updF o f nil (Nat.shiftRight j 1)) else node none (updF o f nil (Nat.shiftRight j 1)) nil := brec _ _ _
theorem updF_node_succ (o : Option α) (f j : Nat) (v : Option α) (l r : Tr α) : updF o (f + 1) (node v l r) (j + 1) =
    if Nat.beq (Nat.land j 1) 1 = true then node v l (updF o f r (Nat.shiftRight j 1)) else node v (updF o f l (Nat.shiftRight j 1)) r := brec _ _ _

theorem shr1 (j : Nat) : Nat.shiftRight j 1 = j / 2 := by
  show j >>> 1 = j / 2
  simp [Nat.shiftRight_succ]
theorem land1 (j : Nat) : Nat.land j 1 = j % 2 := by
  show j &&& 1 = j % 2
  simp
theorem same_bits {i j : Nat} (h : Nat.shiftRight i 1 = Nat.shiftRight j 1) (hb : Nat.beq (Nat.land i 1) 1 = true ↔ Nat.beq (Nat.land j 1) 1 = true) : i = j := by
  rw [shr1, shr1] at h
  rw [land1, land1, Nat.beq_eq, Nat.beq_eq] at hb
  omega

theorem get_updF (o : Option α) : ∀ (f : Nat) (t : Tr α) (k k' : Nat), k < f → (updF o f t k).get k' = if k' = k then o else t.get k' := by
  intro f
  induction f with
  | zero => intro t k k' h; omega
  | succ f ih =>
    intro t k k' h
    cases k with
    | zero =>
      cases t with
      | nil =>
        rw [updF_nil_zero]
        cases k' with
        | zero => rw [get_node_zero, if_pos rfl]
        | succ j' => rw [get_node_succ, if_neg (Nat.succ_ne_zero _)]; simp only [get_nil, ite_self]
      | node v l r =>
        rw [updF_node_zero]
        cases k' with
        | zero => rw [get_node_zero, if_pos rfl]
        | succ j' => rw [get_node_succ, if_neg (Nat.succ_ne_zero _), get_node_succ]
    | succ j =>
      have hlt : Nat.shiftRight j 1 < f := by rw [shr1]; omega
      have key : ∀ (l r : Tr α) (v : Option α) (j' : Nat),
          ((if Nat.beq (Nat.land j 1) 1 = true then node v l (updF o f r (Nat.shiftRight j 1)) else node v (updF o f l (Nat.shiftRight j 1)) r).get (j' + 1)) =
            if j' + 1 = j + 1 then o else (node v l r).get (j' + 1) := by
        intro l r v j'
        have hne : j' ≠ j → (Nat.beq (Nat.land j' 1) 1 = true ↔ Nat.beq (Nat.land j 1) 1 = true) → Nat.shiftRight j' 1 ≠ Nat.shiftRight j 1 := fun e hb hs => e (same_bits hs hb)
        by_cases e : j' = j
        · subst e
          rw [if_pos rfl]
          by_cases hb : Nat.beq (Nat.land j' 1) 1 = true
          · rw [if_pos hb, get_node_succ, if_pos hb, ih _ _ _ hlt, if_pos rfl]
          · rw [if_neg hb, get_node_succ, if_neg hb, ih _ _ _ hlt, if_pos rfl]
        · rw [if_neg (by omega : ¬ j' + 1 = j + 1)]
          by_cases hb : Nat.beq (Nat.land j 1) 1 = true
          · rw [if_pos hb, get_node_succ, get_node_succ]
            by_cases hb' : Nat.beq (Nat.land j' 1) 1 = true
            · rw [if_pos hb', if_pos hb', ih _ _ _ hlt, if_neg (hne e ⟨fun _ => hb, fun _ => hb'⟩)]
            · rw [if_neg hb', if_neg hb']
          · rw [if_neg hb, get_node_succ, get_node_succ]
            by_cases hb' : Nat.beq (Nat.land j' 1) 1 = true
            · rw [if_pos hb', if_pos hb']
            · rw [if_neg hb', if_neg hb', ih _ _ _ hlt, if_neg (hne e ⟨fun h => absurd h hb', fun h => absurd h hb⟩)]
      cases t with
      | nil =>
        rw [updF_nil_succ]
        cases k' with
        | zero => rw [if_neg (Nat.succ_ne_zero _).symm]; split <;> rfl
        | succ j' =>
          rw [key nil nil none j']
          split
          · rfl
          · rw [get_node_succ]; simp only [get_nil, ite_self]
      | node v l r =>
        rw [updF_node_succ]
        cases k' with
        | zero => rw [if_neg (Nat.succ_ne_zero _).symm]; split <;> rfl
        | succ j' => exact key l r v j'

theorem get_upd (t : Tr α) (k k' : Nat) (o : Option α) : (t.upd k o).get k' = if k' = k then o else t.get k' := get_updF o _ t k k' (Nat.lt_succ_self k)
theorem get_set (t : Tr α) (k k' : Nat) (a : α) : (t.set k a).get k' = if k' = k then some a else t.get k' := get_upd t k k' _
theorem get_set_same (t : Tr α) (k : Nat) (a : α) : (t.set k a).get k = some a := by simp [get_set]
theorem get_set_ne (t : Tr α) {k k' : Nat} (a : α) (h : k' ≠ k) : (t.set k a).get k' = t.get k' := by simp [get_set, h]

/-- A list of things, by their places. -/
noncomputable def fill (l : List α) : Nat → Tr α → Tr α :=
  List.rec (motive := fun _ => Nat → Tr α → Tr α) (fun _ t => t) (fun x _ ih i t => ih (Nat.succ i) (t.set i x)) l
noncomputable def ofList (l : List α) : Tr α := fill l 0 nil

theorem fill_nil (i : Nat) (t : Tr α) : fill [] i t = t := rfl
theorem fill_cons (x : α) (l : List α) (i : Nat) (t : Tr α) : fill (x :: l) i t = fill l (i + 1) (t.set i x) := rfl
theorem get_fill : ∀ (l : List α) (i : Nat) (t : Tr α) (k : Nat), (fill l i t).get k = if i ≤ k ∧ k < i + l.length then l[k - i]? else t.get k := by
  intro l
  induction l with
  | nil => intro i t k; rw [fill_nil, if_neg (by simp only [List.length_nil]; omega)]
  | cons x l ih =>
    intro i t k
    rw [fill_cons, ih]
    by_cases h : i + 1 ≤ k ∧ k < i + 1 + l.length
    · rw [if_pos h, if_pos (by simp; omega)]
      obtain ⟨m, rfl⟩ : ∃ m, k = i + 1 + m := ⟨k - (i + 1), by omega⟩
      rw [show i + 1 + m - (i + 1) = m by omega, show i + 1 + m - i = m + 1 by omega]
      simp
    · rw [if_neg h, get_set]
      by_cases e : k = i
      · subst e; simp
      · rw [if_neg e, if_neg (by simp; omega)]
theorem get_ofList (l : List α) (k : Nat) : (ofList l).get k = l[k]? := by
  unfold ofList
  rw [get_fill, get_nil]
  by_cases h : k < l.length
  · rw [if_pos (by omega)]; simp
  · rw [if_neg (by omega), List.getElem?_eq_none (by omega)]
end Tr

/-! ## What is symbolic -/
/-- A truth of each symbol: whole numbers, texts. -/
structure Env where
  num : Nat → Int
  txt : Nat → List UInt8
  gl : Nat := 0
  base : Nat → Option Addr := fun _ => none
  cap : Nat → Nat := fun _ => 0
  ro : Nat → TypeId × (Nat × Nat) := fun _ => (0, 0, 0)

inductive Tm where
  | c (n : Int)
  | v (i : Nat)
  | bin (op : BinOp) (k : IntKind) (a b : Tm)
  | conv (k : IntKind) (a : Tm)
  | len (i : Nat)

inductive STm where
  | c (l : List UInt8)
  | v (i : Nat)
  /-- bytes, by numbers -/
  | b (l : List Tm)

inductive Atom where
  | eq (a b : Tm)
  | lt (a b : Tm)
  | seq (a b : STm)
  | slt (a b : STm)

/-- What Go's operators give for whole numbers of one kind: the model's own words. -/
def arith (op : BinOp) (k : IntKind) (x y : Int) : Option Int :=
  match op with
  | .add => some (k.wrap (x + y))
  | .sub => some (k.wrap (x - y))
  | .mul => some (k.wrap (x * y))
  | .quo => if y = 0 then none else some (k.wrap (x.tdiv y))
  | .rem => if y = 0 then none else some (x.tmod y)
  | .and => some (k.wrap (BitVec.ofInt k.bits x &&& BitVec.ofInt k.bits y).toNat)
  | .or => some (k.wrap (BitVec.ofInt k.bits x ||| BitVec.ofInt k.bits y).toNat)
  | .xor => some (k.wrap (BitVec.ofInt k.bits x ^^^ BitVec.ofInt k.bits y).toNat)
  | .andNot => some (k.wrap (BitVec.ofInt k.bits x &&& ~~~BitVec.ofInt k.bits y).toNat)
  | .shl => if y < 0 then none else some (k.wrap (x * 2 ^ min y.toNat k.bits))
  | .shr => if y < 0 then none else some (x.fdiv (2 ^ min y.toNat k.bits))
  | _ => none

def Tm.den (ρ : Env) : Tm → Int
  | .c n => n
  | .v i => ρ.num i
  | .bin op k a b => (arith op k (a.den ρ) (b.den ρ)).getD 0
  | .conv k a => k.wrap (a.den ρ)
  | .len i => ((ρ.txt i).length : Int)

def byteOf (n : Int) : UInt8 := UInt8.ofNat n.toNat
def STm.den (ρ : Env) : STm → List UInt8
  | .c l => l
  | .v i => ρ.txt i
  | .b l => l.map fun t => byteOf (t.den ρ)

def Atom.den (ρ : Env) : Atom → Bool
  | .eq a b => a.den ρ == b.den ρ
  | .lt a b => decide (a.den ρ < b.den ρ)
  | .seq a b => a.den ρ == b.den ρ
  | .slt a b => Op.bytesLess (a.den ρ) (b.den ρ)

/-! ## Abstract values -/
inductive AV where
  | bool (b : Bool)
  | int (k : IntKind) (t : Tm)
  | str (s : STm)
  | ptr (id off : Nat)
  | nilp
  | slice (id off0 off len cap : Nat) (op : Bool)
  | nils
  | map (id : Nat)
  | nilm
  | func (f : FuncId) (first captured : List AV)
  | meth (name : String) (first captured : List AV)
  | yield (id : Nat)
  | nilf
  | iface (t : TypeId) (v : AV)
  | nili
  | agg (cs : List AV)
  | tuple (vs : List AV)
  | opq (i : Nat)

/-- Where a block of the abstract heap lies: its number, where in it what is known begins, how many elements more there is room for. -/
structure Loc where
  b : Nat
  o : Nat
  x : Nat

section
variable (L : Nat → Loc) (ρ : Env)
mutual
def conc : AV → Value
  | .bool b => .bool b
  | .int k t => .int k (t.den ρ)
  | .str s => .string ⟨(s.den ρ).toArray⟩
  | .ptr id off => .pointer (some ⟨(L id).b, (L id).o + off, none⟩)
  | .nilp => .pointer none
  | .slice id off0 off len cap op =>
    .slice (some ⟨(L id).b, (L id).o + (if cap + (if op then (L id).x else 0) = 0 then off0 else off), none⟩) len (cap + (if op then (L id).x else 0))
  | .nils => .slice none 0 0
  | .map id => .map (some (L id).b)
  | .nilm => .map none
  | .func f first captured => .func (.func f) (concs first).toArray (concs captured).toArray
  | .meth name first captured => .func (.method name) (concs first).toArray (concs captured).toArray
  | .yield id => .func (.yield (L id).b) #[] #[]
  | .nilf => .nilFunc
  | .iface t v => .iface t (conc v)
  | .nili => .nilIface
  | .agg cs => .agg (concs cs).toArray
  | .tuple vs => .tuple (concs vs).toArray
  | .opq i => .slice (ρ.base i) (ρ.txt i).length (ρ.cap i)
def concs : List AV → List Value
  | [] => []
  | v :: vs => conc v :: concs vs
end
theorem concs_eq (vs : List AV) : concs L ρ vs = vs.map (conc L ρ) := by
  induction vs with
  | nil => rfl
  | cons v vs ih => simp [concs, ih]
end

/-- An abstract value that is one cell. -/
def AV.one : AV → Bool
  | .agg _ => false
  | .tuple _ => false
  | _ => true

/-- Its cells. -/
def AV.cells : AV → List AV
  | .agg cs => cs
  | v => [v]

theorem conc_cells (L : Nat → Loc) (ρ : Env) (v : AV) : (conc L ρ v).cells = (v.cells.map (conc L ρ)).toArray := by
  cases v <;> simp [conc, Value.cells, AV.cells, concs_eq]

/-! ## The model's plain values as abstract ones -/
def ofV0 : Value → Option AV
  | .bool b => some (.bool b)
  | .int k n => some (.int k (.c n))
  | .string s => some (.str (.c s.data.toList))
  | .pointer none => some .nilp
  | .slice none 0 0 => some .nils
  | .map none => some .nilm
  | .nilFunc => some .nilf
  | .nilIface => some .nili
  | .func (.func f) first captured => if first.isEmpty && captured.isEmpty then some (.func f [] []) else none
  | _ => none
noncomputable def ofVs (f : Value → Option AV) (l : List Value) : Option (List AV) :=
  List.rec (motive := fun _ => Option (List AV)) (some []) (fun x _ ih => Option.rec none (fun y => Option.rec none (fun ys => some (y :: ys)) ih) (f x)) l
noncomputable def ofV1 : Value → Option AV
  | .agg cs => (ofVs ofV0 cs.toList).map .agg
  | v => ofV0 v
noncomputable def ofV : Value → Option AV
  | .tuple vs => (ofVs ofV1 vs.toList).map .tuple
  | v => ofV1 v

theorem conc_ofV0 (L : Nat → Loc) (ρ : Env) {v : Value} {a : AV} (h : ofV0 v = some a) : conc L ρ a = v := by
  unfold ofV0 at h
  split at h <;> simp at h <;> try (subst h; simp [conc, Tm.den, STm.den]; done)
  rename_i f first captured
  obtain ⟨⟨h1, h2⟩, rfl⟩ := h
  subst h1 h2
  simp [conc, concs]
theorem conc_ofVs (L : Nat → Loc) (ρ : Env) {f : Value → Option AV} (hf : ∀ v a, f v = some a → conc L ρ a = v) :
    ∀ (l : List Value) (as : List AV), ofVs f l = some as → as.map (conc L ρ) = l := by
  intro l
  induction l with
  | nil => intro as h; simp [ofVs] at h; subst h; rfl
  | cons x l ih =>
    intro as h
    have h' : (Option.rec none (fun y => Option.rec none (fun ys => some (y :: ys)) (ofVs f l)) (f x) : Option (List AV)) = some as := h
    cases hx : f x with
    | none => rw [hx] at h'; simp at h'
    | some y =>
      rw [hx] at h'
      cases hl : ofVs f l with
      | none => rw [hl] at h'; simp at h'
      | some ys =>
        rw [hl] at h'
        simp at h'
        subst h'
        simp [hf _ _ hx, ih _ hl]
theorem conc_ofV1 (L : Nat → Loc) (ρ : Env) {v : Value} {a : AV} (h : ofV1 v = some a) : conc L ρ a = v := by
  unfold ofV1 at h
  split at h
  · rename_i cs
    simp at h
    obtain ⟨as, ha, rfl⟩ := h
    simp [conc, concs_eq, conc_ofVs L ρ (fun _ _ h => conc_ofV0 L ρ h) _ _ ha]
  · exact conc_ofV0 L ρ h
theorem conc_ofV (L : Nat → Loc) (ρ : Env) {v : Value} {a : AV} (h : ofV v = some a) : conc L ρ a = v := by
  unfold ofV at h
  split at h
  · rename_i cs
    simp at h
    obtain ⟨as, ha, rfl⟩ := h
    simp [conc, concs_eq, conc_ofVs L ρ (fun _ _ h => conc_ofV1 L ρ h) _ _ ha]
  · exact conc_ofV1 L ρ h
end Ab
