/- E, part 27: the invariant of a region in whatever order; one step. -/
import Derived.Test.YtckfbdnkgjpmlaaGreatDoorE26
namespace Ab
open Go

section
variable (ρ : Env) (nt : Nat) (l : List Step) (bs : Tr Nat) (E : Nat → Tr AV) (S : Nat → St) (Hs : Nat → List (Tr AObj)) (V : Nat → AV) (B : Nat → Bool)

/-- Ids whose objects are there: those of the heap at a cut, and those made early. -/
def Alive (q : Nat) (X : Nat → Prop) (id : Nat) : Prop := id < (S q).nx ∨ ∃ k, q ≤ k ∧ X k ∧ IsA l B k ∧ id = (S k).nx
def Ag (q : Nat) (X : Nat → Prop) (m : Nat) (L L' : Nat → Loc) : Prop := ∀ id, Alive l S B q X id → id < m → L' id = L id
def Has (q : Nat) (X : Nat → Prop) (id : Nat) (o : AObj) : Prop := (S q).H.get id = some o ∨ ∃ k, q ≤ k ∧ X k ∧ IsA l B k ∧ id = (S k).nx ∧ (S (k + 1)).H.get id = some o

structure Inv (ds : List Deferred) (L0 : Nat → Loc) (w0 : World) (q : Nat) (X : Nat → Prop) (L : Nat → Loc) (a : Act) (w : World) : Prop where
  qle : q ≤ l.length
  qX : ∀ k, k < q → X k
  xN : ∀ k, X k → k < l.length
  noW : ∀ k, q ≤ k → X k → ¬ IsW l k
  qH : (Hs q)[0]? = some (S q).H
  clos : ∀ (k : Nat) (s : Step), X k → l[k]? = some s → ∀ (k' : Nat) (s' : Step), l[k']? = some s' → bit (bget bs s.i) s'.i = true → X k'
  val : ∀ (k : Nat) (s : Step) (t : Tmp), X k → l[k]? = some s → s.o.dst = some t → ∀ L', Ag l S B q X (S (k + 1)).nx L L' → a.tmps.getD t undef = conc L' ρ (V k)
  old : ∀ t, (∀ (k : Nat) (s : Step), X k → l[k]? = some s → s.o.dst ≠ some t) → ∀ v, (E 0).get t = some v → ∀ L', Agree (S 0).nx L L' → a.tmps.getD t undef = conc L' ρ v
  objq : ∀ L', Ag l S B q X (S q).nx L L' → ∀ id o, (S q).H.get id = some o → id < (S q).nx ∧ ObjAt L' ρ w (L' id) o
  obja : ∀ k, q ≤ k → X k → IsA l B k → ∀ o, (S (k + 1)).H.get (S k).nx = some o → ∀ L', Ag l S B q X (S (k + 1)).nx L L' → ObjAt L' ρ w (L' (S k).nx) o
  inj : ∀ i j oi oj, Has l S B q X i oi → Has l S B q X j oj → (L i).b = (L j).b → i = j
  agree : Agree (S 0).nx L0 L
  glq : ρ.gl ≤ (S 0).nx
  pin : Pin L0 ρ
  size : w0.heap.size ≤ w.heap.size
  os : w.os = w0.os
  tape : w.tape = w0.tape
  output : w.output = w0.output
  keep : ∀ b, b < w0.heap.size → (∀ id o, (S 0).H.get id = some o → (L0 id).b ≠ b) → w.heap[b]? = w0.heap[b]?
  owns : ∀ b, b < w0.heap.size → (∀ id o, (S 0).H.get id = some o → (L0 id).b ≠ b) → ∀ id o, Has l S B q X id o → (L id).b ≠ b
  tsize : a.tmps.size = nt
  dfr : a.defers = ds
end

section
variable {P : Program} {cx : Ctx} {ρ : Env} {cf : CallF} {nt : Nat} {ops : Array Oper} {l : List Step} {bs : Tr Nat} {E : Nat → Tr AV} {S : Nat → St} {Hs : Nat → List (Tr AObj)} {V : Nat → AV} {B : Nat → Bool} {ds : List Deferred}

/-- Objects' ids lie below the next one. -/
theorem id_lt {L : Nat → Loc} {nx : Nat} {H : Tr AObj} {w : World} (h : ∀ L', Agree nx L L' → Sim L' ρ H w) {id : Nat} {o : AObj} (ho : H.get id = some o) : id < nx := by
  rcases Nat.lt_or_ge id nx with hh | hh
  · exact hh
  · have := (h (fun i => if i = id then ⟨w.heap.size, 0, 0⟩ else L i) (fun i hi => if_neg (by omega))).at_ id o ho
    obtain ⟨x, hx⟩ := this.block
    simp at hx

theorem Ag.refl (q : Nat) (X : Nat → Prop) (m : Nat) (L : Nat → Loc) : Ag l S B q X m L L := fun _ _ _ => rfl
theorem Ag.mono {q : Nat} {X : Nat → Prop} {m m' : Nat} {L L' : Nat → Loc} (h : Ag l S B q X m L L') (hm : m' ≤ m) : Ag l S B q X m' L L' := fun id ha hi => h id ha (by omega)
theorem Ag.of_agree {q : Nat} {X : Nat → Prop} {m : Nat} {L L' : Nat → Loc} (h : Agree m L L') : Ag l S B q X m L L' := fun id _ hi => h id hi

theorem Inv.pinAg {L0 : Nat → Loc} {w0 : World} {q : Nat} {X : Nat → Prop} {L : Nat → Loc} {a : Act} {w : World} (I : Inv ρ nt l bs E S Hs V B ds L0 w0 q X L a w) {m : Nat} {L' : Nat → Loc} (hq : (S 0).nx ≤ (S q).nx) (hm : (S 0).nx ≤ m)
    (hL : Ag l S B q X m L L') : Pin L' ρ := fun g hg => by
  have h1 := I.glq
  rw [hL g (.inl (by omega)) (by omega), I.agree g (by omega)]
  exact I.pin g hg
theorem Inv.alive_of_has {L0 : Nat → Loc} {w0 : World} {q : Nat} {X : Nat → Prop} {L : Nat → Loc} {a : Act} {w : World} (I : Inv ρ nt l bs E S Hs V B ds L0 w0 q X L a w) {id : Nat} {o : AObj} (h : Has l S B q X id o) : Alive l S B q X id := by
  rcases h with h | ⟨k, h1, h2, h3, h4, _⟩
  · exact .inl (I.objq L (Ag.refl _ _ _ _) id o h).1
  · exact .inr ⟨k, h1, h2, h3, h4⟩
theorem Inv.obj {L0 : Nat → Loc} {w0 : World} {q : Nat} {X : Nat → Prop} {L : Nat → Loc} {a : Act} {w : World} (I : Inv ρ nt l bs E S Hs V B ds L0 w0 q X L a w) {id : Nat} {o : AObj} (h : Has l S B q X id o) : ObjAt L ρ w (L id) o := by
  rcases h with h | ⟨k, h1, h2, h3, rfl, h5⟩
  · exact (I.objq L (Ag.refl _ _ _ _) id o h).2
  · exact I.obja k h1 h2 h3 o h5 L (Ag.refl _ _ _ _)

variable (R : Reg P cx ρ cf nt ops l bs E S Hs V B)
include R

/-- What an operation looks at, when its turn comes. -/
theorem Reg.looks {L0 : Nat → Loc} {w0 : World} {q : Nat} {X : Nat → Prop} {L : Nat → Loc} {a : Act} {w : World} (I : Inv ρ nt l bs E S Hs V B ds L0 w0 q X L a w) {k : Nat} {s : Step} (hs : l[k]? = some s) (hk : ¬ X k)
    (hanc : ∀ (k' : Nat) (s' : Step), l[k']? = some s' → bit (bget bs s.i) s'.i = true → X k') {t : Tmp} (ht : t ∈ namesOf ops.toList s.o) {v : AV} (hv : (E k).get t = some v) :
    ∀ L', Ag l S B q X (S k).nx L L' → a.tmps.getD t undef = conc L' ρ v := by
  intro L' hL
  have hkl := lt_of_at hs
  have hqk : q ≤ k := by
    rcases Nat.lt_or_ge k q with hh | hh
    · exact absurd (I.qX k hh) hk
    · exact hh
  have hag : Agree (S 0).nx L L' := fun id hid => hL id (.inl (Nat.lt_of_lt_of_le hid (R.nx_mono (Nat.zero_le _) I.qle))) (Nat.lt_of_lt_of_le hid (R.nx_mono (Nat.zero_le _) (by omega)))
  by_cases hex : ∃ (k' : Nat) (s' : Step), l[k']? = some s' ∧ s'.o.dst = some t
  · obtain ⟨k', s', hs', hd⟩ := hex
    have hnm := R.pl.names s.i s.o t s'.i s'.o (R.pl.from_ k s hs).1 ht (R.pl.from_ k' s' hs').1 hd
    rcases hnm.2 with hb | hb
    · have hX' := hanc k' s' hs' hb
      obtain ⟨k2, s2, hlt, hs2, he⟩ := R.pl.before k s s'.i hs hb
      obtain rfl := R.pl.dist k2 k' s2 s' hs2 hs' he
      rw [R.env_some hs' hd hlt (by omega)] at hv
      simp at hv
      subst hv
      exact I.val k2 s' t hX' hs' hd L' (hL.mono (R.nx_mono hlt (by omega)))
    · have hnX : ¬ X k' := fun hX' => hk (I.clos k' s' hX' hs' k s hs hb)
      obtain ⟨k2, s2, hlt, hs2, he⟩ := R.pl.before k' s' s.i hs' hb
      obtain rfl := R.pl.dist k2 k s2 s hs2 hs he
      have hnone : ∀ (k3 : Nat) (s3 : Step), k3 < k2 → l[k3]? = some s3 → s3.o.dst ≠ some t := fun k3 s3 h3 hs3 hd3 => by
        have := R.uniq hs3 hs' hd3 hd
        omega
      rw [R.env_none (by omega) hnone] at hv
      refine I.old t (fun k3 s3 hX3 hs3 hd3 => ?_) v hv L' hag
      have := R.uniq hs3 hs' hd3 hd
      subst this
      exact hnX hX3
  · have hno : ∀ (k3 : Nat) (s3 : Step), l[k3]? = some s3 → s3.o.dst ≠ some t := fun k3 s3 hs3 hd3 => hex ⟨k3, s3, hs3, hd3⟩
    rw [R.env_none (by omega) (fun k3 s3 _ hs3 => hno k3 s3 hs3)] at hv
    exact I.old t (fun k3 s3 _ hs3 => hno k3 s3 hs3) v hv L' hag
omit R in
theorem mem_names {o : Oper} {t : Tmp} (h : Operand.tmp t ∈ o.op.operands) (opl : List Oper) : t ∈ namesOf opl o := by
  unfold namesOf
  rw [lapp_eq, List.mem_append]
  refine .inl ?_
  have : ∀ (xs : List Operand), Operand.tmp t ∈ xs → t ∈ (List.rec (motive := fun _ => List Tmp) [] (fun x _ ih => match x with | .tmp t => t :: ih | _ => ih) xs : List Tmp) := by
    intro xs
    induction xs with
    | nil => intro h; simp at h
    | cons x xs ih =>
      intro h
      rcases List.mem_cons.1 h with rfl | h
      · simp
      · have := ih h
        cases x <;> simp only <;> first | exact List.mem_cons_of_mem _ this | exact this
  exact this _ (Array.mem_toList_iff.2 h)
omit R in
theorem mem_guard {o oj : Oper} {j : Nat} {b : Bool} {t : Tmp} (hg : o.guard = some (j, b)) (hj : ops[j]? = some oj) (hd : oj.dst = some t) : t ∈ namesOf ops.toList o := by
  unfold namesOf
  rw [lapp_eq, List.mem_append]
  refine .inr ?_
  rw [hg]
  simp only [lget_eq]
  rw [show ops.toList[j]? = some oj by simpa using hj]
  simp [hd]
open Classical in
/-- Operands, those that an operation has. -/
noncomputable def gOf (cx : Ctx) (e : Tr AV) (op : Op) : Operand → Option AV := fun x => if x ∈ op.operands then opnd cx.gl e x else none
omit R in
theorem gOf_eq {e : Tr AV} {op : Op} : ∀ x ∈ op.operands, opnd cx.gl e x = gOf cx e op x := fun x hx => by unfold gOf; rw [if_pos hx]
theorem Reg.grel {L0 : Nat → Loc} {w0 : World} {q : Nat} {X : Nat → Prop} {L : Nat → Loc} {a : Act} {w : World} (I : Inv ρ nt l bs E S Hs V B ds L0 w0 q X L a w) {k : Nat} {s : Step} (hs : l[k]? = some s) (hk : ¬ X k)
    (hanc : ∀ (k' : Nat) (s' : Step), l[k']? = some s' → bit (bget bs s.i) s'.i = true → X k') : ∀ L', Ag l S B q X (S k).nx L L' → GRel L' ρ (gOf cx (E k) s.o.op) a.eval := by
  intro L' hL x v hv
  unfold gOf at hv
  split at hv
  · rename_i hx
    cases x with
    | tmp t => exact R.looks I hs hk hanc (mem_names hx _) hv L' hL
    | const c => exact (conc_ofV L' ρ hv).symm
    | func f => simp [opnd] at hv; subst hv; rfl
    | global g => exact opnd_global R.gl (I.pinAg (R.nx_mono (Nat.zero_le q) I.qle) (R.nx_mono (Nat.zero_le k) (Nat.le_of_lt (lt_of_at hs))) hL) hv
  · cases hv
theorem Reg.wanted {L0 : Nat → Loc} {w0 : World} {q : Nat} {X : Nat → Prop} {L : Nat → Loc} {a : Act} {w : World} (I : Inv ρ nt l bs E S Hs V B ds L0 w0 q X L a w) {k : Nat} {s : Step} (hs : l[k]? = some s) (hk : ¬ X k)
    (hanc : ∀ (k' : Nat) (s' : Step), l[k']? = some s' → bit (bget bs s.i) s'.i = true → X k') : Region.wanted s.o (yielded ops a.tmps) = B k :=
  wantE_sound (R.tr k s hs).want (fun _ _ _ _ hg hj hd v hv => R.looks I hs hk hanc (mem_guard hg hj hd) hv L (Ag.refl _ _ _ _))
end
end Ab
