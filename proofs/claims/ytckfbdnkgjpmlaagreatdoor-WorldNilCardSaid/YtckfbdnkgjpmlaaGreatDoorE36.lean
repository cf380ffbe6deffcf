/- E, part 36: slices.Sorted of maps.Keys, summed up: a map whose keys are plain numbers gives a new row of them, sorted. -/
import Derived.Test.YtckfbdnkgjpmlaaGreatDoorE35
import Derived.WideKeyElems
import Derived.Laws.AppendOwn
namespace Ab
open Go Go.RowKit Go.MapKept

variable {P : Program} {cx : Ctx} {ρ : Env}

/-! ## Sorting -/
noncomputable def insN (x : Nat) (l : List Nat) : List Nat := List.rec (motive := fun _ => List Nat) [x] (fun y t ih => bif Nat.ble x y then x :: y :: t else y :: ih) l
noncomputable def sortN (l : List Nat) : List Nat := List.rec (motive := fun _ => List Nat) [] (fun x _ ih => insN x ih) l
theorem insN_cons (x y : Nat) (t : List Nat) : insN x (y :: t) = if x ≤ y then x :: y :: t else y :: insN x t := by
  show (bif Nat.ble x y then x :: y :: t else y :: insN x t) = _
  by_cases h : x ≤ y
  · rw [if_pos h, Nat.ble_eq_true_of_le h, cond_true]
  · rw [if_neg h]
    have : Nat.ble x y = false := by
      cases hb : Nat.ble x y with
      | false => rfl
      | true => exact absurd (Nat.le_of_ble_eq_true hb) h
    rw [this, cond_false]
theorem insN_perm (x : Nat) : ∀ l, (insN x l).Perm (x :: l)
  | [] => .refl _
  | y :: t => by
    rw [insN_cons]
    split
    · exact .refl _
    · exact ((insN_perm x t).cons y).trans (.swap x y t)
theorem sortN_perm : ∀ l, (sortN l).Perm l
  | [] => .refl _
  | x :: l => (insN_perm x (sortN l)).trans ((sortN_perm l).cons x)
theorem insN_sorted (x : Nat) : ∀ l : List Nat, l.Pairwise (· ≤ ·) → (insN x l).Pairwise (· ≤ ·)
  | [], _ => List.pairwise_singleton _ _
  | y :: t, h => by
    rw [insN_cons]
    obtain ⟨h1, h2⟩ := List.pairwise_cons.1 h
    split
    · rename_i hxy
      refine List.pairwise_cons.2 ⟨fun z hz => ?_, h⟩
      rcases List.mem_cons.1 hz with rfl | hz
      · exact hxy
      · exact Nat.le_trans hxy (h1 z hz)
    · rename_i hxy
      refine List.pairwise_cons.2 ⟨fun z hz => ?_, insN_sorted x t h2⟩
      rcases List.mem_cons.1 ((insN_perm x t).mem_iff.1 hz) with rfl | hz
      · omega
      · exact h1 z hz
theorem sortN_sorted : ∀ l : List Nat, (sortN l).Pairwise (· ≤ ·)
  | [] => .nil
  | x :: l => insN_sorted x _ (sortN_sorted l)

/-! ## The summary -/
def keyN (v : AV) : Option Nat :=
  match v with
  | .int .i64 (.c (.ofNat n)) => bif Nat.ble n 9223372036854775807 then some n else none
  | _ => none
theorem keyN_eq {v : AV} {n : Nat} (h : keyN v = some n) : v = .int .i64 (.c (.ofNat n)) ∧ n ≤ 9223372036854775807 := by
  unfold keyN at h
  split at h
  · rename_i m
    cases hm : Nat.ble m 9223372036854775807 with
    | false => rw [hm, cond_false] at h; cases h
    | true =>
      rw [hm, cond_true] at h
      obtain rfl : m = n := Option.some.inj h
      exact ⟨rfl, Nat.le_of_ble_eq_true hm⟩
  · cases h
noncomputable def natKeys (es : List (AV × AV × Nat)) : Option (List Nat) := lopt (fun e => keyN e.1) es
noncomputable def nodupN (l : List Nat) : Bool := List.rec (motive := fun _ => Bool) true (fun x t ih => bif memN x t then false else ih) l
noncomputable def allBelow (ck : Nat) (l : List Nat) : Bool := List.rec (motive := fun _ => Bool) true (fun x _ ih => bif Nat.ble (Nat.succ x) ck then ih else false) l
theorem memN_iff (n : Nat) : ∀ l, memN n l = true ↔ n ∈ l
  | [] => by show false = true ↔ _; simp
  | x :: l => by
    have ih := memN_iff n l
    show (bif Nat.beq x n then true else memN n l) = true ↔ _
    cases h : Nat.beq x n with
    | true => have := Nat.eq_of_beq_eq_true h; subst this; simp
    | false => have := Nat.ne_of_beq_eq_false h; simp [ih, Ne.symm this]
theorem nodupN_iff : ∀ l, nodupN l = true → l.Nodup
  | [], _ => List.nodup_nil
  | x :: l, h => by
    have h : (bif memN x l then false else nodupN l) = true := h
    cases hm : memN x l with
    | true => rw [hm] at h; cases h
    | false =>
      rw [hm, cond_false] at h
      exact List.nodup_cons.2 ⟨fun hx => (by rw [(memN_iff x l).2 hx] at hm; cases hm), nodupN_iff l h⟩
theorem allBelow_iff {ck : Nat} : ∀ l, allBelow ck l = true → ∀ x ∈ l, x < ck
  | [], _ => fun x hx => by cases hx
  | y :: l, h => by
    have h : (bif Nat.ble (Nat.succ y) ck then allBelow ck l else false) = true := h
    cases hm : Nat.ble (Nat.succ y) ck with
    | false => rw [hm] at h; cases h
    | true =>
      rw [hm, cond_true] at h
      intro x hx
      rcases List.mem_cons.1 hx with rfl | hx
      · exact Nat.lt_of_succ_le (Nat.le_of_ble_eq_true hm)
      · exact allBelow_iff l h x hx
noncomputable def okKeys (ns : List Nat) (es : List (AV × AV × Nat)) (ck : Nat) : Bool :=
  bif nodupN ns then (bif nodupN (lmap (fun e => e.2.2) es) then (bif allBelow ck (lmap (fun e => e.2.2) es) then Nat.ble (llen ns) 1000 else false) else false) else false
noncomputable def sortedHook (gK : FuncId) (el : TypeId) : List AV → St → T (AV × St) := fun args st =>
  match args with
  | [.func g [] [.ptr id 0]] => T.chk (Nat.beq g gK) 351 (T.opt (st.H.get id) 352 fun o => match o with
    | .cells tr d n _ 0 => T.chk (Nat.ble 1 n) 353 (T.opt (look tr d 0) 354 fun v => match v with
      | .map m => T.opt (st.H.get m) 355 fun o => match o with
        | .map es ck => T.opt (natKeys es) 356 fun ns => T.chk (okKeys ns es ck) 357 (match ns with
          | [] => .ret (.nils, st)
          | n :: ns => .ret (.slice st.nx 0 0 (llen (n :: ns)) (llen (n :: ns)) true, st.new (.cells (Tr.ofList (lmap (fun n => AV.int .i64 (.c (.ofNat n))) (sortN (n :: ns)))) none (llen (n :: ns)) el 1)))
        | _ => .bad 358
      | _ => .bad 359)
    | _ => .bad 360)
  | _ => .bad 361

/-- What the library's sorted keys are: the kit's own contract, at plain numbers. -/
def KeysSorted (P : Program) (fS gK : FuncId) (el : TypeId) : Prop :=
  ∀ (Bm b : Nat) (es : Array MapEntry) (ck : Nat) (ns : List Nat) (w : World), w.cell? ⟨Bm, 0, none⟩ = some (.map (some b)) → w.heap[b]? = some (.map es ck) →
    es.toList.map (·.key) = ns.map (fun n => Value.int .i64 (Int.ofNat n)) → (∀ n ∈ ns, n ≤ 9223372036854775807) → Stamped es ck → ns.length ≤ 1000 →
    Calls P fS #[.func (.func gK) #[] #[.pointer (some ⟨Bm, 0, none⟩)]] w fun e w' => ∃ v, e = .returned v ∧ w'.ownsRow w.heap.size el 1 v ns.length ((sortN ns).map fun n => Value.int .i64 (Int.ofNat n)) ∧
      (v = .slice none 0 0 ↔ ns = []) ∧ Below w.heap.size w w'

theorem Turns.below {L : Nat → Loc} {st : St} {w w' : World} {v : AV} {x : Value} (hs : ∀ L', Agree st.nx L L' → Sim L' ρ st.H w) (hx : FxOk ρ st.fx) (hb : Below w.heap.size w w')
    (hv : ∀ L', Agree st.nx L L' → x = conc L' ρ v) : Turns ρ L st w v st x w' := by
  have hlt : ∀ L', Agree st.nx L L' → ∀ id o, st.H.get id = some o → (L' id).b < w.heap.size := fun L' ha id o ho => by
    obtain ⟨y, hy⟩ := ((hs L' ha).at_ id o ho).block
    exact lt_of_some hy
  exact ⟨L, Agree.refl _ _, Nat.le_refl _, ⟨hb.size, hb.os, hb.tape, hb.output, fun b hb' _ => hb.block b hb', fun b _ hn => hn⟩, hx,
    fun L' ha => ⟨hv L' ha, ⟨fun id o ho => ((hs L' ha).at_ id o ho).keep (hb.block _ (hlt L' ha id o ho)), (hs L' ha).inj, (hs L' ha).pin⟩⟩⟩
theorem Turns.fresh {L : Nat → Loc} {st : St} {w w' : World} {v : AV} {o : AObj} {x : Value} {l : Loc} (hs : ∀ L', Agree st.nx L L' → Sim L' ρ st.H w) (hx : FxOk ρ st.fx) (hb : Below w.heap.size w w') (hl : w.heap.size ≤ l.b)
    (hv : ∀ L', Agree st.nx L L' → L' st.nx = l → x = conc L' ρ v) (ho : ∀ L', Agree st.nx L L' → L' st.nx = l → ObjAt L' ρ w' l o) : Turns ρ L st w v (st.new o) x w' := by
  refine ⟨fun i => if i = st.nx then l else L i, fun i hi => if_neg (by omega), Nat.le_succ _, ?_, hx, fun L' ha => ?_⟩
  · refine ⟨hb.size, hb.os, hb.tape, hb.output, fun b hb' _ => hb.block b hb', fun b hb' hnb id o' ho' => ?_⟩
    have ho' : (st.H.set st.nx o).get id = some o' := ho'
    show (if id = st.nx then l else L id).b ≠ b
    by_cases e : id = st.nx
    · rw [if_pos e]; omega
    · rw [if_neg e]
      rw [Tr.get_set_ne _ _ e] at ho'
      exact hnb id o' ho'
  · have ha : Agree (st.nx + 1) (fun i => if i = st.nx then l else L i) L' := ha
    have ha0 : Agree st.nx L L' := fun i hi => by rw [ha i (Nat.lt_succ_of_lt hi)]; exact if_neg (by omega)
    have hn0 : L' st.nx = l := by rw [ha st.nx (Nat.lt_succ_self _)]; exact if_pos rfl
    have hsim := hs L' ha0
    have hlt : ∀ id o', st.H.get id = some o' → (L' id).b < w.heap.size := fun id o' h => by
      obtain ⟨y, hy⟩ := (hsim.at_ id o' h).block
      exact lt_of_some hy
    refine ⟨hv L' ha0 hn0, ?_, ?_, hsim.pin⟩
    · intro id o' h
      have h : (st.H.set st.nx o).get id = some o' := h
      by_cases e : id = st.nx
      · subst e
        rw [Tr.get_set_same] at h
        simp at h
        subst h
        rw [hn0]
        exact ho L' ha0 hn0
      · rw [Tr.get_set_ne _ _ e] at h
        exact (hsim.at_ id o' h).keep (hb.block _ (hlt id o' h))
    · intro i j oi oj hi hj hb'
      have hi : (st.H.set st.nx o).get i = some oi := hi
      have hj : (st.H.set st.nx o).get j = some oj := hj
      by_cases ei : i = st.nx <;> by_cases ej : j = st.nx
      · rw [ei, ej]
      · rw [Tr.get_set_ne _ _ ej] at hj
        have := hlt j oj hj
        rw [← hb', ei, hn0] at this
        omega
      · rw [Tr.get_set_ne _ _ ei] at hi
        have := hlt i oi hi
        rw [hb', ej, hn0] at this
        omega
      · rw [Tr.get_set_ne _ _ ei] at hi
        rw [Tr.get_set_ne _ _ ej] at hj
        exact hsim.inj i j oi oj hi hj hb'

theorem natKeys_eq : ∀ (es : List (AV × AV × Nat)) (ns : List Nat), natKeys es = some ns → es.map (·.1) = ns.map (fun n => AV.int .i64 (.c (.ofNat n))) ∧ ∀ n ∈ ns, n ≤ 9223372036854775807
  | [], ns, h => by
    have h : some ([] : List Nat) = some ns := h
    cases h
    exact ⟨rfl, fun n hn => by cases hn⟩
  | e :: es, ns, h => by
    obtain ⟨y, ys, h1, h2, rfl⟩ := (lopt_cons _ _ _ _).1 h
    obtain ⟨k1, k2⟩ := keyN_eq h1
    obtain ⟨i1, i2⟩ := natKeys_eq es ys h2
    refine ⟨by simp [k1, i1], fun n hn => ?_⟩
    rcases List.mem_cons.1 hn with rfl | hn
    · exact k2
    · exact i2 n hn

theorem sortedHook_sound {fS gK : FuncId} {el : TypeId} (hS : KeysSorted P fS gK el) (hfn : ∃ fn, P.funcs[fS]? = some fn ∧ fn.name ≠ "runtime.NumGoroutine" ∧ fn.body.isNone = false) : HookSound P ρ fS (sortedHook gK el) := by
  intro args st v st' hx h
  unfold sortedHook at h
  split at h
  case h_2 => simp [T.at_bad] at h
  rename_i g id
  replace h := chk_at h; obtain ⟨hg, h⟩ := h
  have hg := Nat.eq_of_beq_eq_true hg
  subst hg
  replace h := T.at_opt_some.1 h; obtain ⟨o, ho, h⟩ := h
  split at h
  case h_2 => simp [T.at_bad] at h
  rename_i tr d n el0
  replace h := chk_at h; obtain ⟨hn, h⟩ := h
  replace h := T.at_opt_some.1 h; obtain ⟨u, hu, h⟩ := h
  split at h
  case h_2 => simp [T.at_bad] at h
  rename_i m
  replace h := T.at_opt_some.1 h; obtain ⟨o2, ho2, h⟩ := h
  split at h
  case h_2 => simp [T.at_bad] at h
  rename_i es ck
  replace h := T.at_opt_some.1 h; obtain ⟨ns, hns, h⟩ := h
  replace h := chk_at h; obtain ⟨hok, h⟩ := h
  obtain ⟨k1, k2⟩ := natKeys_eq es ns hns
  have hok : nodupN ns = true ∧ nodupN (lmap (fun e => e.2.2) es) = true ∧ allBelow ck (lmap (fun e => e.2.2) es) = true ∧ Nat.ble (llen ns) 1000 = true := by
    unfold okKeys at hok
    cases a : nodupN ns <;> rw [a] at hok <;> simp at hok ⊢
    cases b : nodupN (lmap (fun e => e.2.2) es) <;> rw [b] at hok <;> simp at hok ⊢
    exact hok
  obtain ⟨q1, q2, q3, q4⟩ := hok
  have q1 := nodupN_iff _ q1
  have q2 := nodupN_iff _ q2
  have q3 := allBelow_iff _ q3
  have q4 := Nat.le_of_ble_eq_true q4
  rw [lmap_eq] at q2 q3
  rw [llen_eq] at q4
  have hfx : FxOk ρ st'.fx ∧ st.nx ≤ st'.nx := by
    split at h
    · replace h := ret_at h; obtain ⟨_, rfl⟩ := h; exact ⟨hx, Nat.le_refl _⟩
    · replace h := ret_at h; obtain ⟨_, rfl⟩ := h; exact ⟨hx, Nat.le_succ _⟩
  refine ⟨hfn, hfx, fun L w k vals hs hv => ?_⟩
  have hsim := hs L (Agree.refl _ _)
  obtain ⟨_, _, _, _, _, _, h00⟩ := hsim.at_ id _ ho
  have h00 : (L id).o = 0 := h00 rfl
  have hcell := hsim.cell ho (i := 0) (Nat.le_of_ble_eq_true hn) hu
  rw [h00] at hcell
  have hcell : w.cell? ⟨(L id).b, 0, none⟩ = some (.map (some (L m).b)) := by simpa [conc] using hcell
  have hmap : w.heap[(L m).b]? = some (.map (es.map fun e => (⟨conc L ρ e.1, conc L ρ e.2.1, e.2.2⟩ : MapEntry)).toArray ck) := hsim.at_ m _ ho2
  have hkeys : (es.map fun e => (⟨conc L ρ e.1, conc L ρ e.2.1, e.2.2⟩ : MapEntry)).toArray.toList.map (·.key) = ns.map (fun n => Value.int .i64 (Int.ofNat n)) := by
    have := congrArg (List.map (conc L ρ)) k1
    rw [List.map_map, List.map_map] at this
    simp only [List.map_map]
    exact this
  have hborn : (es.map fun e => (⟨conc L ρ e.1, conc L ρ e.2.1, e.2.2⟩ : MapEntry)).toArray.toList.map (·.born) = es.map (fun e => e.2.2) := by simp
  have hst : Stamped (es.map fun e => (⟨conc L ρ e.1, conc L ρ e.2.1, e.2.2⟩ : MapEntry)).toArray ck := by
    refine ⟨fun x hx => ?_, by rw [hborn]; exact q2, ?_⟩
    · have := List.mem_map_of_mem (f := (·.born)) hx
      rw [hborn] at this
      exact q3 _ this
    · rw [hkeys]
      refine List.pairwise_map.2 (q1.imp fun {a b} hne e => hne ?_)
      have e : (Value.int .i64 (Int.ofNat a)) = Value.int .i64 (Int.ofNat b) := e
      simp only [Value.int.injEq, true_and] at e
      exact Int.ofNat.inj e
  have hvals : vals = #[.func (.func g) #[] #[.pointer (some ⟨(L id).b, 0, none⟩)]] := by
    rw [hv L (Agree.refl _ _)]
    simp [conc, concs, h00]
  rw [hvals]
  refine CallsIn.mono (callsIn_wide.2 (hS (L id).b (L m).b _ ck ns w hcell hmap hkeys k2 hst q4)) (fun e w' he => ?_)
  obtain ⟨y, rfl, hrow, hnil, hb⟩ := he
  refine ⟨y, rfl, ?_⟩
  cases ns with
  | nil =>
    replace h := ret_at h; obtain ⟨rfl, rfl⟩ := h
    rw [hnil.2 rfl]
    exact Turns.below hs hx hb (fun L' _ => rfl)
  | cons n0 ns0 =>
    replace h := ret_at h; obtain ⟨rfl, rfl⟩ := h
    rcases hrow.2 with ⟨_, hz⟩ | ⟨gb, cap, cur, rfl, hbase, hgb, r1, r2, r3, r4⟩
    · simp at hz
    have hlen : llen (n0 :: ns0) = (n0 :: ns0).length := llen_eq _
    refine Turns.fresh (l := ⟨gb, 0, cap - (n0 :: ns0).length⟩) hs hx hb hbase (fun L' _ hn => ?_) (fun L' _ hn => ?_)
    · simp only [conc, hn, hlen, if_true]
      rw [show (n0 :: ns0).length + (cap - (n0 :: ns0).length) = cap by omega]
      simp
    · refine ⟨cur, (0, 0), hgb, ?_, fun i _ => by simp, fun i v hi hv => ?_, fun h => by cases h⟩
      · rw [hlen, r3]; simp only; omega
      · rw [look_ofList, lmap_eq] at hv
        rw [hlen] at hi
        have hi' : i < (n0 :: ns0).length * 1 := by omega
        have : (cur.toList.take ((n0 :: ns0).length * 1))[i]? = cur[0 + i]? := by
          rw [List.getElem?_take, if_pos hi', Nat.zero_add]; simp
        rw [← this, r4]
        rw [List.getElem?_map] at hv ⊢
        cases hs : (sortN (n0 :: ns0))[i]? with
        | none => rw [hs] at hv; simp at hv
        | some q =>
          rw [hs] at hv
          simp only [Option.map_some, Option.some.injEq] at hv ⊢
          subst hv
          simp [conc, Tm.den]
end Ab
