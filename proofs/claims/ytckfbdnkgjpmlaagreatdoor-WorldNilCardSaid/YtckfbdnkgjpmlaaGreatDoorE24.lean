/- E, part 24: masks, and what a plan's look at itself shows. -/
import Derived.Test.YtckfbdnkgjpmlaaGreatDoorE23
namespace Ab
open Go

theorem bit_eq (m i : Nat) : bit m i = m.testBit i := by
  rw [Bool.eq_iff_iff, Nat.testBit_eq_decide_div_mod_eq, decide_eq_true_iff]
  unfold bit
  rw [show Nat.land (Nat.shiftRight m i) 1 = (m >>> i) &&& 1 from rfl, Nat.and_one_is_mod, Nat.shiftRight_eq_div_pow]
  exact ⟨Nat.eq_of_beq_eq_true, fun h => by rw [h]; rfl⟩
theorem bit_lor (a b i : Nat) : bit (Nat.lor a b) i = (bit a i || bit b i) := by
  rw [bit_eq, bit_eq, bit_eq]
  exact Nat.testBit_or _ _ _
theorem bit_land (a b i : Nat) : bit (Nat.land a b) i = (bit a i && bit b i) := by
  rw [bit_eq, bit_eq, bit_eq]
  exact Nat.testBit_and _ _ _
theorem bit_pow (j i : Nat) : bit (Nat.pow 2 j) i = true ↔ j = i := by
  rw [bit_eq, show Nat.pow 2 j = 2 ^ j from rfl, Nat.testBit_two_pow, decide_eq_true_iff]
theorem bit_zero (i : Nat) : bit 0 i = false := by
  rw [bit_eq, Nat.zero_testBit]
theorem bit_full (n i : Nat) (h : i < n) : bit (Nat.sub (Nat.pow 2 n) 1) i = true := by
  rw [bit_eq]
  show (2 ^ n - 1).testBit i = true
  rw [Nat.testBit_two_pow_sub_one]
  simp [h]

theorem maskOf_nil (bs : Tr Nat) : maskOf bs [] = 0 := rfl
theorem maskOf_cons (bs : Tr Nat) (e : Edge) (es : List Edge) : maskOf bs (e :: es) = bif bindsAny e then Nat.lor (maskOf bs es) (Nat.lor (Nat.pow 2 e.on) (bget bs e.on)) else maskOf bs es := rfl
theorem bit_maskOf {bs : Tr Nat} {j : Nat} : ∀ {es : List Edge}, bit (maskOf bs es) j = true → ∃ e ∈ es, bindsAny e = true ∧ (e.on = j ∨ bit (bget bs e.on) j = true)
  | [], h => by rw [maskOf_nil, bit_zero] at h; cases h
  | e :: es, h => by
    rw [maskOf_cons] at h
    cases hb : bindsAny e with
    | false =>
      rw [hb, cond_false] at h
      obtain ⟨e', h1, h2⟩ := bit_maskOf h
      exact ⟨e', by simp [h1], h2⟩
    | true =>
      rw [hb, cond_true, bit_lor, bit_lor, Bool.or_eq_true, Bool.or_eq_true] at h
      rcases h with h | h | h
      · obtain ⟨e', h1, h2⟩ := bit_maskOf h
        exact ⟨e', by simp [h1], h2⟩
      · exact ⟨e, by simp, hb, .inl ((bit_pow _ _).1 h)⟩
      · exact ⟨e, by simp, hb, .inr h⟩
theorem masks_cons (o : Oper) (ops : List Oper) (i : Nat) (bs : Tr Nat) : masks (o :: ops) i bs = masks ops (i + 1) (bs.set i (maskOf bs o.after.toList)) := rfl
theorem masks_spec : ∀ (ops : List Oper) (i : Nat) (bs : Tr Nat), (∀ j, j < i → (masks ops i bs).get j = bs.get j) ∧
    ∀ k o, ops[k]? = some o → ∃ B', (∀ j, j < i + k → B'.get j = (masks ops i bs).get j) ∧ (masks ops i bs).get (i + k) = some (maskOf B' o.after.toList)
  | [], i, bs => ⟨fun _ _ => rfl, by simp⟩
  | o :: ops, i, bs => by
    obtain ⟨h1, h2⟩ := masks_spec ops (i + 1) (bs.set i (maskOf bs o.after.toList))
    rw [masks_cons]
    have hlow : ∀ j, j < i → (masks ops (i + 1) (bs.set i (maskOf bs o.after.toList))).get j = bs.get j := fun j hj => by
      rw [h1 j (by omega), Tr.get_set_ne _ _ (by omega)]
    refine ⟨hlow, fun k o' hk => ?_⟩
    cases k with
    | zero =>
      simp at hk
      subst hk
      refine ⟨bs, fun j hj => (hlow j (by omega)).symm, ?_⟩
      exact (h1 i (by omega)).trans (Tr.get_set_same _ _ _)
    | succ k =>
      obtain ⟨B', h3, h4⟩ := h2 k o' (by simpa using hk)
      rw [show i + (k + 1) = i + 1 + k by omega]
      exact ⟨B', h3, h4⟩
theorem bget_congr {A B : Tr Nat} {i : Nat} (h : A.get i = B.get i) : bget A i = bget B i := by unfold bget; rw [h]
theorem edgesOk_cons (i : Nat) (e : Edge) (es : List Edge) : edgesOk i (e :: es) = bif bindsAny e then (bif Nat.ble (Nat.succ e.on) i then edgesOk i es else false) else edgesOk i es := rfl
theorem edgesOk_spec {i : Nat} : ∀ {es : List Edge}, edgesOk i es = true → ∀ e ∈ es, bindsAny e = true → e.on < i
  | [], _ => by simp
  | e :: es, h => by
    rw [edgesOk_cons] at h
    intro e' he hb
    cases hbe : bindsAny e with
    | false =>
      rw [hbe, cond_false] at h
      rcases List.mem_cons.1 he with rfl | he
      · rw [hb] at hbe; cases hbe
      · exact edgesOk_spec h e' he hb
    | true =>
      rw [hbe, cond_true] at h
      cases hl : Nat.ble (Nat.succ e.on) i with
      | false => rw [hl, cond_false] at h; cases h
      | true =>
        rw [hl, cond_true] at h
        rcases List.mem_cons.1 he with rfl | he
        · exact Nat.le_of_ble_eq_true hl
        · exact edgesOk_spec h e' he hb
theorem namesOk_cons (bs dt : Tr Nat) (j : Nat) (t : Tmp) (l : List Tmp) : namesOk bs dt j (t :: l) = match dt.get t with
    | none => namesOk bs dt j l
    | some i => bif Nat.beq i j then false else bif bit (bget bs j) i then namesOk bs dt j l else bif bit (bget bs i) j then namesOk bs dt j l else false := rfl
theorem namesOk_spec {bs dt : Tr Nat} {j : Nat} : ∀ {l : List Tmp}, namesOk bs dt j l = true → ∀ t ∈ l, ∀ i, dt.get t = some i → i ≠ j ∧ (bit (bget bs j) i = true ∨ bit (bget bs i) j = true)
  | [], _ => by simp
  | t :: l, h => by
    rw [namesOk_cons] at h
    intro t' ht i hi
    have rest : namesOk bs dt j l = true ∧ (∀ i, dt.get t = some i → i ≠ j ∧ (bit (bget bs j) i = true ∨ bit (bget bs i) j = true)) := by
      split at h
      · rename_i hn
        exact ⟨h, fun i hi => by rw [hn] at hi; cases hi⟩
      · rename_i i' hi'
        cases h1 : Nat.beq i' j with
        | true => rw [h1, cond_true] at h; cases h
        | false =>
          rw [h1, cond_false] at h
          have hne := beq_false' h1
          cases h2 : bit (bget bs j) i' with
          | true =>
            rw [h2, cond_true] at h
            exact ⟨h, fun i hi => by rw [hi'] at hi; simp at hi; subst hi; exact ⟨hne, .inl h2⟩⟩
          | false =>
            rw [h2, cond_false] at h
            cases h3 : bit (bget bs i') j with
            | true =>
              rw [h3, cond_true] at h
              exact ⟨h, fun i hi => by rw [hi'] at hi; simp at hi; subst hi; exact ⟨hne, .inr h3⟩⟩
            | false => rw [h3, cond_false] at h; cases h
    rcases List.mem_cons.1 ht with rfl | ht
    · exact rest.2 i hi
    · exact namesOk_spec rest.1 t' ht i hi
theorem opsOk_cons (ops : List Oper) (bs dt : Tr Nat) (o : Oper) (l : List Oper) (i : Nat) : opsOk ops bs dt (o :: l) i = bif edgesOk i o.after.toList then (bif namesOk bs dt i (namesOf ops o) then opsOk ops bs dt l (i + 1) else false) else false := rfl
theorem opsOk_spec {ops : List Oper} {bs dt : Tr Nat} : ∀ {l : List Oper} {i : Nat}, opsOk ops bs dt l i = true → ∀ k o, l[k]? = some o → edgesOk (i + k) o.after.toList = true ∧ namesOk bs dt (i + k) (namesOf ops o) = true
  | [], _, _ => by simp
  | o :: l, i, h => by
    rw [opsOk_cons] at h
    cases h1 : edgesOk i o.after.toList with
    | false => rw [h1, cond_false] at h; cases h
    | true =>
      rw [h1, cond_true] at h
      cases h2 : namesOk bs dt i (namesOf ops o) with
      | false => rw [h2, cond_false] at h; cases h
      | true =>
        rw [h2, cond_true] at h
        intro k o' hk
        cases k with
        | zero => simp at hk; subst hk; exact ⟨h1, h2⟩
        | succ k =>
          rw [show i + (k + 1) = i + 1 + k by omega]
          exact opsOk_spec h k o' (by simpa using hk)
theorem dsts_spec : ∀ (l : List Oper) (i : Nat) (t T : Tr Nat), dsts l i t = some T → (∀ d j, t.get d = some j → T.get d = some j) ∧
    (∀ k o d, l[k]? = some o → o.dst = some d → T.get d = some (i + k)) ∧ (∀ d j, T.get d = some j → t.get d = some j ∨ ∃ k o, l[k]? = some o ∧ o.dst = some d ∧ j = i + k)
  | [], i, t, T, h => by
    have h : some t = some T := h
    simp at h
    subst h
    exact ⟨fun _ _ h => h, by simp, fun _ _ h => .inl h⟩
  | o :: l, i, t, T, h => by
    have h : (match o.dst with
      | none => dsts l (i + 1) t
      | some d => match t.get d with
        | none => dsts l (i + 1) (t.set d i)
        | some _ => none) = some T := h
    cases hd : o.dst with
    | none =>
      rw [hd] at h
      obtain ⟨h1, h2, h3⟩ := dsts_spec l (i + 1) t T h
      refine ⟨h1, fun k o' d hk hd' => ?_, fun d j hj => ?_⟩
      · cases k with
        | zero => simp at hk; subst hk; rw [hd] at hd'; cases hd'
        | succ k => rw [show i + (k + 1) = i + 1 + k by omega]; exact h2 k o' d (by simpa using hk) hd'
      · rcases h3 d j hj with h | ⟨k, o', hk, hd', rfl⟩
        · exact .inl h
        · exact .inr ⟨k + 1, o', by simpa using hk, hd', by omega⟩
    | some d0 =>
      rw [hd] at h
      simp only at h
      cases ht : t.get d0 with
      | some x => rw [ht] at h; cases h
      | none =>
        rw [ht] at h
        simp only at h
        obtain ⟨h1, h2, h3⟩ := dsts_spec l (i + 1) _ T h
        refine ⟨fun d j hj => h1 d j (by rw [Tr.get_set_ne _ _ (fun hh => by rw [hh, ht] at hj; cases hj)]; exact hj), fun k o' d hk hd' => ?_, fun d j hj => ?_⟩
        · cases k with
          | zero =>
            simp at hk
            subst hk
            rw [hd] at hd'
            simp at hd'
            subst hd'
            exact h1 _ _ (by rw [Tr.get_set_same]; rfl)
          | succ k => rw [show i + (k + 1) = i + 1 + k by omega]; exact h2 k o' d (by simpa using hk) hd'
        · rcases h3 d j hj with h | ⟨k, o', hk, hd', rfl⟩
          · rw [Tr.get_set] at h
            split at h
            · rename_i e
              simp at h
              subst h
              subst e
              exact .inr ⟨0, o, rfl, hd, rfl⟩
            · exact .inl h
          · exact .inr ⟨k + 1, o', by simpa using hk, hd', by omega⟩

/-! ## Steps -/
def FromOps (cx : Ctx) (ops : List Oper) (s : Step) : Prop := ops[s.i]? = some s.o ∧ s.c = cls cx s.o.op
theorem steps0_from {cx : Ctx} {ops : List Oper} : ∀ (l : List Oper) (i : Nat), (∀ k o, l[k]? = some o → ops[i + k]? = some o) → ∀ s ∈ steps0 cx l i, FromOps cx ops s
  | [], _, _ => by intro s hs; cases hs
  | o :: l, i, h => by
    intro s hs
    have e : steps0 cx (o :: l) i = ⟨i, o, cls cx o.op, 0⟩ :: steps0 cx l (i + 1) := rfl
    rw [e] at hs
    rcases List.mem_cons.1 hs with rfl | hs
    · exact ⟨h 0 o rfl, rfl⟩
    · exact steps0_from l (i + 1) (fun k o' hk => by rw [show i + 1 + k = i + (k + 1) by omega]; exact h (k + 1) o' (by simpa using hk)) s hs
theorem writers_sub {l : List Step} : ∀ s ∈ writers l, s ∈ l := by
  induction l with
  | nil => intro s hs; cases hs
  | cons x l ih =>
    intro s hs
    have e : writers (x :: l) = bif Nat.ble 3 x.c then x :: writers l else writers l := rfl
    rw [e] at hs
    cases hb : Nat.ble 3 x.c with
    | true =>
      rw [hb, cond_true] at hs
      rcases List.mem_cons.1 hs with rfl | hs
      · simp
      · simp [ih s hs]
    | false => rw [hb, cond_false] at hs; simp [ih s hs]
theorem take_from {cx : Ctx} {ops : List Oper} {bs : Tr Nat} {ws : List Step} {ph m done : Nat} : ∀ {l : List Step}, (∀ s ∈ l, FromOps cx ops s) → ∀ s ∈ take bs ws ph m done l, FromOps cx ops s := by
  intro l
  induction l with
  | nil => intro _ s hs; cases hs
  | cons x l ih =>
    intro h s hs
    have ih := ih (fun s hs => h s (by simp [hs]))
    have e : take bs ws ph m done (x :: l) = bif Nat.ble 3 x.c then take bs ws ph m done l else bif bit done x.i then take bs ws ph m done l else bif bit m x.i then
      ⟨x.i, x.o, x.c, Nat.sub ph (countIn (bget bs x.i) ws)⟩ :: take bs ws ph m done l else take bs ws ph m done l := rfl
    rw [e] at hs
    cases h1 : Nat.ble 3 x.c with
    | true => rw [h1, cond_true] at hs; exact ih s hs
    | false =>
      rw [h1, cond_false] at hs
      cases h2 : bit done x.i with
      | true => rw [h2, cond_true] at hs; exact ih s hs
      | false =>
        rw [h2, cond_false] at hs
        cases h3 : bit m x.i with
        | false => rw [h3, cond_false] at hs; exact ih s hs
        | true =>
          rw [h3, cond_true] at hs
          rcases List.mem_cons.1 hs with rfl | hs
          · exact h x (by simp)
          · exact ih s hs
theorem order_from {cx : Ctx} {ops : List Oper} {bs : Tr Nat} {all ws : List Step} (ha : ∀ s ∈ all, FromOps cx ops s) : ∀ {rest : List Step}, (∀ s ∈ rest, FromOps cx ops s) → ∀ ph done, ∀ s ∈ order bs all ws rest ph done, FromOps cx ops s := by
  intro rest
  induction rest with
  | nil => intro _ ph done s hs; exact take_from ha s hs
  | cons x rest ih =>
    intro h ph done s hs
    have e : order bs all ws (x :: rest) ph done = lapp (take bs ws ph (bget bs x.i) done all) (x :: order bs all ws rest (ph + 1) (Nat.lor done (bget bs x.i))) := rfl
    rw [e, lapp_eq] at hs
    rcases List.mem_append.1 hs with hs | hs
    · exact take_from ha s hs
    · rcases List.mem_cons.1 hs with rfl | hs
      · exact h s (by simp)
      · exact ih (fun s hs => h s (by simp [hs])) _ _ s hs

/-! ## The plan's look at itself -/
def doneAt : List Step → Nat → Nat → Nat
  | _, done, 0 => done
  | [], done, _ + 1 => done
  | s :: l, done, k + 1 => doneAt l (Nat.lor done (Nat.pow 2 s.i)) k
def wlAt : List Step → List Nat → Nat → List Nat
  | _, wl, 0 => wl
  | [], wl, _ + 1 => wl
  | s :: l, wl, k + 1 => wlAt l (if 3 ≤ s.c then s.i :: wl else wl) k
theorem bit_doneAt : ∀ (l : List Step) (done k j : Nat), bit (doneAt l done k) j = true ↔ bit done j = true ∨ ∃ k' s, k' < k ∧ l[k']? = some s ∧ s.i = j
  | [], done, 0, j => by simp [doneAt]
  | [], done, k + 1, j => by simp [doneAt]
  | s :: l, done, 0, j => by simp [doneAt]
  | s :: l, done, k + 1, j => by
    rw [doneAt, bit_doneAt l _ k j, bit_lor, Bool.or_eq_true, bit_pow]
    constructor
    · rintro ((h | h) | ⟨k', s', h1, h2, h3⟩)
      · exact .inl h
      · exact .inr ⟨0, s, by omega, rfl, h⟩
      · exact .inr ⟨k' + 1, s', by omega, by simpa using h2, h3⟩
    · rintro (h | ⟨k', s', h1, h2, h3⟩)
      · exact .inl (.inl h)
      · cases k' with
        | zero => simp at h2; subst h2; exact .inl (.inr h3)
        | succ k' => exact .inr ⟨k', s', by omega, by simpa using h2, h3⟩
theorem okPlan_cons (bs : Tr Nat) (full : Nat) (s : Step) (l : List Step) (done : Nat) (wl : List Nat) : okPlan bs full (s :: l) done wl =
    bif bit done s.i then false else bif Nat.beq (Nat.land (bget bs s.i) done) (bget bs s.i) then
      (bif Nat.ble 3 s.c then (bif Nat.beq (bget bs s.i) done then okPlan bs full l (Nat.lor done (Nat.pow 2 s.i)) (s.i :: wl) else false)
        else (bif Nat.ble (countOut (bget bs s.i) wl) s.d then okPlan bs full l (Nat.lor done (Nat.pow 2 s.i)) wl else false)) else false := rfl
theorem okPlan_spec {bs : Tr Nat} {full : Nat} : ∀ {l : List Step} {done : Nat} {wl : List Nat}, okPlan bs full l done wl = true →
    (∀ k s, l[k]? = some s → bit (doneAt l done k) s.i = false ∧ (∀ j, bit (bget bs s.i) j = true → bit (doneAt l done k) j = true) ∧
      (3 ≤ s.c → ∀ j, bit (doneAt l done k) j = true → bit (bget bs s.i) j = true) ∧ (s.c < 3 → countOut (bget bs s.i) (wlAt l wl k) ≤ s.d)) ∧ doneAt l done l.length = full
  | [], done, wl, h => ⟨by simp, Nat.eq_of_beq_eq_true h⟩
  | s :: l, done, wl, h => by
    rw [okPlan_cons] at h
    cases h1 : bit done s.i with
    | true => rw [h1, cond_true] at h; cases h
    | false =>
      rw [h1, cond_false] at h
      cases h2 : Nat.beq (Nat.land (bget bs s.i) done) (bget bs s.i) with
      | false => rw [h2, cond_false] at h; cases h
      | true =>
        rw [h2, cond_true] at h
        have h2 := Nat.eq_of_beq_eq_true h2
        have hsub : ∀ j, bit (bget bs s.i) j = true → bit done j = true := fun j hj => by
          rw [← h2, bit_land, Bool.and_eq_true] at hj
          exact hj.2
        cases h3 : Nat.ble 3 s.c with
        | true =>
          rw [h3, cond_true] at h
          have h3 := Nat.le_of_ble_eq_true h3
          cases h4 : Nat.beq (bget bs s.i) done with
          | false => rw [h4, cond_false] at h; cases h
          | true =>
            rw [h4, cond_true] at h
            have h4 := Nat.eq_of_beq_eq_true h4
            obtain ⟨r1, r2⟩ := okPlan_spec h
            refine ⟨fun k s' hk => ?_, r2⟩
            cases k with
            | zero =>
              simp at hk
              subst hk
              exact ⟨h1, hsub, fun _ j hj => by rw [h4]; exact hj, fun hh => by omega⟩
            | succ k =>
              have := r1 k s' (by simpa using hk)
              simp only [doneAt, wlAt, if_pos h3]
              exact this
        | false =>
          rw [h3, cond_false] at h
          have h3 := ble_false h3
          cases h4 : Nat.ble (countOut (bget bs s.i) wl) s.d with
          | false => rw [h4, cond_false] at h; cases h
          | true =>
            rw [h4, cond_true] at h
            obtain ⟨r1, r2⟩ := okPlan_spec h
            refine ⟨fun k s' hk => ?_, r2⟩
            cases k with
            | zero =>
              simp at hk
              subst hk
              exact ⟨h1, hsub, fun hh => by omega, fun _ => Nat.le_of_ble_eq_true h4⟩
            | succ k =>
              have := r1 k s' (by simpa using hk)
              simp only [doneAt, wlAt, if_neg (show ¬ 3 ≤ s.c by omega)]
              exact this
theorem countOut_new {m : Nat} : ∀ (new wl : List Nat), (∀ i ∈ new, bit m i = false) → new.length ≤ countOut m (new ++ wl)
  | [], wl, _ => Nat.zero_le _
  | i :: new, wl, h => by
    have e : countOut m (i :: (new ++ wl)) = bif bit m i then countOut m (new ++ wl) else Nat.succ (countOut m (new ++ wl)) := rfl
    rw [List.cons_append, e, h i (by simp), cond_false]
    exact Nat.succ_le_succ (countOut_new new wl (fun j hj => h j (by simp [hj])))
end Ab
