/- Heaps in a list: plain laws. -/
import Derived.Test.YtdohclfkbfeihaaDqIdx
namespace Go.Proofs.Ytdohclfkbfeihaa
theorem lt_iff (a b : Ent) : lt a b = true ↔ a.t < b.t ∨ (a.t = b.t ∧ (a.k < b.k ∨ (a.k = b.k ∧ (a.n < b.n ∨ (a.n = b.n ∧ a.o < b.o))))) := by
  unfold lt
  split
  · rw [decide_eq_true_iff]; omega
  · split
    · rw [decide_eq_true_iff]; omega
    · split
      · simp only [true_iff]; omega
      · rw [Bool.and_eq_true, decide_eq_true_iff, decide_eq_true_iff]; omega
theorem lt_no (a b : Ent) : lt a b = false ↔ ¬ (a.t < b.t ∨ (a.t = b.t ∧ (a.k < b.k ∨ (a.k = b.k ∧ (a.n < b.n ∨ (a.n = b.n ∧ a.o < b.o)))))) := by
  rw [← lt_iff, Bool.not_eq_true]
theorem lt_asymm {a b : Ent} (h : lt a b = true) : lt b a = false := by rw [lt_iff] at h; rw [lt_no]; omega
theorem lt_irrefl (a : Ent) : lt a a = false := by rw [lt_no]; omega
/-- Not less: whole and transitive. -/
theorem le_trans {a b c : Ent} (h1 : lt b a = false) (h2 : lt c b = false) : lt c a = false := by rw [lt_no] at *; omega
theorem le_antisymm {a b : Ent} (h1 : lt a b = false) (h2 : lt b a = false) : a = b := by
  rw [lt_no] at *
  obtain ⟨a1, a2, a3, a4⟩ := a
  obtain ⟨b1, b2, b3, b4⟩ := b
  simp only at h1 h2
  congr <;> omega
def par (i : Nat) : Nat := (i - 1) / 2
theorem par_lt {i : Nat} (h : 0 < i) : par i < i := by unfold par; omega
def Edge (es : List Ent) (k : Nat) : Prop := ∀ a b, es[par k]? = some a → es[k]? = some b → lt b a = false
def HeapN (es : List Ent) (n : Nat) : Prop := ∀ k, 0 < k → k < n → Edge es k
/-- Over the gap at j: what hangs below j is not less than what is above it. -/
def Over (es : List Ent) (n j : Nat) : Prop := ∀ k, 0 < j → 0 < k → k < n → par k = j → ∀ a b, es[par j]? = some a → es[k]? = some b → lt b a = false
structure UpInv (es : List Ent) (n j : Nat) : Prop where
  edge : ∀ k, 0 < k → k < n → k ≠ j → Edge es k
  over : Over es n j
structure DownInv (es : List Ent) (n i0 i : Nat) : Prop where
  edge : ∀ k, 0 < k → k < n → par k ≠ i → (k = i0 → i ≠ i0) → Edge es k
  over : Over es n i
theorem up_done0 {es : List Ent} {n : Nat} (h : UpInv es n 0) : HeapN es n := fun k hk hn => h.edge k hk hn (by omega)
theorem up_done {es : List Ent} {n j : Nat} (h : UpInv es n j) {x p : Ent} (hx : es[j]? = some x) (hp : es[par j]? = some p) (hl : lt x p = false) : HeapN es n := fun k hk hn => by
  by_cases e : k = j
  · subst e
    intro a b ha hb
    rw [hp] at ha
    rw [hx] at hb
    cases ha
    cases hb
    exact hl
  · exact h.edge k hk hn e
theorem up_step {es : List Ent} {n j : Nat} (h : UpInv es n j) (hj : 0 < j) (hjn : j < n) {x p : Ent} (hx : es[j]? = some x) (hp : es[par j]? = some p) (hl : lt x p = true) : UpInv ((es.set (par j) x).set j p) n (par j) := by
  have hpj := par_lt hj
  have G := swap_get (i := par j) (j := j) (by omega) hp hx
  have hxp := lt_asymm hl
  have gj : ((es.set (par j) x).set j p)[j]? = some p := by rw [G, if_neg (by omega), if_pos rfl, hp]
  have gp : ((es.set (par j) x).set j p)[par j]? = some x := by rw [G, if_pos rfl, hx]
  have go : ∀ k, k ≠ j → k ≠ par j → ((es.set (par j) x).set j p)[k]? = es[k]? := fun k h1 h2 => by rw [G, if_neg h2, if_neg h1]
  refine ⟨fun k hk hn hne a b ha hb => ?_, fun k hj0 hk hn hpk a b ha hb => ?_⟩
  · by_cases e1 : k = j
    · subst e1
      rw [gp] at ha
      rw [gj] at hb
      cases ha
      cases hb
      exact hxp
    · rw [go k e1 hne] at hb
      by_cases e2 : par k = j
      · rw [e2, gj] at ha
        cases ha
        exact h.over k hj hk hn e2 p b hp hb
      · by_cases e3 : par k = par j
        · rw [e3, gp] at ha
          cases ha
          exact le_trans hxp (h.edge k hk hn e1 p b (by rw [e3]; exact hp) hb)
        · rw [go _ e2 e3] at ha
          exact h.edge k hk hn e1 a b ha hb
  · have hpp := par_lt hj0
    rw [go _ (by omega) (by omega)] at ha
    have h1 : lt p a = false := h.edge (par j) hj0 (by omega) (by omega) a p ha hp
    by_cases e1 : k = j
    · subst e1
      rw [gj] at hb
      cases hb
      exact h1
    · rw [go k e1 (by have := par_lt hk; omega)] at hb
      exact le_trans h1 (h.edge k hk hn e1 p b (by rw [hpk]; exact hp) hb)
theorem down_done {es : List Ent} {n i0 i : Nat} (h : DownInv es n i0 i) (hc : ∀ k, 0 < k → k < n → par k = i → Edge es k) : (i ≠ i0 → HeapN es n) ∧ (i = i0 → UpInv es n i0) := by
  refine ⟨fun hne k hk hn => ?_, fun he => ?_⟩
  · by_cases e : par k = i
    · exact hc k hk hn e
    · exact h.edge k hk hn e (fun _ => hne)
  · subst he
    refine ⟨fun k hk hn hki => ?_, h.over⟩
    by_cases e : par k = i
    · exact hc k hk hn e
    · exact h.edge k hk hn e (fun q => absurd q hki)
theorem down_step {es : List Ent} {n i0 i c : Nat} (h : DownInv es n i0 i) (hi0 : i0 ≤ i) (hc : 0 < c) (hcn : c < n) (hpc : par c = i) {x y : Ent} (hx : es[i]? = some x) (hy : es[c]? = some y) (hl : lt y x = true)
    (hs : ∀ s, 0 < s → s < n → par s = i → s ≠ c → ∀ z, es[s]? = some z → lt z y = false) : DownInv ((es.set i y).set c x) n i0 c := by
  have hic := par_lt hc
  rw [hpc] at hic
  have G := swap_get (i := i) (j := c) (by omega) hx hy
  have hyx := lt_asymm hl
  have gc : ((es.set i y).set c x)[c]? = some x := by rw [G, if_neg (by omega), if_pos rfl, hx]
  have gi : ((es.set i y).set c x)[i]? = some y := by rw [G, if_pos rfl, hy]
  have go : ∀ k, k ≠ i → k ≠ c → ((es.set i y).set c x)[k]? = es[k]? := fun k h1 h2 => by rw [G, if_neg h1, if_neg h2]
  refine ⟨fun k hk hn hpk hki a b ha hb => ?_, fun k hj0 hk hn hpk a b ha hb => ?_⟩
  · by_cases e1 : k = c
    · subst e1
      rw [hpc, gi] at ha
      rw [gc] at hb
      cases ha
      cases hb
      exact hyx
    · by_cases e2 : k = i
      · subst e2
        rw [gi] at hb
        cases hb
        rw [go _ (by have := par_lt hk; omega) (by have := par_lt hk; omega)] at ha
        exact h.over c hk hc hcn hpc a _ ha hy
      · rw [go k e2 e1] at hb
        by_cases e3 : par k = i
        · rw [e3, gi] at ha
          cases ha
          exact hs k hk hn e3 e1 b hb
        · rw [go _ e3 hpk] at ha
          exact h.edge k hk hn e3 (fun q => by omega) a b ha hb
  · rw [hpc, gi] at ha
    cases ha
    rw [go k (by have := par_lt hk; omega) (by have := par_lt hk; omega)] at hb
    exact h.edge k hk hn (by omega) (fun q => by have := par_lt hk; omega) y b (by rw [hpk]; exact hy) hb
/-- The top of a heap is least. -/
theorem heap_top {es : List Ent} {n : Nat} (h : HeapN es n) (hn : n ≤ es.length) {x : Ent} (hx : es[0]? = some x) : ∀ k, k < n → ∀ y, es[k]? = some y → lt y x = false := by
  intro k
  induction k using Nat.strongRecOn with
  | _ k ih =>
    intro hk y hy
    rcases Nat.eq_zero_or_pos k with h0 | h0
    · subst h0
      rw [hx] at hy
      cases hy
      exact lt_irrefl _
    · have hp := par_lt h0
      have h1 := ih (par k) hp (by omega) _ (List.getElem?_eq_getElem (show par k < es.length by omega))
      exact le_trans h1 (h k h0 hk _ _ (List.getElem?_eq_getElem (show par k < es.length by omega)) hy)
/-- One entry is another: the heap but at that place. -/
theorem down_of_set {es : List Ent} {n i : Nat} (h : HeapN es n) (hi : i < n) (hn : n ≤ es.length) (e : Ent) : DownInv (es.set i e) n i i := by
  have go : ∀ k, k ≠ i → (es.set i e)[k]? = es[k]? := fun k hk => List.getElem?_set_ne (Ne.symm hk)
  refine ⟨fun k hk hkn hpk hki a b ha hb => ?_, fun k h0 hk hkn hpk a b ha hb => ?_⟩
  · have hne : k ≠ i := fun q => hki q rfl
    rw [go _ hpk] at ha
    rw [go _ hne] at hb
    exact h k hk hkn a b ha hb
  · have h1 := par_lt h0
    have h2 := par_lt hk
    rw [go _ (by omega)] at ha
    rw [go _ (by omega)] at hb
    have hx := List.getElem?_eq_getElem (show i < es.length by omega)
    exact le_trans (h i h0 hi a _ ha hx) (h k hk hkn _ b (by rw [hpk]; exact hx) hb)
/-- .. also where what lies from n on is other. -/
theorem down_alike {es es' : List Ent} {n i0 i : Nat} (h : DownInv es n i0 i) (hi : i < n) (ha : ∀ k, k < n → es'[k]? = es[k]?) : DownInv es' n i0 i :=
  ⟨fun k hk hn h1 h2 a b hx hy => h.edge k hk hn h1 h2 a b (by rw [← ha _ (by have := par_lt hk; omega)]; exact hx) (by rw [← ha _ hn]; exact hy),
   fun k h0 hk hn hp a b hx hy => h.over k h0 hk hn hp a b (by rw [← ha _ (by have := par_lt h0; omega)]; exact hx) (by rw [← ha _ hn]; exact hy)⟩
theorem heap_alike {es es' : List Ent} {n : Nat} (h : HeapN es n) (ha : ∀ k, k < n → es'[k]? = es[k]?) : HeapN es' n :=
  fun k hk hn a b hx hy => h k hk hn a b (by rw [← ha _ (by have := par_lt hk; omega)]; exact hx) (by rw [← ha _ hn]; exact hy)
theorem heap_less {es : List Ent} {n n' : Nat} (h : HeapN es n) (hn : n' ≤ n) : HeapN es n' := fun k hk hk' => h k hk (by omega)
/-- A new entry at the end. -/
theorem up_of_push {es : List Ent} (h : HeapN es es.length) (e : Ent) : UpInv (es ++ [e]) (es.length + 1) es.length := by
  have go : ∀ k, k < es.length → (es ++ [e])[k]? = es[k]? := fun k hk => List.getElem?_append_left hk
  refine ⟨fun k hk hn hne a b ha hb => ?_, fun k h0 hk hn hp => ?_⟩
  · have := par_lt hk
    rw [go _ (by omega)] at ha hb
    exact h k hk (by omega) a b ha hb
  · have := par_lt hk
    omega
theorem swap_perm {es : List Ent} {i j : Nat} {a b : Ent} (ha : es[i]? = some a) (hb : es[j]? = some b) : ((es.set i b).set j a).Perm es := by
  obtain ⟨hi, rfl⟩ := List.getElem?_eq_some_iff.1 ha
  obtain ⟨hj, rfl⟩ := List.getElem?_eq_some_iff.1 hb
  exact List.set_set_perm hi hj
end Go.Proofs.Ytdohclfkbfeihaa
