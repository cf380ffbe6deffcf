/- E, part 39: flat parameters (whole numbers, texts, truths, structs of these): what they read as does not hang on the world; what their cells are. -/
import Derived.Test.YtckfbdnkgjpmlaaGreatDoorE38
import Derived.ChangeMaps5
namespace Ab
open Go Go.ChangeShapes Go.WideShapes Go.ChangeAt Go.ChangeMaps Go.RowKit

section
variable {H : Type} {enc : TypeId × Value → H} {P : Program} {w : World} {base : Nat} {sp : Nat → Bool} {hd : Bool}

/-- Flat types, to a depth. -/
def flatT (P : Program) : Nat → TypeId → Bool
  | 0, _ => false
  | d + 1, t => match P.underlying t with
    | some .bool => true
    | some (.int _) => true
    | some .string => true
    | some (.struct fs) => fs.toList.all fun f => flatT P d f.type
    | _ => false

theorem mapM_pts {α β : Type} {g : α → Option β} : ∀ {l : List α} {xs : List β}, xs.length = l.length → (∀ (i : Nat) (a : α), l[i]? = some a → g a = xs[i]?) → l.mapM g = some xs
  | [], [], _, _ => rfl
  | [], _ :: _, h, _ => by simp at h
  | _ :: _, [], h, _ => by simp at h
  | a :: l, x :: xs, h, hp => by
    have h0 : g a = some x := by simpa using hp 0 a rfl
    have ih : l.mapM g = some xs := mapM_pts (by simpa using h) fun i b hb => by simpa using hp (i + 1) b (by simpa using hb)
    rw [List.mapM_cons, h0, ih]
    rfl
/-- WHAT A FLAT VALUE READS AS DOES NOT HANG ON THE WORLD, and it reads through no place. -/
theorem trod_flat : ∀ (d : Nat) (t : TypeId), flatT P d t = true → ∀ {fuel : Nat} {cs : List Value} {x : DataW H × List MemPlace}, DataW.trod enc P w base sp hd fuel t cs = some x →
    x.2 = [] ∧ ∀ (w' : World) (base' : Nat) (sp' : Nat → Bool) (hd' : Bool), DataW.trod enc P w' base' sp' hd' fuel t cs = some x
  | 0, t, hf, _, _, _, _ => by cases hf
  | d + 1, t, hf, fuel, cs, x, h => by
    unfold flatT at hf
    split at hf
    · rename_i ht
      obtain ⟨b, rfl, rfl⟩ := DataW.trod_bool ht h
      cases fuel with
      | zero => simp [DataW.trod] at h
      | succ n => exact ⟨rfl, fun w' base' sp' hd' => by simp [DataW.trod, ht]⟩
    · rename_i k ht
      obtain ⟨n, rfl, rfl, hw⟩ := DataW.trod_int ht h
      cases fuel with
      | zero => simp [DataW.trod] at h
      | succ n => exact ⟨rfl, fun w' base' sp' hd' => by simp [DataW.trod, ht, hw]⟩
    · rename_i ht
      obtain ⟨s, rfl, rfl, hs⟩ := DataW.trod_string ht h
      cases fuel with
      | zero => simp [DataW.trod] at h
      | succ n => exact ⟨rfl, fun w' base' sp' hd' => by simp [DataW.trod, ht, hs]⟩
    · rename_i fs ht
      obtain ⟨xs, n, rfl, rfl, hl, hlen, hp⟩ := DataW.trod_struct ht h
      have hall : ∀ f ∈ fs.toList, flatT P d f.type = true := List.all_eq_true.1 hf
      have hpt : ∀ (i : Nat) (y : DataW H × List MemPlace), xs[i]? = some y → ∃ f, fs[i]? = some f ∧ DataW.trod enc P w base sp hd n f.type ((cs.drop f.offset).take (P.cellsOf f.type)) = some y := by
        intro i y hy
        have hi : i < xs.length := by
          rcases Nat.lt_or_ge i xs.length with hh | hh
          · exact hh
          · rw [List.getElem?_eq_none hh] at hy; cases hy
        have hi' : i < fs.size := by omega
        exact ⟨fs[i], Array.getElem?_eq_getElem hi', by rw [hp i fs[i] (Array.getElem?_eq_getElem hi'), hy]⟩
      refine ⟨?_, fun w' base' sp' hd' => ?_⟩
      · show xs.flatMap (·.2) = []
        rw [List.flatMap_eq_nil_iff]
        intro y hy
        obtain ⟨i, hi⟩ := List.mem_iff_getElem?.1 hy
        obtain ⟨f, hf1, hf2⟩ := hpt i y hi
        exact (trod_flat d f.type (hall f (Array.mem_toList_iff.2 (Array.mem_of_getElem? hf1))) hf2).1
      · refine trod_struct_mk ht hl (mapM_pts (by simpa using hlen) fun i f hf1 => ?_)
        have hf1' : fs[i]? = some f := by simpa using hf1
        have hi : i < xs.length := by
          rcases Nat.lt_or_ge i fs.size with hh | hh
          · omega
          · rw [Array.getElem?_eq_none hh] at hf1'; cases hf1'
        have e := hp i f hf1'
        rw [List.getElem?_eq_getElem hi] at e
        rw [List.getElem?_eq_getElem hi]
        exact (trod_flat d f.type (hall f (Array.mem_toList_iff.2 (Array.mem_of_getElem? hf1'))) e).2 w' base' sp' hd'
    · cases hf
theorem Trod_flat {d : Nat} {t : TypeId} (hf : flatT P d t = true) {v : Value} {x : DataW H} {ps : List MemPlace} (h : DataW.Trod enc P w base sp hd t v x ps) :
    ps = [] ∧ ∀ (w' : World) (base' : Nat) (sp' : Nat → Bool) (hd' : Bool), DataW.Trod enc P w' base' sp' hd' t v x [] := by
  obtain ⟨fuel, h⟩ := h
  obtain ⟨h1, h2⟩ := trod_flat d t hf h
  have h1 : ps = [] := h1
  subst h1
  exact ⟨rfl, fun w' base' sp' hd' => ⟨fuel, h2 w' base' sp' hd'⟩⟩

/-! ## The cells of flat values -/
inductive CK where
  | i (k : IntKind)
  | s
  | b
  | q
def cksF (P : Program) (ct : TypeId → Option (List CK)) : List Field → Nat → Option (List CK)
  | [], _ => some []
  | f :: fs, off => if f.offset = off then
      match ct f.type with
      | some a => if a.length = P.cellsOf f.type then (cksF P ct fs (off + a.length)).map (a ++ ·) else none
      | none => none
    else none
/-- The kinds of a flat type's cells. -/
def cksT (P : Program) : Nat → TypeId → Option (List CK)
  | 0, _ => none
  | d + 1, t => match P.underlying t with
    | some (.int k) => some [.i k]
    | some .string => some [.s]
    | some .bool => some [.b]
    | some (.slice _) => some [.q]
    | some (.struct fs) => cksF P (cksT P d) fs.toList 0
    | _ => none
/-- Cells of such kinds. -/
def Fits : List CK → List Value → Prop
  | [], [] => True
  | .i k :: l, c :: cs => (∃ n, c = .int k n ∧ (Lit.int k n).wf = true) ∧ Fits l cs
  | .s :: l, c :: cs => (∃ t : ByteArray, c = .string t ∧ t.size ≤ maxLen) ∧ Fits l cs
  | .b :: l, c :: cs => (∃ x, c = .bool x) ∧ Fits l cs
  | .q :: l, c :: cs => (∃ (b : Option Addr) (n m : Nat), c = .slice b n m) ∧ Fits l cs
  | _, _ => False
theorem Fits.append : ∀ {l m : List CK} {cs ds : List Value}, Fits l cs → Fits m ds → Fits (l ++ m) (cs ++ ds)
  | [], m, [], ds, _, h => h
  | [], m, _ :: _, ds, h, _ => h.elim
  | k :: l, m, [], ds, h, _ => by cases k <;> exact h.elim
  | k :: l, m, c :: cs, ds, h, h' => by
    cases k with
    | i k => exact ⟨h.1, Fits.append h.2 h'⟩
    | s => exact ⟨h.1, Fits.append h.2 h'⟩
    | b => exact ⟨h.1, Fits.append h.2 h'⟩
    | q => exact ⟨h.1, Fits.append h.2 h'⟩
theorem Fits.length : ∀ {l : List CK} {cs : List Value}, Fits l cs → cs.length = l.length
  | [], [], _ => rfl
  | [], _ :: _, h => h.elim
  | k :: l, [], h => by cases k <;> exact h.elim
  | k :: l, c :: cs, h => by
    have : Fits l cs := by cases k <;> exact h.2
    simp [Fits.length this]
theorem cksF_fits {ct : TypeId → Option (List CK)} {cs : List Value} : ∀ (fs : List Field) (off : Nat) (l : List CK), cksF P ct fs off = some l → cs.length = off + l.length →
    (∀ f ∈ fs, ∀ a, ct f.type = some a → Fits a ((cs.drop f.offset).take (P.cellsOf f.type))) → Fits l (cs.drop off)
  | [], off, l, h, hl, _ => by
    have h : some ([] : List CK) = some l := h
    cases h
    rw [List.drop_eq_nil_of_le (by simp at hl; omega)]
    exact True.intro
  | f :: fs, off, l, h, hl, hp => by
    unfold cksF at h
    split at h
    · rename_i ho
      split at h
      · rename_i a ha
        split at h
        · rename_i hc
          simp only [Option.map_eq_some_iff] at h
          obtain ⟨m, hm, rfl⟩ := h
          have h1 := hp f (by simp) a ha
          rw [ho, ← hc] at h1
          have h2 := cksF_fits fs (off + a.length) m hm (by simp at hl; omega) (fun g hg => hp g (by simp [hg]))
          have e : cs.drop off = (cs.drop off).take a.length ++ cs.drop (off + a.length) := by
            rw [← List.drop_drop, List.take_append_drop]
          rw [e]
          exact Fits.append h1 h2
        · cases h
      · cases h
    · cases h
theorem trod_sl {t e : TypeId} {fuel : Nat} {cs : List Value} {x : DataW H × List MemPlace} (ht : P.underlying t = some (.slice e)) (h : DataW.trod enc P w base sp hd fuel t cs = some x) : Fits [.q] cs := by
  rcases DataW.trod_slice ht h with ⟨rfl, _⟩ | ⟨a, len, cap, _, _, _, _, rfl, _⟩
  · exact ⟨⟨none, 0, 0, rfl⟩, True.intro⟩
  · exact ⟨⟨some a, len, cap, rfl⟩, True.intro⟩
theorem trod_fits : ∀ (d : Nat) (t : TypeId) (l : List CK), cksT P d t = some l → l.length = P.cellsOf t → ∀ {fuel : Nat} {cs : List Value} {x : DataW H × List MemPlace}, DataW.trod enc P w base sp hd fuel t cs = some x → Fits l cs
  | 0, t, l, hf, _, _, _, _, _ => by cases hf
  | d + 1, t, l, hf, hlen, fuel, cs, x, h => by
    unfold cksT at hf
    split at hf
    · rename_i k ht
      cases hf
      obtain ⟨n, rfl, _, hw⟩ := DataW.trod_int ht h
      exact ⟨⟨n, rfl, hw⟩, True.intro⟩
    · rename_i ht
      cases hf
      obtain ⟨s, rfl, _, hs⟩ := DataW.trod_string ht h
      exact ⟨⟨s, rfl, hs⟩, True.intro⟩
    · rename_i ht
      cases hf
      obtain ⟨b, rfl, _⟩ := DataW.trod_bool ht h
      exact ⟨⟨b, rfl⟩, True.intro⟩
    · rename_i el ht
      cases hf
      exact trod_sl ht h
    · rename_i fs ht
      obtain ⟨xs, n, rfl, rfl, hl, hxs, hp⟩ := DataW.trod_struct ht h
      refine cksF_fits fs.toList 0 l hf (by rw [hl, hlen]; omega) (fun f hfm a ha => ?_)
      obtain ⟨i, hi⟩ := List.mem_iff_getElem?.1 hfm
      have hi' : fs[i]? = some f := by simpa using hi
      have hlt : i < xs.length := by
        rcases Nat.lt_or_ge i fs.size with hh | hh
        · omega
        · rw [Array.getElem?_eq_none hh] at hi'; cases hi'
      have e := hp i f hi'
      rw [List.getElem?_eq_getElem hlt] at e
      have hal : a.length = P.cellsOf f.type := cksF_len hf f hfm a ha
      exact trod_fits d f.type a ha hal e
    · cases hf
where
  cksF_len {ct : TypeId → Option (List CK)} : ∀ {fs : List Field} {off : Nat} {l : List CK}, cksF P ct fs off = some l → ∀ f ∈ fs, ∀ a, ct f.type = some a → a.length = P.cellsOf f.type
  | [], _, _, _, f, hf, _, _ => by cases hf
  | g :: fs, off, l, h, f, hf, a, ha => by
    unfold cksF at h
    split at h
    · split at h
      · rename_i b hb
        split at h
        · rename_i hc
          simp only [Option.map_eq_some_iff] at h
          obtain ⟨m, hm, rfl⟩ := h
          rcases List.mem_cons.1 hf with rfl | hf
          · rw [hb] at ha; cases ha; exact hc
          · exact cksF_len hm f hf a ha
        · cases h
      · cases h
    · cases h
end
end Ab
