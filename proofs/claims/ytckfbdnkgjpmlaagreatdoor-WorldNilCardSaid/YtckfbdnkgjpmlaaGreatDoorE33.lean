/- E, part 33: the row's 'post' of a law that answers true and leaves old memory alone. -/
import Derived.Test.YtckfbdnkgjpmlaaGreatDoorE32
import Derived.ChangeMaps5
namespace Ab
open Go Go.ChangeShapes Go.WideShapes Go.ChangeAt Go.RowKit

/-- What the row asks behind the call, where no place of memory was read: the arguments are plain. -/
theorem post_plain {H : Type} {enc : TypeId × Value → H} {P : Program} {f : Func} {s : ChangeSpec} {apart fresh handsOn again : Bool} {W W' : World} {args : Array Value} {v : Value} {ds gs : List (DataW H)}
    (hW : DataW.Whole enc P f.params.toList s.vars apart W args.toList ds gs []) (hb : Below W.heap.size W W')
    (hres : ∀ (b : Nat) (sp : Nat → Bool) (hd : Bool), DataW.TrodAll enc P W' b sp hd f.resultTypes.toList (v.resultList f.resultTypes.size) (s.fn H (ds ++ gs)).results [])
    (hargs : ∀ sp : Nat → Bool, DataW.TrodAll enc P W' 0 sp true f.params.toList args.toList (s.fn H (ds ++ gs)).args [])
    (hvars : ∀ sp : Nat → Bool, DataW.TrodVars enc P W' sp s.vars (s.fn H (ds ++ gs)).vars [])
    (hok : ∀ (j : Nat) (t : TypeId) (r : Value), f.resultTypes[j]? = some t → (v.resultList f.resultTypes.size)[j]? = some r → Value.okWide P W' .any 0 t r) :
    s.post enc P f apart fresh handsOn again W args v W' := by
  refine ⟨ds, gs, [], [], [], [], hW, hres _ _ _, hargs _, hvars _, hb.frame _, fun _ => ?_⟩
  refine ⟨hok, _, _, [], ⟨[], [], trodAll_append (hargs _) (hres _ _ _), hvars _, rfl, ?_, ?_⟩, ?_⟩
  · intro b off hp
    simp at hp
  · intro ha
    simp
  · intro p hp
    simp at hp
/-- All of a summary's leaves are 'yes'. -/
noncomputable def Sum.allYes (s : Sum) : Bool := Sum.rec (motive := fun _ => Bool) (fun _ => false) true false false (fun _ _ _ x y => bif x then y else false) s
theorem Sum.allYes_at {ρ : Env} : ∀ {s : Sum}, s.allYes = true → Sum.atS ρ s
  | .bad _, h => by cases h
  | .yes, _ => trivial
  | .no, h => by cases h
  | .other, h => by cases h
  | .split c t f, h => by
    have h : (bif t.allYes then f.allYes else false) = true := h
    cases ht : t.allYes with
    | false => rw [ht] at h; cases h
    | true =>
      rw [ht, cond_true] at h
      unfold Sum.atS
      split
      · exact Sum.allYes_at ht
      · exact Sum.allYes_at h
section
variable {H : Type} {enc : TypeId × Value → H} {P : Program} {w : World} {base : Nat} {spare : Nat → Bool} {held : Bool}
theorem trodAll_5 {t0 t1 t2 t3 t4 : TypeId} {args : Array Value} {ds : List (DataW H)} {ps : List MemPlace} (h : DataW.TrodAll enc P w base spare held [t0, t1, t2, t3, t4] args.toList ds ps) :
    ∃ v0 v1 v2 v3 v4 d0 d1 d2 d3 d4 p0 p1 p2 p3 p4, args = #[v0, v1, v2, v3, v4] ∧ ds = [d0, d1, d2, d3, d4] ∧ ps = p0 ++ (p1 ++ (p2 ++ (p3 ++ p4))) ∧ DataW.Trod enc P w base spare held t0 v0 d0 p0 ∧
      DataW.Trod enc P w base spare held t1 v1 d1 p1 ∧ DataW.Trod enc P w base spare held t2 v2 d2 p2 ∧ DataW.Trod enc P w base spare held t3 v3 d3 p3 ∧ DataW.Trod enc P w base spare held t4 v4 d4 p4 := by
  obtain ⟨v0, vs0, d0, ds0, p0, q0, hargs, rfl, rfl, h0, r0⟩ := trodAll_cons h
  obtain ⟨v1, vs1, d1, ds1, p1, q1, rfl, rfl, rfl, h1, r1⟩ := trodAll_cons r0
  obtain ⟨v2, vs2, d2, ds2, p2, q2, rfl, rfl, rfl, h2, r2⟩ := trodAll_cons r1
  obtain ⟨v3, vs3, d3, ds3, p3, q3, rfl, rfl, rfl, h3, r3⟩ := trodAll_cons r2
  obtain ⟨v4, vs4, d4, ds4, p4, q4, rfl, rfl, rfl, h4, r4⟩ := trodAll_cons r3
  obtain ⟨rfl, rfl, rfl⟩ := trodAll_nil r4
  exact ⟨v0, v1, v2, v3, v4, d0, d1, d2, d3, d4, p0, p1, p2, p3, p4, Array.toList_inj.1 hargs, rfl, by simp, h0, h1, h2, h3, h4⟩
theorem trodAll_mk_5 {t0 t1 t2 t3 t4 : TypeId} {v0 v1 v2 v3 v4 : Value} {d0 d1 d2 d3 d4 : DataW H} (h0 : DataW.Trod enc P w base spare held t0 v0 d0 []) (h1 : DataW.Trod enc P w base spare held t1 v1 d1 [])
    (h2 : DataW.Trod enc P w base spare held t2 v2 d2 []) (h3 : DataW.Trod enc P w base spare held t3 v3 d3 []) (h4 : DataW.Trod enc P w base spare held t4 v4 d4 []) :
    DataW.TrodAll enc P w base spare held [t0, t1, t2, t3, t4] [v0, v1, v2, v3, v4] [d0, d1, d2, d3, d4] [] :=
  ⟨[], [], h0, ⟨[], [], h1, trodAll_mk3 h2 h3 h4, rfl⟩, rfl⟩
end
end Ab
