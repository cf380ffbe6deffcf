/- E, part 44: the row's 'post' where the arguments hold slices: old memory is left alone, so they read as they did. -/
import Derived.Test.YtckfbdnkgjpmlaaGreatDoorE43
import Derived.Carry
namespace Ab
open Go Go.ChangeShapes Go.WideShapes Go.ChangeAt Go.ChangeMaps Go.RowKit

section
variable {H : Type} {enc : TypeId × Value → H} {P : Program}
theorem trodAll_stays (hl : laidOutB P = true) {W W' : World} {sp' : Nat → Bool} : ∀ {ts : List TypeId} {vs : List Value} {ds : List (DataW H)} {ps : List MemPlace}, (∀ t ∈ ts, P.readableRec t = true ∧ t < P.types.size) →
    DataW.TrodAll enc P W 0 (fun _ => true) true ts vs ds ps → (∀ p ∈ ps, W.sameAt W' p) → (∀ p ∈ ps, sp' p.block = true) → DataW.TrodAll enc P W' 0 sp' true ts vs ds ps
  | [], _, _, _, _, h, _, _ => by
    obtain ⟨rfl, rfl, rfl⟩ := trodAll_nil h
    exact rfl
  | t :: ts, _, _, _, ht, h, hs, hp => by
    obtain ⟨v, vs1, d, ds1, a, b, rfl, rfl, rfl, h1, h2⟩ := trodAll_cons h
    exact ⟨a, b, WideElems.Trod_stays hl (ht t List.mem_cons_self).1 (ht t List.mem_cons_self).2 h1 (fun p hp' => hs p (List.mem_append_left _ hp')) (fun p hp' => hp p (List.mem_append_left _ hp')),
      trodAll_stays hl (fun u hu => ht u (List.mem_cons_of_mem _ hu)) h2 (fun p hp' => hs p (List.mem_append_right _ hp')) (fun p hp' => hp p (List.mem_append_right _ hp')), rfl⟩
theorem frozen_below {W W' : World} (hb : Below W.heap.size W W') {a : Addr} (ha : a.block < W.heap.size) : W'.frozen? a = W.frozen? a := by
  unfold World.frozen?
  rw [hb.block a.block ha]
/-- What the row asks behind the call: the arguments, whatever they hold, read as they did. -/
theorem post_old {f : Func} {s : ChangeSpec} {apart fresh handsOn again : Bool} {W W' : World} {args : Array Value} {v : Value} {ds : List (DataW H)} {before : List MemPlace}
    (hl : laidOutB P = true) (ht : ∀ t ∈ f.params.toList, P.readableRec t = true ∧ t < P.types.size) (hvs : s.vars = [])
    (hW : DataW.Whole enc P f.params.toList s.vars apart W args.toList ds [] before) (hA : DataW.TrodAll enc P W 0 (fun _ => true) true f.params.toList args.toList ds before) (hb : Below W.heap.size W W')
    (hargs : (s.fn H (ds ++ [])).args = ds) (hsv : (s.fn H (ds ++ [])).vars = [])
    (hres : ∀ (b : Nat) (sp : Nat → Bool) (hd : Bool), DataW.TrodAll enc P W' b sp hd f.resultTypes.toList (v.resultList f.resultTypes.size) (s.fn H (ds ++ [])).results [])
    (hok : ∀ (j : Nat) (t : TypeId) (r : Value), f.resultTypes[j]? = some t → (v.resultList f.resultTypes.size)[j]? = some r → Value.okWide P W' .any 0 t r) :
    s.post enc P f apart fresh handsOn again W args v W' := by
  have hlt := hW.lt
  have stay : ∀ sp : Nat → Bool, (∀ p ∈ before, sp p.block = true) → DataW.TrodAll enc P W' 0 sp true f.params.toList args.toList (s.fn H (ds ++ [])).args before := fun sp hsp => by
    rw [hargs]
    exact trodAll_stays hl ht hA (fun p hp => hb.same (hlt p hp)) hsp
  have vars : ∀ sp : Nat → Bool, DataW.TrodVars enc P W' sp s.vars (s.fn H (ds ++ [])).vars [] := fun sp => by
    rw [hvs, hsv]
    exact rfl
  refine ⟨ds, [], before, [], before, [], hW, hres _ _ _, stay _ (fun p hp => by simpa using hlt p hp), vars _, hb.frame _, fun _ => ?_⟩
  obtain ⟨pa, pv, _, _, e, hz, hn⟩ := hW
  refine ⟨hok, _, _, ([] ++ before) ++ [], ⟨[] ++ before, [], trodAll_append (stay _ (fun _ _ => rfl)) (hres _ _ _), vars _, rfl, ?_, ?_⟩, ?_⟩
  · intro b off hp
    have hp : MemPlace.cell b off ∈ before := by simpa using hp
    rw [frozen_below hb (a := ⟨b, off, none⟩) (hlt _ hp)]
    exact hz b off hp
  · intro ha
    simpa using hn ha
  · intro p hp _
    simpa using hp
/-- A slice among the parameters: what it is. -/
theorem open_sl {w : World} {base b0 : Nat} {sp : Nat → Bool} {hd : Bool} {r : Reach} {t e : TypeId} (hu : P.underlying t = some (.slice e)) {v : Value} {d : DataW H} {ps : List MemPlace}
    (hval : Value.okWide P w r b0 t v) (h : DataW.Trod enc P w base sp hd t v d ps) : ∃ (b : Option Addr) (n m : Nat), v = .slice b n m := by
  obtain ⟨fuel, hf⟩ := h
  have hfit := trod_sl hu hf
  have hc : Cell.okWide P w r b0 t v := by
    unfold Value.okWide at hval
    rw [hu] at hval
    exact hval
  cases v
  case agg cs =>
    exfalso
    unfold Cell.okWide at hc
    rw [hu] at hc
    have hc : Cell.ok P w r b0 t (.agg cs) := hc
    unfold Cell.ok at hc
    rw [hu] at hc
    exact hc
  case tuple cs =>
    exfalso
    unfold Cell.okWide at hc
    rw [hu] at hc
    have hc : Cell.ok P w r b0 t (.tuple cs) := hc
    unfold Cell.ok at hc
    rw [hu] at hc
    exact hc
  all_goals (obtain ⟨⟨b, n, m, e⟩, _⟩ := hfit; exact ⟨b, n, m, e⟩)
end
end Ab
