/- E, part 17: append; a text as bytes; ranges. -/
import Derived.Test.YtckfbdnkgjpmlaaGreatDoorE16
import Derived.Laws.AppendOwn
namespace Ab
open Go

variable {P : Program} {cx : Ctx} {ρ : Env}

theorem Sim.keep {L : Nat → Loc} {H : Tr AObj} {w w' : World} (h : Sim L ρ H w) (hh : w'.heap = w.heap) : Sim L ρ H w' :=
  ⟨fun id o ho => (h.at_ id o ho).keep (by rw [hh]), h.inj, h.pin⟩
theorem Turns.weaken {L : Nat → Loc} {st : St} {H0 : Tr AObj} {w w' : World} {v : AV} {st' : St} {x : Value} (hsub : ∀ id o, H0.get id = some o → st.H.get id = some o)
    (h : Turns ρ L ⟨H0, st.nx, st.fx⟩ w v st' x w') : Turns ρ L st w v st' x w' := by
  obtain ⟨L1, ha, hn, hf, r⟩ := h
  exact ⟨L1, ha, hn, ⟨hf.size, hf.os, hf.tape, hf.output, fun b hb hnb => hf.keep b hb (fun id o ho => hnb id o (hsub id o ho)), fun b hb hnb => hf.owns b hb (fun id o ho => hnb id o (hsub id o ho))⟩, r⟩
theorem Turns.move {L : Nat → Loc} {st : St} {w w' : World} {v : AV} {id : Nat} {o0 o : AObj} {x : Value} {c : Obj} {l : Loc} (hs : ∀ L', Agree st.nx L L' → Sim L' ρ st.H w) (hx : FxOk ρ st.fx)
    (h0 : st.H.get id = some o0) (hid : id < st.nx) (hp : WPut w (L id).b c w') (hl : l.b = (L id).b) (hv : ∀ L', Agree st.nx L L' → L' st.nx = l → x = conc L' ρ v)
    (ho : ∀ L', Agree st.nx L L' → L' st.nx = l → ObjAt L' ρ w' l o) : Turns ρ L st w v ⟨(st.H.upd id none).set st.nx o, Nat.succ st.nx, st.fx⟩ x w' := by
  have get : ∀ id' o', ((st.H.upd id none).set st.nx o).get id' = some o' → (id' = st.nx ∧ o' = o) ∨ (id' ≠ st.nx ∧ id' ≠ id ∧ st.H.get id' = some o') := by
    intro id' o' h
    rw [Tr.get_set] at h
    split at h
    · rename_i e
      exact .inl ⟨e, by simpa using h.symm⟩
    · rename_i e
      rw [Tr.get_upd] at h
      split at h
      · cases h
      · rename_i e'
        exact .inr ⟨e, e', h⟩
  refine ⟨fun i => if i = st.nx then l else L i, fun i hi => if_neg (by omega), Nat.le_succ _, ?_, hx, fun L' ha => ?_⟩
  · refine ⟨by rw [hp.size]; exact Nat.le_refl _, hp.os, hp.tape, hp.output, fun b hb hnb => hp.other b (Ne.symm (hnb id o0 h0)), fun b hb hnb id' o' ho' => ?_⟩
    dsimp only at ho' ⊢
    rcases get id' o' ho' with ⟨e, _⟩ | ⟨e, e', h⟩
    · rw [if_pos e, hl]; exact hnb id o0 h0
    · rw [if_neg e]; exact hnb id' o' h
  · have ha0 : Agree st.nx L L' := fun i hi => by rw [ha i (Nat.lt_succ_of_lt hi)]; exact if_neg (by omega)
    have hn0 : L' st.nx = l := by rw [ha st.nx (Nat.lt_succ_self _)]; exact if_pos rfl
    have hsim := hs L' ha0
    have hb : (L' id).b = (L id).b := by rw [ha0 id hid]
    refine ⟨hv L' ha0 hn0, ?_, ?_, hsim.pin⟩
    · intro id' o' h
      rcases get id' o' h with ⟨rfl, rfl⟩ | ⟨e, e', h⟩
      · rw [hn0]; exact ho L' ha0 hn0
      · refine (hsim.at_ id' o' h).keep (hp.other _ ?_)
        rw [← hb]
        exact fun hh => e' (hsim.inj id' id o' o0 h h0 hh)
    · intro i j oi oj hi hj hbb
      rcases get i oi hi with ⟨rfl, rfl⟩ | ⟨ei, ei', hi1⟩ <;> rcases get j oj hj with ⟨rfl, rfl⟩ | ⟨ej, ej', hj1⟩
      · rfl
      · rw [hn0, hl, ← hb] at hbb
        exact absurd (hsim.inj id j o0 oj h0 hj1 hbb).symm ej'
      · rw [hn0, hl, ← hb] at hbb
        exact absurd (hsim.inj i id oi o0 hi1 h0 hbb) ei'
      · exact hsim.inj i j oi oj hi1 hj1 hbb

/-! ## append -/
/-- append where there is no room. -/
theorem run_append_new {t u el ty : TypeId} {ei : TypeInfo} {z : Value} {uds : TypeDesc} (ht : P.underlying t = some (.slice el)) (hu : P.underlying u = some uds) (hui : ∀ k, uds ≠ .int k) (hi : P.info? el = some ei) (hz : ei.zero = some z)
    {w : World} {base : Option Addr} {len cap n : Nat} {x : Value} {old new : List Value} (hn : (Builtin.lenOf x).run P w = .ok n w) (hc : cap < len + n) (hb : (len + n) * (ei.bytes + 1) ≤ 16777216)
    (ho : (Builtin.firstCells ei.size len (.slice base len cap)).run P w.drew = .ok old.toArray w.drew) (hnew : (Builtin.firstCells ei.size n x).run P w.drew = .ok new.toArray w.drew) :
    (Builtin.append_ #[t, u] ty #[.slice base len cap, x]).run P w = .ok (.slice (some ⟨w.heap.size, 0, none⟩) (len + n) (grownCap w (len + n) cap el))
      { w.drew with heap := w.drew.heap.push (.cells ((old ++ new).toArray ++ Builtin.zeroCells z.cells (grownCap w (len + n) cap el - (len + n))) el) } := by
  rw [Nat.mul_add] at hb
  have h63 : ¬ (IntKind.i64.max < ((len + n : Nat) : Int)) := by rw [IntKind.max_i64]; omega
  have hfit : ¬ (2 ^ 48 < Builtin.nextslicecap (len + n) cap * ei.bytes) := by
    have := growslice_fits (bytes := ei.bytes) hc (by omega)
    omega
  have h63' : ¬ (9223372036854775807 < ((len : Int) + (n : Int))) := by omega
  have hle : ¬ (len + n ≤ cap) := by omega
  simp [Builtin.append_, run_underlying ht, run_underlying hu, Go.sizeOf, typeInfo, zeroValue, hi, hz, hn, hle, h63', hfit, Question.forced, ho, hnew, newRow, grownCap]
  show w.drew.alloc _ = w.drew.alloc _
  congr 2
  rw [← Array.append_assoc]
  simp
/-- append where there is room. -/
theorem run_append_in {t u el ty : TypeId} {ei : TypeInfo} {uds : TypeDesc} (ht : P.underlying t = some (.slice el)) (hu : P.underlying u = some uds) (hui : ∀ k, uds ≠ .int k) (hi : P.info? el = some ei)
    {w w' : World} {base : Option Addr} {len cap n : Nat} {x : Value} {new : List Value} (hn : (Builtin.lenOf x).run P w = .ok n w) (hc : len + n ≤ cap)
    (hnew : (Builtin.firstCells ei.size n x).run P w = .ok new.toArray w)
    (hst : match base with | none => w' = w | some a => (storeCells (a.add (len * ei.size)) new).run P w = .ok () w') :
    (Builtin.append_ #[t, u] ty #[.slice base len cap, x]).run P w = .ok (.slice base (len + n) cap) w' := by
  cases base with
  | none =>
    simp only at hst
    subst hst
    simp [Builtin.append_, run_underlying ht, run_underlying hu, Go.sizeOf, typeInfo, hi, hn, hc, hnew]
  | some a =>
    simp only at hst
    simp [Builtin.append_, run_underlying ht, run_underlying hu, Go.sizeOf, typeInfo, hi, hn, hc, hnew, hst]
end Ab
