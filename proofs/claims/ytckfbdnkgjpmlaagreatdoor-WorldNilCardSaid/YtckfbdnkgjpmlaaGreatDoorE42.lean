/- E, part 42: a laid package variable of three whole numbers; flat parameters opened. -/
import Derived.Test.YtckfbdnkgjpmlaaGreatDoorE41
import Derived.ProofKit
namespace Ab
open Go Go.ChangeShapes Go.WideShapes Go.ChangeAt Go.ChangeMaps Go.RowKit

theorem drop_take1 {α : Type} {x : α} : ∀ {l : List α} {i : Nat}, l[i]? = some x → (l.drop i).take 1 = [x]
  | [], i, h => by simp at h
  | y :: l, 0, h => by simp at h; simp [h]
  | y :: l, i + 1, h => by simpa using drop_take1 (l := l) (i := i) (by simpa using h)
/-- What a variable of three whole numbers holds, where the card lays it. -/
theorem laid_three {P : Program} {W : World} {name : String} {g t : Nat} {f0 f1 f2 : Field} {x y z : Int} (h : laidMetH P [(name, .agg [.lit (.int .i64 x), .lit (.int .i64 y), .lit (.int .i64 z)])] W)
    (hg : P.globalNamed name = some g) (ht : (P.globals[g]?).map (·.type) = some t) (hu : P.underlying t = some (.struct #[f0, f1, f2])) (u0 : P.underlying f0.type = some (.int .i64)) (u1 : P.underlying f1.type = some (.int .i64))
    (u2 : P.underlying f2.type = some (.int .i64)) (o0 : f0.offset = 0) (o1 : f1.offset = 1) (o2 : f2.offset = 2) (c : P.cellsOf t = 3) (c0 : P.cellsOf f0.type = 1) (c1 : P.cellsOf f1.type = 1) (c2 : P.cellsOf f2.type = 1) :
    ∃ q : TypeId × (Nat × Nat), W.heap[g]? = some (.cells #[.int .i64 x, .int .i64 y, .int .i64 z] q.1 q.2) := by
  have h : laidMet P [(name, .agg [.lit (.int .i64 x), .lit (.int .i64 y), .lit (.int .i64 z)])] W := h
  obtain ⟨ps, ⟨g0, t0, cs0, fu, p0, q0, hg0, ht0, hv0, hd0, _⟩, _, _⟩ := h
  obtain rfl := Option.some.inj (hg.symm.trans hg0)
  obtain rfl := Option.some.inj (ht.symm.trans ht0)
  obtain ⟨xs, n, _, hx, hl, hlen, hf⟩ := DataW.trod_struct hu hd0
  have hcs : cs0 = #[.int .i64 x, .int .i64 y, .int .i64 z] := by
    rw [c] at hl
    match xs, hlen with
    | [y0, y1, y2], _ =>
      have e0 := hf 0 f0 rfl
      have e1 := hf 1 f1 rfl
      have e2 := hf 2 f2 rfl
      rw [c0, o0] at e0
      rw [c1, o1] at e1
      rw [c2, o2] at e2
      obtain ⟨l⟩ := cs0
      match l, hl with
      | [a0, a1, a2], _ =>
        obtain ⟨n0, b0, d0, _⟩ := DataW.trod_int u0 e0
        obtain ⟨n1, b1, d1, _⟩ := DataW.trod_int u1 e1
        obtain ⟨n2, b2, d2, _⟩ := DataW.trod_int u2 e2
        simp at b0 b1 b2
        subst b0 b1 b2 d0 d1 d2
        simp at hx
        obtain ⟨⟨rfl, rfl, rfl⟩, _⟩ := hx
        rfl
  subst hcs
  unfold World.var? at hv0
  rw [hg] at hv0
  simp only [Option.bind_some] at hv0
  split at hv0
  · rename_i cs el fz hb
    simp only [Option.some.injEq] at hv0
    subst hv0
    exact ⟨(el, fz), hb⟩
  · cases hv0
/-- A flat parameter of some cells: what it is. -/
theorem open_flat {H : Type} {enc : TypeId × Value → H} {P : Program} {w : World} {base b0 : Nat} {sp : Nat → Bool} {hd : Bool} {r : Reach} {t : TypeId} {fs : Array Field} {l : List CK} (hu : P.underlying t = some (.struct fs)) (hl : cksT P 4 t = some l) (hc : l.length = P.cellsOf t)
    {v : Value} {d : DataW H} {ps : List MemPlace} (hval : Value.okWide P w r b0 t v) (h : DataW.Trod enc P w base sp hd t v d ps) : ∃ cs : List Value, v = .agg cs.toArray ∧ Fits l cs := by
  obtain ⟨fuel, hf⟩ := h
  simp only [Value.okWide, hu] at hval
  obtain ⟨cs, rfl, hcs, _⟩ := hval
  exact ⟨cs.toList, by simp, trod_fits 4 t l hl hc hf⟩
end Ab
