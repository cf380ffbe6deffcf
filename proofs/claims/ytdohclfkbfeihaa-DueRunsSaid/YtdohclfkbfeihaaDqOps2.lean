/- Steps of the law that came in: what they are. -/
import Derived.Test.YtdohclfkbfeihaaDqRunP
namespace Go.Proofs.Ytdohclfkbfeihaa
open Go.ChangeShapes Go.WideShapes Go.ChangeAt Go.ChangeMaps Go.RowKit Go.Deep
theorem Try.cells44 : Try.prog.cellsOf 44 = 5 := by kernel_rfl
section
variable {H : Type} {enc : TypeId × Value → H} {W : World} {base : Nat} {sp : Nat → Bool} {hd : Bool}
theorem open_op {fuel : Nat} {cs : List Value} {x : DataW H × List MemPlace} (hf : DataW.trod enc Try.prog W base sp hd fuel 44 cs = some x) : ∃ o : OpR, cs = o.cells.toList ∧ o.y.wf := by
  obtain ⟨xs, n, _, _, hl, hxl, hx⟩ := DataW.trod_struct Try.underlying44 hf
  rw [Try.cells44] at hl
  obtain ⟨c0, l, rfl, h0⟩ := cons_of_length hl
  obtain ⟨c1, l, rfl, h1⟩ := cons_of_length (n := 3) h0
  obtain ⟨c2, l, rfl, h2⟩ := cons_of_length (n := 2) h1
  obtain ⟨c3, l, rfl, h3⟩ := cons_of_length (n := 1) h2
  obtain ⟨c4, l, rfl, h4⟩ := cons_of_length (n := 0) h3
  obtain rfl := List.length_eq_zero_iff.1 h4
  have hxl : xs.length = 4 := hxl
  have g0 := hx 0 { name := "K", type := 3, offset := 0, embedded := false, tag := "", pkgPath := "", byteOffset := 0 } rfl
  have g1 := hx 1 { name := "Kind", type := 3, offset := 1, embedded := false, tag := "", pkgPath := "", byteOffset := 8 } rfl
  have g2 := hx 2 { name := "Tid", type := 30, offset := 2, embedded := false, tag := "", pkgPath := "", byteOffset := 16 } rfl
  have g3 := hx 3 { name := "At", type := 3, offset := 4, embedded := false, tag := "", pkgPath := "", byteOffset := 32 } rfl
  simp only [Try.cells3, Try.cells30, List.drop_zero, List.drop_succ_cons, List.take_succ_cons, List.take_zero] at g0 g1 g2 g3
  obtain ⟨n0, e0, w0⟩ := one_num Try.underlying3 (by omega) g0
  obtain ⟨n1, e1, w1⟩ := one_num Try.underlying3 (by omega) g1
  obtain ⟨n4, e4, w4⟩ := one_num Try.underlying3 (by omega) g3
  rw [List.getElem?_eq_getElem (by omega)] at g2
  obtain ⟨n2, n3, e2, w2, w3⟩ := open_tid2 g2
  simp only [List.cons.injEq, and_true] at e0 e1 e2 e4
  obtain ⟨e2, e3⟩ := e2
  subst e0 e1 e2 e3 e4
  exact ⟨⟨n0, ⟨n4, n1, n2, n3⟩⟩, rfl, w4, w1, w2, w3⟩
theorem open_ops {v : Value} {r : Reach} {b0 : Nat} {d : DataW H} {ps : List MemPlace} (hval : Value.okWide Try.prog W r b0 42 v) (h : DataW.Trod enc Try.prog W base sp hd 42 v d ps) :
    ∃ (o : Option Addr) (cp : Nat) (rs : List OpR), v = .slice o rs.length cp ∧ OpsIn W o rs := by
  obtain ⟨o, cp, rs, hv, hr⟩ := open_rows Try.underlying42 Try.cells44 (by decide) (fun e : OpR => e.cells.toList) (fun o => o.y.wf) open_op hval h
  refine ⟨o, cp, rs, hv, fun i e he => ?_⟩
  obtain ⟨g, off, ho, wf, hc⟩ := hr i e he
  exact ⟨g, off, ho, wf, hc 0 _ rfl, hc 1 _ rfl, hc 2 _ rfl, hc 3 _ rfl, hc 4 _ rfl⟩
end
end Go.Proofs.Ytdohclfkbfeihaa
