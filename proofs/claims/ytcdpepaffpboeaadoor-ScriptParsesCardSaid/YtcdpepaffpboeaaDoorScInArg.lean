/- A step that came in: what it is. -/
import Derived.Test.YtcdpepaffpboeaaDoorScIn
import Derived.Test.YtcdpepaffpboeaaDoorScLine
import Derived.Deep.Slices
import Derived.ChangeArms
import Derived.ChangeShapes
import Derived.WideShapes
namespace Go.Proofs.YtcdpepaffpboeaaDoor
open Go.ChangeShapes Go.WideShapes Go.RowKit Go.Shelf Go.Deep
theorem c9' : Tryd.prog.cellsOf 9 = 1 := by kernel_rfl
theorem c3' : Tryd.prog.cellsOf 3 = 1 := by kernel_rfl
theorem c4' : Tryd.prog.cellsOf 4 = 1 := by kernel_rfl
theorem c25' : Tryd.prog.cellsOf 25 = 1 := by kernel_rfl
theorem c24' : Tryd.prog.cellsOf 24 = 5 := by kernel_rfl
theorem c27' : Tryd.prog.cellsOf 27 = 11 := by kernel_rfl
theorem wf64 {a : Int} (h : (Lit.int .i64 a).wf = true) : -9223372036854775808 ≤ a ∧ a ≤ 9223372036854775807 := by
  simp only [Lit.wf, Bool.and_eq_true, decide_eq_true_eq] at h
  exact h
theorem cons_of_length {α : Type} {l : List α} {n : Nat} (h : l.length = n + 1) : ∃ a r, l = a :: r ∧ r.length = n := by
  cases l with
  | nil => cases h
  | cons a r => exact ⟨a, r, rfl, by simpa using h⟩
theorem eleven (cs : Array Value) (h : cs.size = 11) : ∃ c0 c1 c2 c3 c4 c5 c6 c7 c8 c9 c10, cs = #[c0, c1, c2, c3, c4, c5, c6, c7, c8, c9, c10] := by
  obtain ⟨l⟩ := cs
  have h : l.length = 10 + 1 := h
  obtain ⟨c0, l, rfl, h0⟩ := cons_of_length h
  obtain ⟨c1, l, rfl, h1⟩ := cons_of_length (n := 9) h0
  obtain ⟨c2, l, rfl, h2⟩ := cons_of_length (n := 8) h1
  obtain ⟨c3, l, rfl, h3⟩ := cons_of_length (n := 7) h2
  obtain ⟨c4, l, rfl, h4⟩ := cons_of_length (n := 6) h3
  obtain ⟨c5, l, rfl, h5⟩ := cons_of_length (n := 5) h4
  obtain ⟨c6, l, rfl, h6⟩ := cons_of_length (n := 4) h5
  obtain ⟨c7, l, rfl, h7⟩ := cons_of_length (n := 3) h6
  obtain ⟨c8, l, rfl, h8⟩ := cons_of_length (n := 2) h7
  obtain ⟨c9, l, rfl, h9⟩ := cons_of_length (n := 1) h8
  obtain ⟨c10, l, rfl, h10⟩ := cons_of_length (n := 0) h9
  obtain rfl := List.length_eq_zero_iff.1 h10
  exact ⟨c0, c1, c2, c3, c4, c5, c6, c7, c8, c9, c10, rfl⟩
section
variable {H : Type} {enc : TypeId × Value → H} {W : World} {base : Nat} {sp : Nat → Bool} {hd : Bool}
theorem one_int {fuel : Nat} {cs : List Value} {xs : List (DataW H × List MemPlace)} {i : Nat} (hi : i < xs.length) (h : DataW.trod enc Tryd.prog W base sp hd fuel 3 cs = xs[i]?) : ∃ n, cs = [.int .i64 n] ∧ -9223372036854775808 ≤ n ∧ n ≤ 9223372036854775807 := by
  rw [List.getElem?_eq_getElem hi] at h
  obtain ⟨n, h1, _, h3⟩ := DataW.trod_int Tryd.underlying3 h
  exact ⟨n, h1, wf64 h3⟩
theorem one_str {fuel : Nat} {cs : List Value} {xs : List (DataW H × List MemPlace)} {i : Nat} (hi : i < xs.length) (h : DataW.trod enc Tryd.prog W base sp hd fuel 9 cs = xs[i]?) : ∃ s, cs = [.string s] := by
  rw [List.getElem?_eq_getElem hi] at h
  obtain ⟨s, h1, _, _⟩ := DataW.trod_string Tryd.underlying9 h
  exact ⟨s, h1⟩
theorem choose_bools (n : Nat) {p : Nat → Bool → Prop} (h : ∀ i, i < n → ∃ b, p i b) : ∃ bs : List Bool, bs.length = n ∧ ∀ i b, bs[i]? = some b → p i b := by
  induction n with
  | zero => exact ⟨[], rfl, fun i b h => by cases h⟩
  | succ n ih =>
    obtain ⟨bs, hl, hp⟩ := ih (fun i hi => h i (by omega))
    obtain ⟨b, hb⟩ := h n (by omega)
    refine ⟨bs ++ [b], by simp [hl], fun i x hx => ?_⟩
    rcases Nat.lt_or_ge i bs.length with hi | hi
    · rw [List.getElem?_append_left hi] at hx
      exact hp i x hx
    · rw [List.getElem?_append_right hi] at hx
      have hlt : i - bs.length < 1 := by
        rcases Nat.lt_or_ge (i - bs.length) 1 with h1 | h1
        · exact h1
        · rw [List.getElem?_eq_none (by simpa using h1)] at hx; cases hx
      have e : i = n := by omega
      subst e
      rw [show i - bs.length = 0 from by omega] at hx
      cases hx
      exact hb
theorem open_bools {fuel : Nat} {cs : List Value} {x : DataW H × List MemPlace} (h : DataW.trod enc Tryd.prog W base sp hd fuel 25 cs = some x) : ∃ o c bs, cs = [.slice o bs.length c] ∧ BoolsIn W o bs := by
  rcases open_slice1 Tryd.underlying25 c4' h with ⟨rfl, _⟩ | ⟨a, len, cap, m, n, V, D, Pl, rfl, _, hlc, hm, hmm, _, hx⟩
  · exact ⟨none, 0, [], rfl, BoolsIn.nil _ _⟩
  · have hlm : len ≤ m := by rw [hmm]; split <;> omega
    obtain ⟨bs, hbl, hbs⟩ := choose_bools len (p := fun i b => W.cell? (a.add i) = some (.bool b)) (fun i hi => by
      obtain ⟨h1, h2⟩ := hx i (by omega)
      obtain ⟨b, hb, _⟩ := DataW.trod_bool Tryd.underlying4 h2
      have : V i = .bool b := by simpa using hb
      exact ⟨b, by rw [h1, this]⟩)
    subst hbl
    refine ⟨some a, cap, bs, rfl, ?_, ?_⟩
    · unfold maxLen at hm; omega
    · rcases Nat.eq_zero_or_pos bs.length with h0 | h0
      · exact .inl (List.length_eq_zero_iff.1 h0)
      · right
        have hc0 := hbs 0 bs[0] (List.getElem?_eq_getElem h0)
        have e0 : a.add 0 = a := by simp [Addr.add]
        rw [e0] at hc0
        have hspot : a.spot = none := by
          cases hs : a.spot with
          | none => rfl
          | some s =>
            unfold World.cell? at hc0
            split at hc0
            · rw [hs] at hc0
              simp at hc0
            · cases hc0
        obtain ⟨g, off, spt⟩ := a
        simp only at hspot
        subst hspot
        refine ⟨g, off, rfl, fun i b hb => ?_⟩
        have := hbs i b hb
        by_cases h0 : i = 0
        · subst h0
          simpa [Addr.add] using this
        · simpa [Addr.add, h0] using this
set_option maxRecDepth 100000 in
/-- A step that came in. -/
theorem open_step {r : Reach} {b0 : Nat} {v : Value} {d : DataW H} {ps : List MemPlace} (hval : Value.okWide Tryd.prog W r b0 27 v) (h : DataW.Trod enc Tryd.prog W base sp hd 27 v d ps) :
    ∃ s : StepR, StepIn W s v ∧ Fits64 s := by
  obtain ⟨fuel, hf⟩ := h
  obtain ⟨xs, n, _, _, hl, hxl, hx⟩ := DataW.trod_struct Tryd.underlying27 hf
  simp only [Value.okWide, Tryd.underlying27] at hval
  obtain ⟨cs, rfl, hcs, _⟩ := hval
  rw [c27'] at hcs
  obtain ⟨c0, c1, c2, c3, c4, c5, c6, c7, c8, c9, c10, rfl⟩ := eleven cs hcs
  have hxl : xs.length = 7 := hxl
  have h0 := hx 0 { name := "Kind", type := 3, offset := 0, embedded := false, tag := "", pkgPath := "", byteOffset := 0 } rfl
  have h1 := hx 1 { name := "Node", type := 3, offset := 1, embedded := false, tag := "", pkgPath := "", byteOffset := 8 } rfl
  have h2 := hx 2 { name := "Call", type := 24, offset := 2, embedded := false, tag := "", pkgPath := "", byteOffset := 16 } rfl
  have h3 := hx 3 { name := "At", type := 3, offset := 7, embedded := false, tag := "", pkgPath := "", byteOffset := 72 } rfl
  have h4 := hx 4 { name := "N", type := 3, offset := 8, embedded := false, tag := "", pkgPath := "", byteOffset := 80 } rfl
  have h5 := hx 5 { name := "Keep", type := 25, offset := 9, embedded := false, tag := "", pkgPath := "", byteOffset := 88 } rfl
  have h6 := hx 6 { name := "Tear", type := 3, offset := 10, embedded := false, tag := "", pkgPath := "", byteOffset := 112 } rfl
  simp only [c3', c24', c25', Value.cells, List.drop_zero, List.drop_succ_cons, List.take_succ_cons, List.take_zero] at h0 h1 h2 h3 h4 h5 h6
  obtain ⟨n0, e0, _⟩ := one_int (by omega) h0
  obtain ⟨n1, e1, f1⟩ := one_int (by omega) h1
  obtain ⟨n3, e3, f3⟩ := one_int (by omega) h3
  obtain ⟨n4, e4, f4⟩ := one_int (by omega) h4
  obtain ⟨n6, e6, f6⟩ := one_int (by omega) h6
  rw [List.getElem?_eq_getElem (by omega)] at h2 h5
  obtain ⟨o, c, bs, e5, hb⟩ := open_bools h5
  obtain ⟨ys, m, _, _, _, hyl, hy⟩ := DataW.trod_struct Tryd.underlying24 h2
  have hyl : ys.length = 5 := hyl
  have g0 := hy 0 { name := "Sess", type := 3, offset := 0, embedded := false, tag := "", pkgPath := "", byteOffset := 0 } rfl
  have g1 := hy 1 { name := "Req", type := 3, offset := 1, embedded := false, tag := "", pkgPath := "", byteOffset := 8 } rfl
  have g2 := hy 2 { name := "Kind", type := 3, offset := 2, embedded := false, tag := "", pkgPath := "", byteOffset := 16 } rfl
  have g3 := hy 3 { name := "Key", type := 9, offset := 3, embedded := false, tag := "", pkgPath := "", byteOffset := 24 } rfl
  have g4 := hy 4 { name := "Val", type := 9, offset := 4, embedded := false, tag := "", pkgPath := "", byteOffset := 40 } rfl
  simp only [c3', c9', List.drop_zero, List.drop_succ_cons, List.take_succ_cons, List.take_zero] at g0 g1 g2 g3 g4
  obtain ⟨m0, k0, q0⟩ := one_int (by omega) g0
  obtain ⟨m1, k1, q1⟩ := one_int (by omega) g1
  obtain ⟨m2, k2, _⟩ := one_int (by omega) g2
  obtain ⟨s3, k3⟩ := one_str (by omega) g3
  obtain ⟨s4, k4⟩ := one_str (by omega) g4
  simp only [List.cons.injEq, and_true] at e0 e1 e3 e4 e5 e6 k0 k1 k2 k3 k4
  subst e0 e1 e3 e4 e5 e6 k0 k1 k2 k3 k4
  exact ⟨{ kind := n0, node := n1, sess := m0, req := m1, ckind := m2, key := s3, val := s4, dest := n3, n := n4, keep := bs, tear := n6 }, ⟨o, c, rfl, hb⟩, ⟨f1, q0, q1, f3, f4, f6⟩⟩
end
end Go.Proofs.YtcdpepaffpboeaaDoor
