/- A list of steps that came in: what it is. -/
import Derived.Test.YtcdpepaffpboeaaDoorScInArg
import Derived.Test.YtcdpepaffpboeaaDoorScParses
import Derived.SizedLaws
namespace Go.Proofs.YtcdpepaffpboeaaDoor
open Go.ChangeShapes Go.WideShapes Go.RowKit Go.Shelf Go.Deep
theorem b4' : Tryd.prog.bytesOf 4 = 1 := by kernel_rfl
section
variable {H : Type} {enc : TypeId × Value → H} {W : World} {base : Nat} {sp : Nat → Bool} {hd : Bool}
theorem weightsAll_mem {H : Type} {P : Program} {e : TypeId} : ∀ {l : List (DataW H)} {d : DataW H}, d ∈ l → ∀ n ∈ d.weights P e, n ∈ DataW.weightsAll P e l
  | d' :: r, d, hd, n, hn => by
    simp only [DataW.weightsAll, List.mem_append]
    rcases List.mem_cons.1 hd with rfl | h
    · exact Or.inl hn
    · exact Or.inr (weightsAll_mem h n hn)
theorem one_str2 {fuel : Nat} {cs : List Value} {xs : List (DataW H × List MemPlace)} {i : Nat} (hi : i < xs.length) (h : DataW.trod enc Tryd.prog W base sp hd fuel 9 cs = xs[i]?) : ∃ s : ByteArray, cs = [.string s] ∧ (xs.map (·.1))[i]? = some (.lit (.string s.data.toList)) := by
  rw [List.getElem?_eq_getElem hi] at h
  obtain ⟨s, h1, h2, _⟩ := DataW.trod_string Tryd.underlying9 h
  exact ⟨s, h1, by rw [List.getElem?_map, List.getElem?_eq_getElem hi, h2]; rfl⟩
theorem open_bools2 {fuel : Nat} {cs : List Value} {x : DataW H × List MemPlace} (h : DataW.trod enc Tryd.prog W base sp hd fuel 25 cs = some x) : ∃ o c bs, cs = [.slice o bs.length c] ∧ BoolsIn W o bs ∧ ((∀ n ∈ x.1.weights Tryd.prog 25, n ≤ reachBytes) → bs.length ≤ reachBytes) := by
  obtain ⟨o, c, bs, hcs, hb⟩ := open_bools h
  refine ⟨o, c, bs, hcs, hb, fun hw => ?_⟩
  rcases open_slice1 Tryd.underlying25 c4' h with ⟨h1, _⟩ | ⟨a, len, cap, m, n, V, D, Pl, h1, _, _, _, _, hx, _⟩
  · rw [hcs] at h1
    simp only [List.cons.injEq, Value.slice.injEq, and_true] at h1
    rw [h1.2.1]
    exact Nat.zero_le _
  · rw [hcs] at h1
    simp only [List.cons.injEq, Value.slice.injEq, and_true] at h1
    rw [hx] at hw
    have := hw _ (by simp only [DataW.weights, Tryd.underlying25]; exact List.mem_cons_self)
    rw [b4', List.length_map, List.length_range] at this
    omega
set_option maxRecDepth 100000 in
/-- The cells of a step. -/
theorem open_cells {fuel : Nat} {cs : List Value} {x : DataW H × List MemPlace} (hf : DataW.trod enc Tryd.prog W base sp hd fuel 27 cs = some x) (hw : ∀ n ∈ x.1.weights Tryd.prog 27, n ≤ reachBytes) :
    ∃ (s : StepR) (o : Option Addr) (c : Nat), cs = (s.cells (.slice o s.keep.length c)).toList ∧ BoolsIn W o s.keep ∧ Big s := by
  obtain ⟨xs, n, _, hxe, hl, hxl, hx⟩ := DataW.trod_struct Tryd.underlying27 hf
  rw [c27'] at hl
  obtain ⟨c0, c1, c2, c3, c4, c5, c6, c7, c8, c9, c10, he⟩ := eleven cs.toArray hl
  have he : cs = [c0, c1, c2, c3, c4, c5, c6, c7, c8, c9, c10] := congrArg Array.toList he
  subst he
  have hxl : xs.length = 7 := hxl
  have h0 := hx 0 { name := "Kind", type := 3, offset := 0, embedded := false, tag := "", pkgPath := "", byteOffset := 0 } rfl
  have h1 := hx 1 { name := "Node", type := 3, offset := 1, embedded := false, tag := "", pkgPath := "", byteOffset := 8 } rfl
  have h2 := hx 2 { name := "Call", type := 24, offset := 2, embedded := false, tag := "", pkgPath := "", byteOffset := 16 } rfl
  have h3 := hx 3 { name := "At", type := 3, offset := 7, embedded := false, tag := "", pkgPath := "", byteOffset := 72 } rfl
  have h4 := hx 4 { name := "N", type := 3, offset := 8, embedded := false, tag := "", pkgPath := "", byteOffset := 80 } rfl
  have h5 := hx 5 { name := "Keep", type := 25, offset := 9, embedded := false, tag := "", pkgPath := "", byteOffset := 88 } rfl
  have h6 := hx 6 { name := "Tear", type := 3, offset := 10, embedded := false, tag := "", pkgPath := "", byteOffset := 112 } rfl
  simp only [c3', c24', c25', List.drop_zero, List.drop_succ_cons, List.take_succ_cons, List.take_zero] at h0 h1 h2 h3 h4 h5 h6
  obtain ⟨n0, e0, _⟩ := one_int (by omega) h0
  obtain ⟨n1, e1, f1⟩ := one_int (by omega) h1
  obtain ⟨n3, e3, f3⟩ := one_int (by omega) h3
  obtain ⟨n4, e4, f4⟩ := one_int (by omega) h4
  obtain ⟨n6, e6, f6⟩ := one_int (by omega) h6
  have hw' : ∀ n ∈ DataW.weightsEach Tryd.prog [3, 3, 24, 3, 3, 25, 3] (xs.map (·.1)), n ≤ reachBytes := by
    intro n hn
    refine hw n ?_
    rw [hxe]
    simp only [DataW.weights, Tryd.underlying27]
    exact hn
  have x2 : (xs.map (·.1))[2]? = some (xs[2]'(by omega)).1 := by rw [List.getElem?_map, List.getElem?_eq_getElem (by omega)]; rfl
  have x5 : (xs.map (·.1))[5]? = some (xs[5]'(by omega)).1 := by rw [List.getElem?_map, List.getElem?_eq_getElem (by omega)]; rfl
  have w2 : ∀ n ∈ (xs[2]'(by omega)).1.weights Tryd.prog 24, n ≤ reachBytes := fun n hn => hw' n (DataW.weights_mem_each (j := 2) rfl x2 n hn)
  have w5 : ∀ n ∈ (xs[5]'(by omega)).1.weights Tryd.prog 25, n ≤ reachBytes := fun n hn => hw' n (DataW.weights_mem_each (j := 5) rfl x5 n hn)
  rw [List.getElem?_eq_getElem (by omega)] at h2 h5
  obtain ⟨o, c, bs, e5, hb, hbl⟩ := open_bools2 h5
  have hbl := hbl w5
  obtain ⟨ys, m, _, hye, _, hyl, hy⟩ := DataW.trod_struct Tryd.underlying24 h2
  have hyl : ys.length = 5 := hyl
  have g0 := hy 0 { name := "Sess", type := 3, offset := 0, embedded := false, tag := "", pkgPath := "", byteOffset := 0 } rfl
  have g1 := hy 1 { name := "Req", type := 3, offset := 1, embedded := false, tag := "", pkgPath := "", byteOffset := 8 } rfl
  have g2 := hy 2 { name := "Kind", type := 3, offset := 2, embedded := false, tag := "", pkgPath := "", byteOffset := 16 } rfl
  have g3 := hy 3 { name := "Key", type := 9, offset := 3, embedded := false, tag := "", pkgPath := "", byteOffset := 24 } rfl
  have g4 := hy 4 { name := "Val", type := 9, offset := 4, embedded := false, tag := "", pkgPath := "", byteOffset := 40 } rfl
  simp only [c3', c9', List.drop_zero, List.drop_succ_cons, List.take_succ_cons, List.take_zero] at g0 g1 g2 g3 g4
  have hv' : ∀ n ∈ DataW.weightsEach Tryd.prog [3, 3, 3, 9, 9] (ys.map (·.1)), n ≤ reachBytes := by
    intro n hn
    refine w2 n ?_
    rw [hye]
    simp only [DataW.weights, Tryd.underlying24]
    exact hn
  obtain ⟨m0, k0, q0⟩ := one_int (by omega) g0
  obtain ⟨m1, k1, q1⟩ := one_int (by omega) g1
  obtain ⟨m2, k2, _⟩ := one_int (by omega) g2
  obtain ⟨s3, k3, z3⟩ := one_str2 (by omega) g3
  obtain ⟨s4, k4, z4⟩ := one_str2 (by omega) g4
  have v3 : s3.data.toList.length ≤ reachBytes := hv' _ (DataW.weights_mem_each (j := 3) rfl z3 _ (by simp [DataW.weights]))
  have v4 : s4.data.toList.length ≤ reachBytes := hv' _ (DataW.weights_mem_each (j := 4) rfl z4 _ (by simp [DataW.weights]))
  rw [size_list] at v3 v4
  have hr : reachBytes = 140737488351232 := rfl
  rw [hr] at v3 v4 hbl
  simp only [List.cons.injEq, and_true] at e0 e1 e3 e4 e5 e6 k0 k1 k2 k3 k4
  subst e0 e1 e3 e4 e5 e6 k0 k1 k2 k3 k4
  exact ⟨{ kind := n0, node := n1, sess := m0, req := m1, ckind := m2, key := s3, val := s4, dest := n3, n := n4, keep := bs, tear := n6 }, o, c, rfl, hb, ⟨f1, q0, q1, f3, f4, f6⟩, by show s3.size ≤ _; omega, by show s4.size ≤ _; omega, by show bs.length ≤ _; omega⟩
theorem choose_steps (n : Nat) {p : Nat → StepR → Prop} (h : ∀ i, i < n → ∃ b, p i b) : ∃ bs : List StepR, bs.length = n ∧ ∀ i b, bs[i]? = some b → p i b := by
  induction n with
  | zero => exact ⟨[], rfl, fun i b h => by cases h⟩
  | succ n ih =>
    obtain ⟨bs, hl, hp⟩ := ih (fun i hi => h i (by omega))
    obtain ⟨b, hb⟩ := h n (by omega)
    refine ⟨bs ++ [b], by simp [hl], fun i x hx => ?_⟩
    rcases Nat.lt_or_ge i bs.length with hi | hi
    · rw [List.getElem?_append_left hi] at hx
      exact hp i x hx
    · rw [List.getElem?_append_right hi] at hx
      have hlt : i - bs.length < 1 := by
        rcases Nat.lt_or_ge (i - bs.length) 1 with h1 | h1
        · exact h1
        · rw [List.getElem?_eq_none (by simpa using h1)] at hx; cases hx
      have e : i = n := by omega
      subst e
      rw [show i - bs.length = 0 from by omega] at hx
      cases hx
      exact hb
set_option maxRecDepth 100000 in
/-- A list of steps. -/
theorem open_list {v : Value} {r : Reach} {b0 : Nat} {d : DataW H} {ps : List MemPlace} (hval : Value.okWide Tryd.prog W r b0 38 v) (h : DataW.Trod enc Tryd.prog W base sp hd 38 v d ps) (hw : ∀ n ∈ d.weights Tryd.prog 38, n ≤ reachBytes) :
    ∃ (o : Option Addr) (c : Nat) (rs : List StepR), v = .slice o rs.length c ∧ ListIn W o rs := by
  obtain ⟨a0, len, cap, rfl⟩ := okWide_slice Tryd.underlying38 hval
  obtain ⟨fuel, hf⟩ := h
  rcases open_slice Tryd.underlying38 hf with ⟨h1, _⟩ | ⟨a, len', cap', m, n, D, Pl, h1, _, hlc, _, hmm, hx, hi⟩
  · have h1 : [Value.slice a0 len cap] = [.slice none 0 0] := h1
    simp only [List.cons.injEq, Value.slice.injEq, and_true] at h1
    obtain ⟨rfl, rfl, rfl⟩ := h1
    exact ⟨none, 0, [], rfl, fun i r h => by cases h⟩
  · have h1 : [Value.slice a0 len cap] = [.slice (some a) len' cap'] := h1
    simp only [List.cons.injEq, Value.slice.injEq, and_true] at h1
    obtain ⟨rfl, rfl, rfl⟩ := h1
    have hlm : len ≤ m := by rw [hmm]; split <;> omega
    have hd : d = .slice ((List.range len).map D) ((List.range (m - len)).map fun j => D (len + j)) := congrArg Prod.fst hx
    have hwi : ∀ i, i < len → ∀ n ∈ (D i).weights Tryd.prog 27, n ≤ reachBytes := fun i hi n hn => by
      refine hw n ?_
      rw [hd]
      simp only [DataW.weights, Tryd.underlying38]
      refine List.mem_cons_of_mem _ (List.mem_append_left _ (weightsAll_mem (d := D i) ?_ n hn))
      exact List.mem_map.2 ⟨i, List.mem_range.2 hi, rfl⟩
    rcases Nat.eq_zero_or_pos len with h0 | h0
    · subst h0
      exact ⟨some a, cap, [], rfl, fun i r h => by cases h⟩
    have hspot : a.spot = none := by
      obtain ⟨cs', hc, _⟩ := hi 0 (by omega)
      rw [c27'] at hc
      obtain ⟨_, hclen, hcell⟩ := World.cells?_some hc
      have h2 := hcell 0 (by omega)
      have e0 : (a.add (0 * 11)).add 0 = a := by simp [Addr.add]
      rw [e0, List.getElem?_eq_getElem (by omega)] at h2
      cases hs : a.spot with
      | none => rfl
      | some s =>
        unfold World.cell? at h2
        split at h2
        · rw [hs] at h2
          simp at h2
        · cases h2
    obtain ⟨g, off, spt⟩ := a
    simp only at hspot
    subst hspot
    obtain ⟨rs, hrl, hrs⟩ := choose_steps len (p := fun i s => ∃ o' c', (∀ (j : Nat) v, (s.cells (.slice o' s.keep.length c')).toList[j]? = some v → W.cell? ⟨g, off + i * 11 + j, none⟩ = some v) ∧ BoolsIn W o' s.keep ∧ Big s) (fun i hi' => by
      obtain ⟨cs', hc, ht⟩ := hi i (by omega)
      obtain ⟨s, o', c', hcs, hbools, hbig⟩ := open_cells ht (hwi i hi')
      rw [c27'] at hc
      obtain ⟨_, hclen, hcell⟩ := World.cells?_some hc
      refine ⟨s, o', c', fun j v hv => ?_, hbools, hbig⟩
      have hj : j < 11 := by
        rw [← hclen, hcs]
        exact (List.getElem?_eq_some_iff.1 hv).1
      have h2 := hcell j hj
      rw [Addr.add_mid, Addr.add_mid, hcs, hv] at h2
      exact h2)
    subst hrl
    refine ⟨some ⟨g, off, none⟩, cap, rs, rfl, fun i r hr => ?_⟩
    obtain ⟨o', c', h1, h2, h3⟩ := hrs i r hr
    exact ⟨g, off, o', c', rfl, h1, h2, h3⟩
end
end Go.Proofs.YtcdpepaffpboeaaDoor
