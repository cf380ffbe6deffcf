/- Entries as keys of a map; a map of entries as a set. -/
import Derived.Test.YtdohclfkbfeihaaDqArg
import Derived.Maps.RangeWalk
namespace Go.Proofs.Ytdohclfkbfeihaa
open Go.RowKit Go.Maps
def Ent.el (e : Ent) : Lit := .string (keyBytes [.int .i64 e.t, .int .i64 e.k, .int .u64 e.n, .int .i64 e.o])
theorem Try.row32 : (32 : TypeId) < Try.prog.types.size := of_decide_eq_true (by kernel_rfl)
theorem Try.law32 : WideMaps.KeyLaw Try.prog 32 := deep_law_laid Try.laidOut (m := 5) (by omega) Try.row32 (by kernel_rfl) (by rw [Try.underlying32])
theorem Try.keyed32 : Keyed Try.prog 32 := Keyed.of_law Try.law32
theorem Try.keyType32 : Try.prog.keyType 32 = true := by kernel_rfl
theorem Try.zero4 (w : World) : (zeroValue 4).run Try.prog w = .ok (.bool false) w := by kernel_rfl
theorem lits_num {d : Nat} {t : TypeId} {q : IntKind} (ht : Try.prog.underlying t = some (.int q)) {c : Value} {ls : List Lit} (h : Try.prog.keyLits (d + 1) t [c] = some ls) : ∃ n, c = .int q n ∧ (Lit.int q n).wf = true ∧ ls = [.int q n] := by
  cases c <;> simp [Program.keyLits, ht] at h
  obtain ⟨⟨rfl, hw⟩, rfl⟩ := h
  exact ⟨_, rfl, hw, rfl⟩
theorem fuel32 : ∃ d, Try.prog.types.size + 1 = d + 4 := ⟨Try.prog.types.size - 3, by have h : (32 : Nat) < Try.prog.types.size := Try.row32; omega⟩
theorem keyOf_el {e : Ent} (h : e.wf) : keyOf Try.prog 32 e.val = some e.el := by
  obtain ⟨h0, h1, h2, h3⟩ := h
  unfold Ent.val Ent.cells Ent.el keyOf
  rw [Try.underlying32]
  have hf : (Value.agg #[.int .i64 e.t, .int .i64 e.k, .int .u64 e.n, .int .i64 e.o]).formed Try.prog 32 = true := by simp [Value.formed, Try.underlying32, Try.cells32]
  simp only [Try.keyType32, hf, Bool.and_self, if_true]
  obtain ⟨d, hd⟩ := fuel32
  rw [hd]
  simp [Program.keyLits, Try.underlying32, Try.underlying27, Try.underlying30, Try.underlying28, Try.underlying3, Try.cells32, Try.cells30, Value.cells, h0, h1, h2, h3, Try.cells27, Try.cells28, Try.cells3, List.mapM_cons]
  rw [if_pos (by decide)]
  simp
theorem lits_tid {d : Nat} {a b : Value} {ls : List Lit} (h : Try.prog.keyLits (d + 2) 30 [a, b] = some ls) : ∃ n o, a = .int .u64 n ∧ b = .int .i64 o ∧ (Lit.int .u64 n).wf = true ∧ (Lit.int .i64 o).wf = true ∧ ls = [.int .u64 n, .int .i64 o] := by
  unfold Program.keyLits at h
  simp [Try.underlying30, Try.cells30, Try.cells28, Try.cells3, List.mapM_cons] at h
  cases hx : Try.prog.keyLits (d + 1) 28 [a] with
  | none => rw [hx] at h; cases h
  | some x =>
    cases hy : Try.prog.keyLits (d + 1) 3 [b] with
    | none => rw [hx, hy] at h; cases h
    | some y =>
      rw [hx, hy] at h
      obtain ⟨n, rfl, wn, rfl⟩ := lits_num Try.underlying28 hx
      obtain ⟨o, rfl, wo, rfl⟩ := lits_num Try.underlying3 hy
      cases h
      exact ⟨n, o, rfl, rfl, wn, wo, rfl⟩
theorem lits_ent {d : Nat} {a b c e : Value} {ls : List Lit} (h : Try.prog.keyLits (d + 3) 32 [a, b, c, e] = some ls) : ∃ x : Ent, .agg #[a, b, c, e] = x.val ∧ x.wf ∧ ls = [.int .i64 x.t, .int .i64 x.k, .int .u64 x.n, .int .i64 x.o] := by
  unfold Program.keyLits at h
  simp [Try.underlying32, Try.cells32, Try.cells30, Try.cells27, Try.cells3, List.mapM_cons] at h
  cases hx : Try.prog.keyLits (d + 2) 3 [a] with
  | none => rw [hx] at h; cases h
  | some x =>
    cases hy : Try.prog.keyLits (d + 2) 27 [b] with
    | none => rw [hx, hy] at h; cases h
    | some y =>
      cases hz : Try.prog.keyLits (d + 2) 30 [c, e] with
      | none => rw [hx, hy, hz] at h; cases h
      | some z =>
        rw [hx, hy, hz] at h
        obtain ⟨t, rfl, wt, rfl⟩ := lits_num Try.underlying3 hx
        obtain ⟨k, rfl, wk, rfl⟩ := lits_num Try.underlying27 hy
        obtain ⟨n, o, rfl, rfl, wn, wo, rfl⟩ := lits_tid hz
        cases h
        exact ⟨⟨t, k, n, o⟩, rfl, ⟨wt, wk, wn, wo⟩, rfl⟩
theorem keyOf_el_inv {key : Value} {kl : Lit} (h : keyOf Try.prog 32 key = some kl) : ∃ x : Ent, key = x.val ∧ x.wf ∧ kl = x.el := by
  unfold keyOf at h
  rw [Try.underlying32] at h
  simp only [Try.keyType32, Bool.true_and] at h
  cases hf : key.formed Try.prog 32 with
  | false => rw [hf] at h; simp at h
  | true =>
    rw [hf] at h
    simp only [if_true] at h
    obtain ⟨d, hd⟩ := fuel32
    rw [hd] at h
    cases key <;> simp [Value.formed, Try.underlying32, Try.cells32] at hf
    rename_i cs
    obtain ⟨l⟩ := cs
    have hf : l.length = 4 := hf
    obtain ⟨c0, l, rfl, h0⟩ := cons_of_length hf
    obtain ⟨c1, l, rfl, h1⟩ := cons_of_length (n := 2) h0
    obtain ⟨c2, l, rfl, h2⟩ := cons_of_length (n := 1) h1
    obtain ⟨c3, l, rfl, h3⟩ := cons_of_length (n := 0) h2
    obtain rfl := List.length_eq_zero_iff.1 h3
    cases hL : Try.prog.keyLits (d + 3 + 1) 32 [c0, c1, c2, c3] with
    | none =>
      have h : (Try.prog.keyLits (d + 3 + 1) 32 [c0, c1, c2, c3]).map (fun ls => Lit.string (keyBytes ls)) = some kl := h
      rw [hL] at h
      cases h
    | some ls =>
      have h : (Try.prog.keyLits (d + 3 + 1) 32 [c0, c1, c2, c3]).map (fun ls => Lit.string (keyBytes ls)) = some kl := h
      rw [hL] at h
      obtain ⟨x, hx, wx, rfl⟩ := lits_ent (d := d + 1) hL
      cases h
      exact ⟨x, hx, wx, rfl⟩
theorem isKey_el {e : Ent} (h : e.wf) : WideAt.IsKeyLit e.el := Try.keyed32.key (keyOf_el h)
theorem el_inj {a b : Ent} (ha : a.wf) (hb : b.wf) (h : a.el = b.el) : a = b := by
  have h1 := Try.keyed32.inj (keyOf_el ha) (by rw [h]; exact keyOf_el hb)
  simp only [Ent.val, Ent.cells, Value.agg.injEq, Array.mk.injEq, List.cons.injEq, Value.int.injEq, true_and, and_true] at h1
  obtain ⟨a1, a2, a3, a4⟩ := a
  obtain ⟨b1, b2, b3, b4⟩ := b
  simp only at h1
  obtain ⟨rfl, rfl, rfl, rfl⟩ := h1
  rfl
def yes : DataW Unit := .lit (.bool true)
def no : DataW Unit := .lit (.bool false)
/-- A map that holds just those entries. -/
structure SIdx (es : List Ent) (D : DataW Unit) : Prop where
  size : Maps.size D = es.length
  in_ : ∀ e ∈ es, Maps.has D e.el = true ∧ D.atKey e.el no = yes
  only : ∀ x : Ent, x.wf → Maps.has D x.el = true → x ∈ es
theorem SIdx.nil : SIdx [] (DataW.map []) := ⟨rfl, fun e h => by (cases h), fun x _ h => by (cases h)⟩
theorem SIdx.perm {es es' : List Ent} {D : DataW Unit} (I : SIdx es D) (h : es'.Perm es) : SIdx es' D :=
  ⟨by rw [I.size, h.length_eq], fun e he => I.in_ e (h.mem_iff.1 he), fun x wx hx => h.mem_iff.2 (I.only x wx hx)⟩
/-- A new name. -/
theorem SIdx.add {es : List Ent} {D : DataW Unit} (I : SIdx es D) (T : Tidy D) (wf : ∀ e ∈ es, e.wf) {y : Ent} (wy : y.wf) (hy : y ∉ es) : SIdx (y :: es) (D.put y.el yes) := by
  have ky := isKey_el wy
  have h0 : Maps.has D y.el = false := by
    cases h : Maps.has D y.el
    · rfl
    · exact absurd (I.only y wy h) hy
  refine ⟨by rw [size_put T, h0, I.size]; simp, fun e he => ?_, fun x wx hx => ?_⟩
  · rcases List.mem_cons.1 he with rfl | he
    · exact ⟨has_put_same T.isMap ky _, atKey_put_same T.isMap ky _ _⟩
    · have hne : e.el ≠ y.el := fun h => hy (by rw [← el_inj (wf e he) wy h]; exact he)
      obtain ⟨a, b⟩ := I.in_ e he
      exact ⟨by rw [has_put_other hne]; exact a, by rw [atKey_put_other hne]; exact b⟩
  · by_cases h : x.el = y.el
    · exact List.mem_cons.2 (.inl (el_inj wx wy h))
    · rw [has_put_other h] at hx
      exact List.mem_cons.2 (.inr (I.only x wx hx))
/-- One entry struck. -/
theorem SIdx.strike {e : Ent} {es : List Ent} {D : DataW Unit} (I : SIdx (e :: es) D) (T : Tidy D) (wf : ∀ x ∈ e :: es, x.wf) (hn : e ∉ es) : SIdx es (D.del e.el) := by
  have we := wf e (by simp)
  have h1 := (I.in_ e (by simp)).1
  refine ⟨?_, fun x hx => ?_, fun x wx hx => ?_⟩
  · have := size_del (k := e.el) T
    rw [h1, if_pos rfl, I.size, List.length_cons] at this
    omega
  · have hne : x.el ≠ e.el := fun h => hn (by rw [← el_inj (wf x (by simp [hx])) we h]; exact hx)
    obtain ⟨a, b⟩ := I.in_ x (by simp [hx])
    exact ⟨by rw [has_del_other hne]; exact a, by rw [atKey_del_other hne]; exact b⟩
  · by_cases h : x.el = e.el
    · rw [h, has_del_same] at hx
      cases hx
    · rw [has_del_other h] at hx
      rcases List.mem_cons.1 (I.only x wx hx) with rfl | q
      · exact absurd rfl h
      · exact q
end Go.Proofs.Ytdohclfkbfeihaa
