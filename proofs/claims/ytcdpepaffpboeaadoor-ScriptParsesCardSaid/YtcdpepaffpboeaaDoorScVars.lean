/- The package variables that script reads, as the rows list them. -/
import Derived.Test.YtcdpepaffpboeaaDoorScNum
import Derived.Test.YtcdpepaffpboeaaDoorRows
import Derived.Shelf.Strings.Count
import Derived.Lib.LaidU8
import Derived.OpenShut
import Derived.Deep.DeepLaidRun
namespace Go.Proofs.YtcdpepaffpboeaaDoor
open Go.RowKit Go.Shelf
def stepW : List (List UInt8) := [[], [99, 97, 108, 108], [100, 101, 108, 105, 118, 101, 114], [108, 111, 115, 101], [116, 119, 105, 99, 101], [115, 112, 111, 105, 108], [116, 105, 99, 107], [102, 117, 115, 101], [111, 102, 102], [111, 110]]
def callW : List (List UInt8) := [[], [98, 101, 103, 105, 110], [103, 101, 116], [112, 117, 116], [100, 114, 111, 112], [99, 111, 109, 109, 105, 116], [97, 98, 111, 114, 116]]
def strV (l : List UInt8) : Value := .string ⟨l.toArray⟩
/-- A list of texts that reads as these, holds them, cell for cell. -/
theorem cells_of_strs {H : Type} {enc : TypeId × Value → H} {P : Program} {w : World} {base : Nat} {sp : Nat → Bool} {held : Bool} {fuel : Nat} {t e : TypeId} {n : Nat} {cs : List Value} {ls : List (List UInt8)} {p : List MemPlace}
    (ht : P.underlying t = some (.array n e)) (he : P.underlying e = some .string) (hce : P.cellsOf e = 1) (hct : P.cellsOf t = n)
    (h : DataW.trod enc P w base sp held fuel t cs = some (.agg (ls.map fun l => .lit (.string l)), p)) : cs = ls.map strV := by
  obtain ⟨xs, m, rfl, hx, hl, hxl, hall⟩ := DataW.trod_array ht h
  have hxs : xs.map (·.1) = ls.map fun l => (DataW.lit (.string l) : DataW H) := by
    have := congrArg Prod.fst hx
    simpa using this.symm
  have hzl : ls.length = n := by
    have := congrArg List.length hxs
    simp at this
    omega
  apply List.ext_getElem?
  intro i
  by_cases hi : i < n
  · have h1 := hall i hi
    obtain ⟨b, hb⟩ : ∃ b, xs[i]? = some b := ⟨xs[i]'(by omega), List.getElem?_eq_getElem (by omega)⟩
    rw [hb, hce] at h1
    obtain ⟨s, hcz, rfl, _⟩ := DataW.trod_string he h1
    have h2 : cs[i]? = some (.string s) := by
      have := congrArg (·[0]?) hcz
      simpa [List.getElem?_take, List.getElem?_drop] using this
    have h3 : (xs.map (·.1))[i]? = some (DataW.lit (.string s.data.toList) : DataW H) := by simp [hb]
    rw [hxs] at h3
    simp only [List.getElem?_map, Option.map_eq_some_iff, DataW.lit.injEq, Lit.string.injEq] at h3
    obtain ⟨z', hz', hz2⟩ := h3
    subst hz2
    simp [h2, hz', strV]
  · rw [List.getElem?_eq_none (by omega), List.getElem?_eq_none (by simp; omega)]
theorem block_of_var {P : Program} {W : World} {name : String} {g : Nat} {cs : Array Value} (hg : P.globalNamed name = some g) (hv : W.var? P name = some cs) : ∃ q : TypeId × (Nat × Nat), W.heap[g]? = some (.cells cs q.1 q.2) := by
  unfold World.var? at hv
  rw [hg] at hv
  simp only [Option.bind_some] at hv
  split at hv
  · rename_i cs' el fz hb
    simp only [Option.some.injEq] at hv
    subst hv
    exact ⟨(el, fz), hb⟩
  · cases hv
/-- What script reads of package variables. -/
structure SVars (w : World) : Prop where
  steps : ∃ q : TypeId × (Nat × Nat), w.heap[0]? = some (.cells (stepW.map strV).toArray q.1 q.2)
  calls : ∃ q : TypeId × (Nat × Nat), w.heap[1]? = some (.cells (callW.map strV).toArray q.1 q.2)
  pow : Lib.TabIs Tryd.prog w "internal/strconv.uint64pow10" .u64 Lib.pow10Tab
  syn : ∃ tp p, w.cell? ⟨6, 0, none⟩ = some (.iface tp p)
  rng : ∃ tp p, w.cell? ⟨7, 0, none⟩ = some (.iface tp p)
theorem lt_of_block {w : World} {g : Nat} {o : Obj} (h : w.heap[g]? = some o) : g < w.heap.size := by
  rcases Nat.lt_or_ge g w.heap.size with h1 | h1
  · exact h1
  · rw [Array.getElem?_eq_none h1] at h; cases h
theorem lt_of_cell {w : World} {g i : Nat} {v : Value} (h : w.cell? ⟨g, i, none⟩ = some v) : g < w.heap.size := by
  rcases Nat.lt_or_ge g w.heap.size with h1 | h1
  · exact h1
  · unfold World.cell? at h
    rw [Array.getElem?_eq_none h1] at h
    cases h
theorem g0 : Tryd.prog.globalNamed "dockmaster/script.steps" = some 0 := by kernel_rfl
theorem g1 : Tryd.prog.globalNamed "dockmaster/script.calls" = some 1 := by kernel_rfl
theorem g3 : Tryd.prog.globalNamed "internal/strconv.uint64pow10" = some 3 := by kernel_rfl
theorem g6 : Tryd.prog.globalNamed "strconv.ErrSyntax" = some 6 := by kernel_rfl
theorem g7 : Tryd.prog.globalNamed "strconv.ErrRange" = some 7 := by kernel_rfl
theorem t0 : (Tryd.prog.globals[0]?).map (·.type) = some 50 := by kernel_rfl
theorem t1 : (Tryd.prog.globals[1]?).map (·.type) = some 69 := by kernel_rfl
theorem t3 : (Tryd.prog.globals[3]?).map (·.type) = some 95 := by kernel_rfl
theorem t6 : (Tryd.prog.globals[6]?).map (·.type) = some 65 := by kernel_rfl
theorem t7 : (Tryd.prog.globals[7]?).map (·.type) = some 65 := by kernel_rfl
theorem c9 : Tryd.prog.cellsOf 9 = 1 := by kernel_rfl
theorem c50 : Tryd.prog.cellsOf 50 = 10 := by kernel_rfl
theorem c69 : Tryd.prog.cellsOf 69 = 7 := by kernel_rfl
theorem c84 : Tryd.prog.cellsOf 84 = 1 := by kernel_rfl
theorem c95 : Tryd.prog.cellsOf 95 = 20 := by kernel_rfl
theorem SVars.below {w w' : World} (h : SVars w) (hb : Below w.heap.size w w') : SVars w' := by
  obtain ⟨⟨q0, h0⟩, ⟨q1, h1⟩, hp, ⟨tp, p, hs⟩, ⟨tp', p', hr⟩⟩ := h
  refine ⟨⟨q0, by rw [hb.block 0 (lt_of_block h0)]; exact h0⟩, ⟨q1, by rw [hb.block 1 (lt_of_block h1)]; exact h1⟩, ?_, ⟨tp, p, by rw [hb.cell (p := ⟨6, 0, none⟩) (lt_of_cell hs)]; exact hs⟩, ⟨tp', p', by rw [hb.cell (p := ⟨7, 0, none⟩) (lt_of_cell hr)]; exact hr⟩⟩
  obtain ⟨q, hq⟩ := block_of_var g3 hp
  unfold Lib.TabIs World.var? at hp ⊢
  rw [g3] at hp ⊢
  simp only [Option.bind_some] at hp ⊢
  rw [hb.block 3 (lt_of_block hq)]
  exact hp
theorem mem_at {α : Type} {l : List α} (i : Nat) {x : α} (h : l[i]? = some x) : x ∈ l := List.mem_of_getElem? h
theorem svars_of_laid {W : World} (h : laidMetH Tryd.prog Rows.scriptHexesRow.laid W) : SVars W := by
  have h : laidMet Tryd.prog Rows.scriptHexesRow.laid W := h
  have r0 : Lib.VarReads Tryd.prog W "dockmaster/script.steps" (.agg (stepW.map fun l => .lit (.string l))) := Lib.laidMet.reads h (mem_at 6 rfl)
  have r1 : Lib.VarReads Tryd.prog W "dockmaster/script.calls" (.agg (callW.map fun l => .lit (.string l))) := Lib.laidMet.reads h (mem_at 7 rfl)
  have r3 : Lib.VarReads Tryd.prog W "internal/strconv.uint64pow10" (Lib.tabData .u64 Lib.pow10Tab) := Lib.laidMet.reads h (mem_at 2 rfl)
  have r6 : Lib.VarReads Tryd.prog W "strconv.ErrSyntax" Rows.laid_strconv_ErrSyntax := Lib.laidMet.reads h (mem_at 5 rfl)
  have r7 : Lib.VarReads Tryd.prog W "strconv.ErrRange" Rows.laid_strconv_ErrRange := Lib.laidMet.reads h (mem_at 4 rfl)
  refine ⟨?_, ?_, ?_, ?_, ?_⟩
  · obtain ⟨g, t, cs, fuel, p, hg, ht, hv, hd⟩ := r0
    obtain rfl := Option.some.inj (t0.symm.trans (Option.some.inj (g0.symm.trans hg) ▸ ht))
    have hc := cells_of_strs Tryd.underlying50 Tryd.underlying9 c9 c50 hd
    obtain ⟨q, hq⟩ := block_of_var g0 hv
    exact ⟨q, by rw [← hc]; exact hq⟩
  · obtain ⟨g, t, cs, fuel, p, hg, ht, hv, hd⟩ := r1
    obtain rfl := Option.some.inj (t1.symm.trans (Option.some.inj (g1.symm.trans hg) ▸ ht))
    have hc := cells_of_strs Tryd.underlying69 Tryd.underlying9 c9 c69 hd
    obtain ⟨q, hq⟩ := block_of_var g1 hv
    exact ⟨q, by rw [← hc]; exact hq⟩
  · obtain ⟨g, t, cs, fuel, p, hg, ht, hv, hd⟩ := r3
    obtain rfl := Option.some.inj (t3.symm.trans (Option.some.inj (g3.symm.trans hg) ▸ ht))
    have hc := Lib.cells_of_tab Tryd.underlying95 Tryd.underlying84 c84 c95 hd
    unfold Lib.TabIs
    rw [hv, ← hc]
  · obtain ⟨g, t, cs, fuel, p, hg, ht, hv, hd⟩ := r6
    obtain rfl := Option.some.inj (t6.symm.trans (Option.some.inj (g6.symm.trans hg) ▸ ht))
    obtain ⟨_, u, v, hc, _⟩ := iface_of_trod Tryd.underlying65 hd
    refine ⟨u, v, ?_⟩
    have := World.var?_cell g6 hv 0
    rw [this, ← Array.getElem?_toList, hc]
    rfl
  · obtain ⟨g, t, cs, fuel, p, hg, ht, hv, hd⟩ := r7
    obtain rfl := Option.some.inj (t7.symm.trans (Option.some.inj (g7.symm.trans hg) ▸ ht))
    obtain ⟨_, u, v, hc, _⟩ := iface_of_trod Tryd.underlying65 hd
    refine ⟨u, v, ?_⟩
    have := World.var?_cell g7 hv 0
    rw [this, ← Array.getElem?_toList, hc]
    rfl
end Go.Proofs.YtcdpepaffpboeaaDoor
