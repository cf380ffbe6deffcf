/- script.Step: what its walks share. -/
import Derived.Test.YtcdpepaffpboeaaDoorScWords
import Derived.Deep.Cut
import Derived.Deep.CutRange
import Derived.Maps.OwnOps
import Derived.Laws.ResultCell
import Derived.Laws.Rows
namespace Go.Proofs.YtcdpepaffpboeaaDoor
open Go.RowKit Go.Shelf Go.Maps
theorem Tryd.keyed3 : Keyed Tryd.prog 3 := int_keyed Tryd.underlying3
theorem Tryd.zero3 (w : World) : (zeroValue 3).run Tryd.prog w = .ok (.int .i64 0) w := by kernel_rfl
/-- The table of how many words a step has, as the program lays it. -/
def tabD : DataW Unit := (((DataW.map []).put (.int .i64 1) (.lit (.int .i64 7))).put (.int .i64 7) (.lit (.int .i64 3))).put (.int .i64 9) (.lit (.int .i64 5))
theorem tab_run (w : World) (kd : Int) (h0 : 0 ≤ kd) (h9 : kd ≤ 9) : ∃ u1 u2 u3 c, (Instr.mapUpdate 51 (.map (some w.heap.size)) (.int .i64 1) (.int .i64 7)).run Tryd.prog (w.alloc (.map #[] 0)) = .ok () u1 ∧ (Instr.mapUpdate 51 (.map (some w.heap.size)) (.int .i64 7) (.int .i64 3)).run Tryd.prog u1 = .ok () u2 ∧
    (Instr.mapUpdate 51 (.map (some w.heap.size)) (.int .i64 9) (.int .i64 5)).run Tryd.prog u2 = .ok () u3 ∧ (Instr.lookup 51 (.map (some w.heap.size)) (.int .i64 kd) false).run Tryd.prog u3 = .ok (.int .i64 c) u3 ∧ tabD.atKey (.int .i64 kd) (.lit (.int .i64 0)) = .lit (.int .i64 c) ∧ Below w.heap.size w u3 := by
  have own0 : (w.alloc (.map #[] 0)).ownsMap (H := Unit) Tryd.prog 3 (plainElem Tryd.prog 3) w.heap.size 0 (.map []) := World.ownsMap_made _ _ _ _
  have wf1 : (Lit.int .i64 7).wf = true := by decide
  have wf2 : (Lit.int .i64 3).wf = true := by decide
  have wf3 : (Lit.int .i64 5).wf = true := by decide
  have k1 : (Lit.int .i64 1).wf = true := by decide
  have k7 : (Lit.int .i64 7).wf = true := by decide
  have k9 : (Lit.int .i64 9).wf = true := by decide
  obtain ⟨u1, e1, own1, g1⟩ := own0.update Tryd.keyed3 Tryd.underlying51 (by unfold maxLen; omega) (keyOf_int_mk Tryd.underlying3 k1) (plainElem_int Tryd.underlying3 wf1)
  obtain ⟨u2, e2, own2, g2⟩ := own1.update Tryd.keyed3 Tryd.underlying51 (by unfold maxLen; omega) (keyOf_int_mk Tryd.underlying3 k7) (plainElem_int Tryd.underlying3 wf2)
  obtain ⟨u3, e3, own3, g3⟩ := own2.update Tryd.keyed3 Tryd.underlying51 (by unfold maxLen; omega) (keyOf_int_mk Tryd.underlying3 k9) (plainElem_int Tryd.underlying3 wf3)
  have wk : (Lit.int .i64 kd).wf = true := WalkArith.wf_i64 (by omega)
  obtain ⟨c, hr, hat, _⟩ := own3.lookup_int Tryd.keyed3 Tryd.underlying51 Tryd.underlying3 (Tryd.zero3 _) (keyOf_int_mk Tryd.underlying3 wk)
  have hs0 : w.heap.size ≤ (w.alloc (.map #[] 0)).heap.size := by simp
  have row : ∀ k, some w.heap.size = some k → w.heap.size ≤ k := fun k hk => by cases hk; exact Nat.le_refl _
  have b1 := (((Below.refl w.heap.size w).alloc (Nat.le_refl _) (.map #[] 0)).grown g1 hs0 row)
  have b2 := b1.grown g2 b1.size row
  exact ⟨u1, u2, u3, c, e1, e2, e3, hr, hat, b2.grown g3 b2.size row⟩
theorem steps_at {w w' : World} (h : SVars w) (hh : w'.heap[0]? = w.heap[0]?) (i : Nat) (hi : i < stepW.length) : w'.cell? ⟨0, i, none⟩ = some (strV stepW[i]) := by
  rw [World.cell?_of_block (w := w) hh]
  exact steps_cell h i hi
theorem sv_size {w : World} (h : SV w) : 8 ≤ w.heap.size := by
  obtain ⟨_, _, h7⟩ := h.rng
  exact lt_of_cell h7
theorem spl_le (c : UInt8) (s : ByteArray) : (spl c s).length ≤ s.size + 1 := by
  rw [spl_length]
  have := Lib.countB_le ⟨#[c]⟩ (Nat.le_refl 1) s.size s (Nat.le_refl _)
  omega
theorem splB_size (c : UInt8) : ∀ (k : Nat) (s : ByteArray) (x : ByteArray), x ∈ Lib.splitB ⟨#[c]⟩ 0 k s → x.size ≤ s.size
  | 0, s, x, h => by
    rw [Lib.splitB_zero] at h
    simp at h
    rw [h]
    exact Nat.le_refl _
  | k + 1, s, x, h => by
    unfold Lib.splitB at h
    split at h
    · simp at h
      rw [h]
      exact Nat.le_refl _
    · rcases List.mem_cons.1 h with rfl | h
      · rw [ByteArray.size_extract]
        omega
      · have := splB_size c k _ x h
        rw [ByteArray.size_extract] at this
        omega
theorem spl_size (c : UInt8) (s : ByteArray) (x : ByteArray) (h : x ∈ spl c s) : x.size ≤ s.size := splB_size c _ s x h
theorem stepW0_zero (ws : List ByteArray) (h : kindS stepW (ws.getD 0 ⟨#[]⟩).data.toList = 0) : stepW0 ws = none := by
  unfold stepW0
  simp only [h]
  rw [if_pos (Or.inl trivial)]
theorem stepW0_count (ws : List ByteArray) (k : Nat) (h : kindS stepW (ws.getD 0 ⟨#[]⟩).data.toList = k) (hc : ws.length ≠ wordCount k) : stepW0 ws = none := by
  unfold stepW0
  simp only [h]
  rw [if_pos (Or.inr hc)]
theorem Tryd.sizeStep : (Tryd.prog.info? 27).map (·.size) = some 11 := by kernel_rfl
theorem Tryd.results_step {tmps : Array Value} {w : World} {r : Nat} {cs : Array Value} (hp : tmps.getD 2 undef = .pointer (some ⟨r, 0, none⟩)) (hh : w.heap[r]? = some (.cells cs 27 (0, 0))) (hc : cs.size = 11) :
    (results Tryd.f9 tmps).run Tryd.prog w = .ok (.tuple #[.agg cs, tmps.getD 3 undef]) w := by
  rw [results_cell_tmp (p := 2) (u := 3) (ty := 27) rfl, hp]
  simp only [asAddr, Sem.run_pure, Result.andThen_ok]
  rw [run_loadVar_row w r 27 27 cs (0, 0) _ hh Tryd.underlying27 rfl (by rw [Tryd.sizeStep, hc])]
  rfl
theorem put_all {w : World} {r : Nat} {c0 c1 c2 c3 c4 c5 c6 c7 c8 c9 c10 : Value} (h : w.heap[r]? = some (.cells #[c0, c1, c2, c3, c4, c5, c6, c7, c8, c9, c10] 27 (0, 0))) (v0 v1 v2 v3 v4 v5 v6 v7 v8 v9 v10 : Value) :
    Put1 w (((((((((((w.setCell ⟨r, 0, none⟩ v0).setCell ⟨r, 1, none⟩ v1).setCell ⟨r, 2, none⟩ v2).setCell ⟨r, 3, none⟩ v3).setCell ⟨r, 4, none⟩ v4).setCell ⟨r, 5, none⟩ v5).setCell ⟨r, 6, none⟩ v6).setCell ⟨r, 7, none⟩ v7).setCell ⟨r, 8, none⟩ v8).setCell ⟨r, 9, none⟩ v9).setCell ⟨r, 10, none⟩ v10) r
      (.cells #[v0, v1, v2, v3, v4, v5, v6, v7, v8, v9, v10] 27 (0, 0)) := by
  have h0 : Put1 w _ r (.cells #[v0, c1, c2, c3, c4, c5, c6, c7, c8, c9, c10] 27 (0, 0)) := Put1.setCell (j := 0) (Put1.refl h) v0
  have h1 : Put1 w _ r (.cells #[v0, v1, c2, c3, c4, c5, c6, c7, c8, c9, c10] 27 (0, 0)) := Put1.setCell (j := 1) (h0) v1
  have h2 : Put1 w _ r (.cells #[v0, v1, v2, c3, c4, c5, c6, c7, c8, c9, c10] 27 (0, 0)) := Put1.setCell (j := 2) (h1) v2
  have h3 : Put1 w _ r (.cells #[v0, v1, v2, v3, c4, c5, c6, c7, c8, c9, c10] 27 (0, 0)) := Put1.setCell (j := 3) (h2) v3
  have h4 : Put1 w _ r (.cells #[v0, v1, v2, v3, v4, c5, c6, c7, c8, c9, c10] 27 (0, 0)) := Put1.setCell (j := 4) (h3) v4
  have h5 : Put1 w _ r (.cells #[v0, v1, v2, v3, v4, v5, c6, c7, c8, c9, c10] 27 (0, 0)) := Put1.setCell (j := 5) (h4) v5
  have h6 : Put1 w _ r (.cells #[v0, v1, v2, v3, v4, v5, v6, c7, c8, c9, c10] 27 (0, 0)) := Put1.setCell (j := 6) (h5) v6
  have h7 : Put1 w _ r (.cells #[v0, v1, v2, v3, v4, v5, v6, v7, c8, c9, c10] 27 (0, 0)) := Put1.setCell (j := 7) (h6) v7
  have h8 : Put1 w _ r (.cells #[v0, v1, v2, v3, v4, v5, v6, v7, v8, c9, c10] 27 (0, 0)) := Put1.setCell (j := 8) (h7) v8
  have h9 : Put1 w _ r (.cells #[v0, v1, v2, v3, v4, v5, v6, v7, v8, v9, c10] 27 (0, 0)) := Put1.setCell (j := 9) (h8) v9
  have h10 : Put1 w _ r (.cells #[v0, v1, v2, v3, v4, v5, v6, v7, v8, v9, v10] 27 (0, 0)) := Put1.setCell (j := 10) (h9) v10
  exact h10
theorem Put1.below {w w1 w' : World} {B p : Nat} {o : Obj} (hb : Below B w w1) (h : Put1 w1 w' p o) (hB : B ≤ p) (hs : B ≤ w1.heap.size) : Below B w w' :=
  ⟨h.os.trans hb.os, h.tape.trans hb.tape, h.output.trans hb.output, Nat.le_trans hb.size h.size, fun k hk => by rw [h.other k (by omega) (by omega)]; exact hb.block k hk⟩
theorem stepAt_none {w : World} {base : Nat} {s : ByteArray} (h : stepS s = none) : StepAt w base ((stepS s).getD StepR.zero) (.agg #[.int .i64 0, .int .i64 0, .int .i64 0, .int .i64 0, .int .i64 0, .string ⟨#[]⟩, .string ⟨#[]⟩, .int .i64 0, .int .i64 0, .slice none 0 0, .int .i64 0]) := by
  rw [h]
  exact ⟨.slice none 0 0, rfl, World.ownsRow_nil _ _ _ _⟩
theorem stepAt_some {w : World} {base : Nat} {s : ByteArray} {r : StepR} {v : Value} (h : stepS s = some r) (hv : StepAt w base r v) : StepAt w base ((stepS s).getD StepR.zero) v := by
  rw [h]
  exact hv
theorem stepW0_num (ws : List ByteArray) (k : Nat) (h : kindS stepW (ws.getD 0 ⟨#[]⟩).data.toList = k) (h0 : k ≠ 0) (hc : ws.length = wordCount k) (hn : numsF ((ws.drop 1).take (min (wordCount k) 4 - 1)) = none) : stepW0 ws = none := by
  unfold stepW0
  simp only [h]
  rw [if_neg (by omega), hn]
/-- A row of numbers that the call has made: where it lies. -/
theorem own_ints {w : World} {base n : Nat} {v : Value} {ns : List Int} (h : w.ownsRow base 3 1 v n (ns.map intV)) (hn : 0 < n) :
    ∃ g c, v = .slice (some ⟨g, 0, none⟩) n c ∧ base ≤ g ∧ ∀ (i : Nat) a, ns[i]? = some a → w.cell? ⟨g, i, none⟩ = some (.int .i64 a) := by
  obtain ⟨hl, ⟨_, h0⟩ | ⟨g, cap, cur, rfl, hb, hh, hc, _, _, hx⟩⟩ := h
  · omega
  · refine ⟨g, cap, rfl, hb, fun i a ha => ?_⟩
    rw [Lib.cell_of_heap hh]
    have h1 : (ns.map intV)[i]? = some (.int .i64 a) := by rw [List.getElem?_map, ha]; rfl
    rw [← hx, List.getElem?_take] at h1
    split at h1
    · rw [← Array.getElem?_toList]; exact h1
    · cases h1
theorem stepW0_one1 (ws : List ByteArray) (k : Nat) (h : kindS stepW (ws.getD 0 ⟨#[]⟩).data.toList = k) (hk : k = 6 ∨ k = 8) (hc : ws.length = 2) {a : Int} (hn : numsF ((ws.drop 1).take 1) = some [a]) : stepW0 ws = some { kind := k, node := a } := by
  unfold stepW0
  simp only [h]
  have hw : wordCount k = 2 := by rcases hk with rfl | rfl <;> rfl
  rw [if_neg (by omega), hw]
  show (match numsF ((ws.drop 1).take 1) with | none => _ | some ns => _) = _
  rw [hn]
  simp only
  rw [if_neg (by omega), if_neg (by omega), if_neg (by omega), if_pos hk]
  rfl
theorem stepW0_one7 (ws : List ByteArray) (k : Nat) (h : kindS stepW (ws.getD 0 ⟨#[]⟩).data.toList = k) (hk : k = 2 ∨ k = 3 ∨ k = 4 ∨ k = 5) (hc : ws.length = 2) {a : Int} (hn : numsF ((ws.drop 1).take 1) = some [a]) : stepW0 ws = some { kind := k, dest := a } := by
  unfold stepW0
  simp only [h]
  have hw : wordCount k = 2 := by rcases hk with rfl | rfl | rfl | rfl <;> rfl
  rw [if_neg (by omega), hw]
  show (match numsF ((ws.drop 1).take 1) with | none => _ | some ns => _) = _
  rw [hn]
  simp only
  rw [if_neg (by omega), if_neg (by omega), if_neg (by omega), if_neg (by omega)]
  rfl
theorem stepW0_seven (ws : List ByteArray) (h : kindS stepW (ws.getD 0 ⟨#[]⟩).data.toList = 7) (hc : ws.length = 3) {a b : Int} (hn : numsF ((ws.drop 1).take 2) = some [a, b]) : stepW0 ws = some { kind := 7, node := a, n := b } := by
  unfold stepW0
  simp only [h]
  rw [if_neg (fun hh => hh.elim (by decide) (fun h2 => h2 hc))]
  show (match numsF ((ws.drop 1).take 2) with | none => _ | some ns => _) = _
  rw [hn]
  rfl
theorem stepW0_nine (ws : List ByteArray) (h : kindS stepW (ws.getD 0 ⟨#[]⟩).data.toList = 9) (hc : ws.length = 5) {a b c : Int} (hn : numsF ((ws.drop 1).take 3) = some [a, b, c]) :
    stepW0 ws = (unbitsS (ws.getD 4 ⟨#[]⟩).data.toList).map fun keep => { kind := 9, node := a, n := b, tear := c, keep := keep } := by
  unfold stepW0
  simp only [h]
  rw [if_neg (fun hh => hh.elim (by decide) (fun h2 => h2 hc))]
  show (match numsF ((ws.drop 1).take 3) with | none => _ | some ns => _) = _
  rw [hn]
  rfl
theorem stepW0_onee (ws : List ByteArray) (h : kindS stepW (ws.getD 0 ⟨#[]⟩).data.toList = 1) (hc : ws.length = 7) {a b c : Int} (hn : numsF ((ws.drop 1).take 3) = some [a, b, c]) :
    stepW0 ws = (unhexS (ws.getD 5 ⟨#[]⟩)).bind fun key => (unhexS (ws.getD 6 ⟨#[]⟩)).bind fun val =>
        if 0 < kindS callW (ws.getD 4 ⟨#[]⟩).data.toList then some { kind := 1, node := a, sess := b, req := c, ckind := kindS callW (ws.getD 4 ⟨#[]⟩).data.toList, key := ⟨key.toArray⟩, val := ⟨val.toArray⟩ } else none := by
  unfold stepW0
  simp only [h]
  rw [if_neg (fun hh => hh.elim (by decide) (fun h2 => h2 hc))]
  show (match numsF ((ws.drop 1).take 3) with | none => _ | some ns => _) = _
  rw [hn]
  rfl
theorem own_put {w w' : World} {p base base' : Nat} {o : Obj} {e : TypeId} {size n : Nat} {v : Value} {xs : List Value} (h : w.ownsRow base e size v n xs) (hP : Put1 w w' p o) (hp : p < base) (hb : base' ≤ base) : w'.ownsRow base' e size v n xs := by
  obtain ⟨hl, h0 | ⟨g, cap, cur, hv, hbs, hh, r⟩⟩ := h
  · exact ⟨hl, .inl h0⟩
  · exact ⟨hl, .inr ⟨g, cap, cur, hv, Nat.le_trans hb hbs, by rw [hP.other g (lt_of_block hh) (by omega)]; exact hh, r⟩⟩
theorem unhexT_some {s : ByteArray} {l : List UInt8} (h : unhexS s = some l) : unhexT s = ⟨l.toArray⟩ := by unfold unhexT; rw [h]
end Go.Proofs.YtcdpepaffpboeaaDoor
