/- DueRuns: an own entry is cut out. -/
import Derived.Test.YtdohclfkbfeihaaDqRunP
import Derived.Maps.AppendAt
namespace Go.Proofs.Ytdohclfkbfeihaa
open Go.RowKit Go.Maps
theorem below_drewN (w : World) (n : Nat) : Below w.heap.size w (w.drewN n) := ⟨rfl, rfl, rfl, Nat.le_refl _, fun _ _ => rfl⟩
theorem below_of_drew {w w' : World} (h : Below w.drew.heap.size w.drew w') : Below w.heap.size w w' := ⟨h.os, h.tape, h.output, h.size, h.block⟩
theorem flat_one (es : List Ent) : ∀ u ∈ flat es, u.oneCell' = true := fun u hu => by
  obtain ⟨e, _, h⟩ := List.mem_flatMap.1 hu
  simp [Ent.cells] at h
  rcases h with rfl | rfl | rfl | rfl <;> rfl
theorem add_at (g o j : Nat) : ((⟨g, o, none⟩ : Addr).add j) = ⟨g, o + j, none⟩ := by unfold Addr.add; split <;> simp_all
theorem cut_runs {w : World} {ad : Addr} {base q l m g c : Nat} {v : Value} {es own : List Ent} (h : RunAt w base q l m v (.slice (some ⟨g, 0, none⟩) own.length c) es own) {i : Nat} {e : Ent} (he : own[i]? = some e) (hl : own.length ≤ 1000) (hb : base ≤ w.heap.size) (had : ad = ⟨g, (i + 1) * 4, none⟩ ∨ own.length = i + 1) :
    ∃ v7 w7 o8 c8 w8, (Builtin.append_ #[22, 22] 22 #[.slice (some ⟨w.heap.size, 0, none⟩) 0 0, .slice (some ⟨g, 0, none⟩) i c]).run Try.prog (w.alloc (.cells #[] 32 (0, 0))).drew = .ok v7 w7 ∧
      (Builtin.append_ #[22, 22] 22 #[v7, .slice (some ad) (own.length - (i + 1)) (c - (i + 1))]).run Try.prog w7 = .ok (.slice o8 (own.length - 1) c8) w8 ∧ RunAt w8 base q l m v (.slice o8 (own.length - 1) c8) es (own.eraseIdx i) ∧ Below w.heap.size w w8 := by
  obtain ⟨i0, hi, hz0, hz1, hz2⟩ := info_parts Try.info32
  have hil : i < own.length := (List.getElem?_eq_some_iff.1 he).1
  obtain ⟨g', c', cur, hsv, _, hh, _, _, _, hx⟩ := row_slice h.row (by omega)
  cases hsv
  have hgl := lt_of_block hh
  have b1 : Below w.heap.size w (w.alloc (.cells #[] 32 (0, 0))).drew := ((Below.refl _ _).alloc (Nat.le_refl _) _).drew
  have hn1 : (w.alloc (.cells #[] 32 (0, 0))).drew.heap[w.heap.size]? = some (.cells #[] 32 (0, 0)) := (MapKept.heap_alloc w _).1
  have hown1 : (w.alloc (.cells #[] 32 (0, 0))).drew.ownsRow base 32 4 (.slice (some ⟨w.heap.size, 0, none⟩) 0 0) 0 [] := ⟨rfl, .inr ⟨w.heap.size, 0, #[], rfl, hb, hn1, Nat.le_refl _, Nat.zero_le _, rfl, rfl⟩⟩
  have hz1' := b1.size
  have hh1 : (w.alloc (.cells #[] 32 (0, 0))).drew.heap[g]? = some (.cells cur 32 (0, 0)) := by rw [b1.block g hgl]; exact hh
  have hcell : ∀ (W : World), W.heap[g]? = some (.cells cur 32 (0, 0)) → ∀ j u, (flat own)[j]? = some u → W.cell? ⟨g, j, none⟩ = some u := fun W hW j u hu => by
    rw [Lib.cell_of_heap hW, ← Array.getElem?_toList]
    rw [← hx, List.getElem?_take] at hu
    split at hu
    · exact hu
    · cases hu
  have ht : (own.take i).length = i := by rw [List.length_take]; omega
  have hd : (own.drop (i + 1)).length = own.length - (i + 1) := List.length_drop
  generalize (w.alloc (.cells #[] 32 (0, 0))).drew = w1 at *
  obtain ⟨v7, w7, hr7, hown7, hg7, _, hloc7⟩ := run_append_own_at (P := Try.prog) w1 base 22 22 32 i0 _ 4 32 Try.underlying22 hi hz0 hz1 hz2 rfl (by decide) (.slice (some ⟨w.heap.size, 0, none⟩) 0 0) 0 [] hown1 ⟨g, 0, none⟩ i c (flat (own.take i)) (by rw [flat_length, ht])
    (fun j u hu => by
      rw [add_at, Nat.zero_add]
      refine hcell w1 hh1 j u ?_
      rw [← flat_take, List.getElem?_take] at hu
      split at hu
      · exact hu
      · cases hu) (flat_one _) (by unfold maxLen; omega) (by omega) (by omega)
  have hv7 : ∀ k, v7.ownBlock = some k → w.heap.size ≤ k := fun k hk => by
    rcases hloc7 with r | r
    · rw [r] at hk; cases hk; exact Nat.le_refl _
    · rw [r] at hk; cases hk; omega
  have b7 : Below w.heap.size w w7 := b1.trans (below_of_grown hg7 hz1' (fun k hk => by cases hk; exact Nat.le_refl _))
  have hh7 : w7.heap[g]? = some (.cells cur 32 (0, 0)) := by rw [b7.block g hgl]; exact hh
  have hz7 := b7.size
  obtain ⟨v8, w8, hr8, hown8, hg8, _, hloc8⟩ := run_append_own_at (P := Try.prog) w7 base 22 22 32 i0 _ 4 32 Try.underlying22 hi hz0 hz1 hz2 rfl (by decide) v7 (0 + i) ([] ++ flat (own.take i)) hown7 ad (own.length - (i + 1)) (c - (i + 1)) (flat (own.drop (i + 1))) (by rw [flat_length, hd])
    (fun j u hu => by
      rcases had with rfl | h0
      · rw [add_at]
        refine hcell w7 hh7 _ u ?_
        rw [← flat_drop, List.getElem?_drop] at hu
        exact hu
      · rw [List.drop_of_length_le (by omega)] at hu
        cases hu) (flat_one _) (by unfold maxLen; omega) (by omega) (by omega)
  have b8 : Below w.heap.size w w8 := b7.trans (below_of_grown hg8 hz7 hv7)
  have hlen : 0 + i + (own.length - (i + 1)) = own.length - 1 := by omega
  have hel : (own.eraseIdx i).length = own.length - 1 := by have := erase_length he; omega
  rw [hlen, List.nil_append, flat_erase] at hown8
  obtain ⟨o8, c8, rfl⟩ := row_len hown8
  refine ⟨v7, w7, o8, c8, w8, hr7, hr8, ⟨h.queue.below b8, by rw [hel]; exact hown8, fun k hk e => ?_⟩, b8⟩
  have h1 := h.queue.heap.at_.lt.2.2 k e
  rcases hloc8 with r | r
  · have := hv7 k (r.symm.trans hk)
    omega
  · rw [r] at hk
    cases hk
    omega
end Go.Proofs.Ytdohclfkbfeihaa
