/- Reading a list: its length, which of two is less. -/
import Derived.Test.YtdohclfkbfeihaaDqMem
namespace Go.Proofs.Ytdohclfkbfeihaa
open Go.RowKit Go.Maps
theorem LAt.lenV {w : World} {base l m : Nat} {v : Value} {es : List Ent} (h : LAt w base l m v es) : ∃ o cap, v = .slice o es.length cap := by
  obtain ⟨_, ⟨hv, h0⟩ | ⟨g, cap, cur, hv, _⟩⟩ := h.row
  · exact ⟨none, 0, by rw [hv, h0]⟩
  · exact ⟨_, _, hv⟩
theorem lt_of_cell {w : World} {a : Addr} {v : Value} (h : w.cell? a = some v) : a.block < w.heap.size := by
  rcases Nat.lt_or_ge a.block w.heap.size with h1 | h1
  · exact h1
  · have h0 : w.heap[a.block]? = none := Array.getElem?_eq_none h1
    simp [World.cell?, h0] at h
set_option maxRecDepth 1000000 in
theorem Try.Len_walk {w : World} {base l m : Nat} {v : Value} {es : List Ent} (h : LAt w base l m v es) : Calls Try.prog 40 #[.pointer (some ⟨l, 0, none⟩)] w fun e w' => e = .returned (.int .i64 es.length) ∧ w' = w := by
  obtain ⟨o, cap, rfl⟩ := h.lenV
  have c0 : w.cell? ⟨l, 0, none⟩ = some (.slice o es.length cap) := by rw [Lib.cell_of_heap h.cell]; rfl
  clear h
  go_enter Try.func40, Try.ntmps40
  go_wp2
  go_ret
  exact ⟨rfl, rfl⟩
set_option maxRecDepth 1000000 in
theorem Try.Less_walk {w : World} {base l m : Nat} {v : Value} {es : List Ent} (h : LAt w base l m v es) {i j : Nat} {a b : Ent} (ha : es[i]? = some a) (hb : es[j]? = some b) :
    Calls Try.prog 41 #[.pointer (some ⟨l, 0, none⟩), .int .i64 i, .int .i64 j] w fun e w' => e = .returned (.bool (lt a b)) ∧ Below w.heap.size w w' := by
  have hi : i < es.length := (List.getElem?_eq_some_iff.1 ha).1
  have hj : j < es.length := (List.getElem?_eq_some_iff.1 hb).1
  obtain ⟨g, cap, cur, rfl, _, hh, _, _, _, hx⟩ := h.slice (by omega)
  have c0 : w.cell? ⟨l, 0, none⟩ = some (.slice (some ⟨g, 0, none⟩) es.length cap) := by rw [Lib.cell_of_heap h.cell]; rfl
  obtain ⟨x0, x1, x2, x3⟩ := row_cell hh hx ha
  obtain ⟨y0, y1, y2, y3⟩ := row_cell hh hx hb
  have hB := Try.before_walk a b
  unfold Ent.val Ent.cells at hB
  have i1 : (0 : Int) ≤ (i : Int) := by omega
  have i2 : (i : Int) < (es.length : Int) := by omega
  have j1 : (0 : Int) ≤ (j : Int) := by omega
  have j2 : (j : Int) < (es.length : Int) := by omega
  clear h hh hx ha hb
  replace hB := Keep.mk hB
  generalize es.length = n at *
  go_enter Try.func41, Try.ntmps41
  go_upto_region 1 with fail
  have hl := lt_of_cell c0
  have hg := lt_of_cell x0
  have hnext : ∀ W', Below w.heap.size w W' → (Below w.heap.size w W' ∧ W'.cell? ⟨l, 0, none⟩ = some (.slice (some ⟨g, 0, none⟩) n cap) ∧ W'.cell? ⟨g, i * 4, none⟩ = some (.int .i64 a.t) ∧ W'.cell? ⟨g, i * 4 + 1, none⟩ = some (.int .i64 a.k) ∧ W'.cell? ⟨g, i * 4 + 2, none⟩ = some (.int .u64 a.n) ∧ W'.cell? ⟨g, i * 4 + 3, none⟩ = some (.int .i64 a.o) ∧ W'.cell? ⟨g, j * 4, none⟩ = some (.int .i64 b.t) ∧ W'.cell? ⟨g, j * 4 + 1, none⟩ = some (.int .i64 b.k) ∧ W'.cell? ⟨g, j * 4 + 2, none⟩ = some (.int .u64 b.n) ∧ W'.cell? ⟨g, j * 4 + 3, none⟩ = some (.int .i64 b.o)) := fun W' hb =>
    ⟨hb, by rw [hb.cell (p := ⟨l, 0, none⟩) hl]; exact c0, by rw [hb.cell (p := ⟨g, i * 4, none⟩) hg]; exact x0, by rw [hb.cell (p := ⟨g, i * 4 + 1, none⟩) hg]; exact x1, by rw [hb.cell (p := ⟨g, i * 4 + 2, none⟩) hg]; exact x2, by rw [hb.cell (p := ⟨g, i * 4 + 3, none⟩) hg]; exact x3, by rw [hb.cell (p := ⟨g, j * 4, none⟩) hg]; exact y0, by rw [hb.cell (p := ⟨g, j * 4 + 1, none⟩) hg]; exact y1, by rw [hb.cell (p := ⟨g, j * 4 + 2, none⟩) hg]; exact y2, by rw [hb.cell (p := ⟨g, j * 4 + 3, none⟩) hg]; exact y3⟩
  have hb0 : Below w.heap.size w w.drew := (Below.refl _ _).drew
  go_region_held3 (fun W' => Below w.heap.size w W' ∧ W'.cell? ⟨l, 0, none⟩ = some (.slice (some ⟨g, 0, none⟩) n cap) ∧ W'.cell? ⟨g, i * 4, none⟩ = some (.int .i64 a.t) ∧ W'.cell? ⟨g, i * 4 + 1, none⟩ = some (.int .i64 a.k) ∧ W'.cell? ⟨g, i * 4 + 2, none⟩ = some (.int .u64 a.n) ∧ W'.cell? ⟨g, i * 4 + 3, none⟩ = some (.int .i64 a.o) ∧ W'.cell? ⟨g, j * 4, none⟩ = some (.int .i64 b.t) ∧ W'.cell? ⟨g, j * 4 + 1, none⟩ = some (.int .i64 b.k) ∧ W'.cell? ⟨g, j * 4 + 2, none⟩ = some (.int .u64 b.n) ∧ W'.cell? ⟨g, j * 4 + 3, none⟩ = some (.int .i64 b.o)) (first | exact hnext _ hb0 | assumption)
    (first | (go_at_call 39; refine (hB.out _).mono ?_; rintro e w'' ⟨rfl, hb⟩; have q := hnext _ (Below.trans (by first | exact hb0 | exact And.left (by assumption)) (Below.mono hb (by first | exact Nat.le_refl _ | simp | exact Below.size (And.left (by assumption))))))) 
  rename_i hb _ hheld
  have hfin := hheld.1
  clear hheld hnext hb0 hb c0 x0 x1 x2 x3 y0 y1 y2 y3 hB
  go_wp2
  go_ret
  exact ⟨rfl, hfin⟩
end Go.Proofs.Ytdohclfkbfeihaa
