/- Where an entry stands; When and Drop, walked. -/
import Derived.Test.YtdohclfkbfeihaaDqQueue
namespace Go.Proofs.Ytdohclfkbfeihaa
open Go.RowKit Go.Maps
theorem LAt.look {w : World} {base l m : Nat} {v : Value} {es : List Ent} (h : LAt w base l m v es) {x : Ent} (wx : x.wf) : ∃ c b, (Instr.lookup 50 (.map (some m)) x.key true).run Try.prog w = .ok (.tuple #[.int .i64 c, .bool b]) w ∧ (b = true → ∃ (i : Nat) (e : Ent), es[i]? = some e ∧ e.nm = x.nm ∧ c = (i : Int)) ∧ (b = false → ∀ e ∈ es, e.nm ≠ x.nm) := by
  obtain ⟨D, hD, hI⟩ := h.map
  obtain ⟨u, ps, hr, hu⟩ := hD.look_ok Try.keyed56 Try.underlying50 (Try.zero3 w) (zd := zi 0) (zp := []) (elem_zi 0 (by omega)) (keyOf_ent wx)
  obtain ⟨c, rfl, hc, _⟩ := plainElem_int_inv Try.underlying3 hu
  have hc' : D.atKey x.nl (zi 0) = .lit (.int .i64 c) := congrArg Prod.fst hc
  refine ⟨c, _, hr, fun hb => ?_, fun hb e he hn => ?_⟩
  · obtain ⟨e, he, hn⟩ := hI.only x wx hb
    obtain ⟨i, hi⟩ := List.mem_iff_getElem?.1 he
    refine ⟨i, e, hi, hn, ?_⟩
    have h2 := (hI.at_ i e hi).2
    rw [nl_of_nm hn, hc'] at h2
    unfold zi at h2
    cases h2
    rfl
  · obtain ⟨i, hi⟩ := List.mem_iff_getElem?.1 he
    have h2 := (hI.at_ i e hi).1
    rw [nl_of_nm hn, hb] at h2
    cases h2
def TidV (x : Ent) : Value := .agg #[.int .u64 x.n, .int .i64 x.o]
structure WhenEnd (es : List Ent) (y : Ent) (w : World) (x : Ending) (w' : World) : Prop where
  out : ∃ t b, x = .returned (.tuple #[.int .i64 t, .bool b]) ∧ (b = true → ∃ e ∈ es, e.nm = y.nm ∧ t = e.t) ∧ (b = false → t = 0 ∧ ∀ e ∈ es, e.nm ≠ y.nm) ∧ Below w.heap.size w w'
set_option maxHeartbeats 1000000 in
set_option maxRecDepth 1000000 in
theorem Try.When_walk {w : World} {base q l m : Nat} {v : Value} {es : List Ent} (h : QAt w base q l m v es) (hsm : es.length ≤ 1000) {y : Ent} (wy : y.wf) :
    Calls Try.prog 14 #[.pointer (some ⟨q, 0, none⟩), .int .i64 y.k, TidV y] w fun x w' => WhenEnd es y w x w' := by
  have hB1 : Below w.heap.size w (w.alloc (.cells #[.int .u64 y.n, .int .i64 y.o] 30 (0, 0))) := (Below.refl _ w).alloc (Nat.le_refl _) _
  have hp1 : (w.alloc (.cells #[.int .u64 y.n, .int .i64 y.o] 30 (0, 0))).heap[w.heap.size]? = some (.cells #[.int .u64 y.n, .int .i64 y.o] 30 (0, 0)) := (MapKept.heap_alloc w _).1
  have h1 := h.below hB1
  replace h := Keep.mk h
  replace hB1 := Keep.mk hB1
  replace hp1 := Keep.mk hp1
  replace h1 := Keep.mk h1
  unfold TidV
  go_enter Try.func14, Try.ntmps14
  go_upto_region 3 with fail
  clear h
  generalize hp : w.heap.size = p at *
  generalize w.alloc (.cells #[.int .u64 y.n, .int .i64 y.o] 30 (0, 0)) = w1 at *
  have cq : w1.cell? ⟨q, 0, none⟩ = some (.pointer (some ⟨l, 0, none⟩)) := by rw [Lib.cell_of_heap h1.out.cell]; rfl
  have c1 : w1.cell? ⟨l, 1, none⟩ = some (.map (some m)) := by rw [Lib.cell_of_heap h1.out.heap.at_.cell]; rfl
  have z0 : w1.cell? ⟨p, 0, none⟩ = some (.int .u64 y.n) := by rw [Lib.cell_of_heap hp1.out]; rfl
  have z1 : w1.cell? ⟨p, 1, none⟩ = some (.int .i64 y.o) := by rw [Lib.cell_of_heap hp1.out]; rfl
  have hd1 : Below w1.heap.size w1 w1.drew := (Below.refl _ _).drew
  have h2 := h1.out.below hd1
  obtain ⟨c, b, hr, hyes, hno⟩ := h2.heap.at_.look wy
  unfold Ent.key at hr
  replace h2 := Keep.mk h2
  replace hyes := Keep.mk hyes
  replace hno := Keep.mk hno
  have hB2 := Keep.mk hB1.out.drew
  clear hd1
  go_cut [8, 9] from 10 (fun s8 s9 wx => s8 = .int .i64 c ∧ s9 = .bool b ∧ w1.drew = wx)
  case first =>
    go_region
    go_wp2_with fail
    go_meet
    exact ⟨rfl, rfl, rfl⟩
  case rest =>
    obtain ⟨rfl, rfl, hw⟩ := hcut
    subst hw
    generalize w1.drew = w2 at *
    clear cq c1 z0 z1 hr h1 hp1 hB1
    cases b with
    | false =>
      have hn := hno.out rfl
      have hfin : WhenEnd es y w (.returned (.tuple #[.int .i64 0, .bool false])) w2 := ⟨0, false, rfl, (fun h => by cases h), (fun _ => ⟨rfl, hn⟩), by rw [hp]; exact hB2.out⟩
      replace hfin := Keep.mk hfin
      clear hn
      go_wp2
      go_ret2
      exact hfin.out
    | true =>
      obtain ⟨i, e, he, hnm, rfl⟩ := hyes.out rfl
      have hi : i < es.length := (List.getElem?_eq_some_iff.1 he).1
      obtain ⟨g, cap, cur, rfl, _, hh, _, _, _, hx⟩ := h2.out.heap.at_.slice (by omega)
      have cq : w2.cell? ⟨q, 0, none⟩ = some (.pointer (some ⟨l, 0, none⟩)) := by rw [Lib.cell_of_heap h2.out.cell]; rfl
      have c0 : w2.cell? ⟨l, 0, none⟩ = some (.slice (some ⟨g, 0, none⟩) es.length cap) := by rw [Lib.cell_of_heap h2.out.heap.at_.cell]; rfl
      obtain ⟨x0, _, _, _⟩ := row_cell hh hx he
      have i1 : (0 : Int) ≤ (i : Int) := by omega
      have i2 : (i : Int) < (es.length : Int) := by omega
      have hfin : WhenEnd es y w (.returned (.tuple #[.int .i64 e.t, .bool true])) w2 := ⟨e.t, true, rfl, (fun _ => ⟨e, List.mem_of_getElem? he, hnm, rfl⟩), (fun h => by cases h), by rw [hp]; exact hB2.out⟩
      replace hfin := Keep.mk hfin
      clear he hh hx hnm hB2
      go_wp2
      go_ret2
      exact hfin.out
end Go.Proofs.Ytdohclfkbfeihaa
