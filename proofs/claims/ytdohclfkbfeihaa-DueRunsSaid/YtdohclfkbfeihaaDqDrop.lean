/- Drop, walked. -/
import Derived.Test.YtdohclfkbfeihaaDqWhen
namespace Go.Proofs.Ytdohclfkbfeihaa
open Go.RowKit Go.Maps
structure DropEnd (base q l m : Nat) (v : Value) (es : List Ent) (y : Ent) (w : World) (x : Ending) (w' : World) : Prop where
  out : ∃ b v' es', x = .returned (.bool b) ∧ QAt w' base q l m v' es' ∧ Turn l m v v' w w' ∧ (b = true → ∃ e ∈ es, e.nm = y.nm ∧ (e :: es').Perm es) ∧ (b = false → es' = es ∧ ∀ e ∈ es, e.nm ≠ y.nm)
set_option maxHeartbeats 1000000 in
set_option maxRecDepth 1000000 in
theorem Try.Drop_walk {w : World} {base q l m : Nat} {v : Value} {es : List Ent} (h : QAt w base q l m v es) (hsm : es.length ≤ 1000) {y : Ent} (wy : y.wf) :
    Calls Try.prog 15 #[.pointer (some ⟨q, 0, none⟩), .int .i64 y.k, TidV y] w fun x w' => DropEnd base q l m v es y w x w' := by
  have hB1 : Below w.heap.size w (w.alloc (.cells #[.int .u64 y.n, .int .i64 y.o] 30 (0, 0))) := (Below.refl _ w).alloc (Nat.le_refl _) _
  have hp1 : (w.alloc (.cells #[.int .u64 y.n, .int .i64 y.o] 30 (0, 0))).heap[w.heap.size]? = some (.cells #[.int .u64 y.n, .int .i64 y.o] 30 (0, 0)) := (MapKept.heap_alloc w _).1
  have h1 := h.below hB1
  replace h := Keep.mk h
  replace hB1 := Keep.mk hB1
  replace hp1 := Keep.mk hp1
  replace h1 := Keep.mk h1
  unfold TidV
  go_enter Try.func15, Try.ntmps15
  go_upto_region 3 with fail
  clear h
  generalize hp : w.heap.size = p at *
  generalize w.alloc (.cells #[.int .u64 y.n, .int .i64 y.o] 30 (0, 0)) = w1 at *
  have cq : w1.cell? ⟨q, 0, none⟩ = some (.pointer (some ⟨l, 0, none⟩)) := by rw [Lib.cell_of_heap h1.out.cell]; rfl
  have c1 : w1.cell? ⟨l, 1, none⟩ = some (.map (some m)) := by rw [Lib.cell_of_heap h1.out.heap.at_.cell]; rfl
  have z0 : w1.cell? ⟨p, 0, none⟩ = some (.int .u64 y.n) := by rw [Lib.cell_of_heap hp1.out]; rfl
  have z1 : w1.cell? ⟨p, 1, none⟩ = some (.int .i64 y.o) := by rw [Lib.cell_of_heap hp1.out]; rfl
  have hd1 : Below w1.heap.size w1 w1.drew := (Below.refl _ _).drew
  have h2 := h1.out.below hd1
  obtain ⟨c, b, hr, hyes, hno⟩ := h2.heap.at_.look wy
  unfold Ent.key at hr
  replace h2 := Keep.mk h2
  replace hyes := Keep.mk hyes
  replace hno := Keep.mk hno
  have hB2 := hB1.out.drew
  rw [← hp] at hB2
  have hT2 := Keep.mk (Turn.of_below (l := l) (m := m) (v := v) hB2)
  clear hd1 hB2
  go_cut [7, 8] from 9 (fun s8 s9 wx => s8 = .int .i64 c ∧ s9 = .bool b ∧ w1.drew = wx)
  case first =>
    go_region
    go_wp2_with fail
    go_meet
    exact ⟨rfl, rfl, rfl⟩
  case rest =>
    obtain ⟨rfl, rfl, hw⟩ := hcut
    subst hw
    generalize w1.drew = w2 at *
    clear cq c1 z0 z1 hr h1 hp1 hB1
    cases b with
    | false =>
      have hn := hno.out rfl
      have hfin : DropEnd base q l m v es y w (.returned (.bool false)) w2 := ⟨false, v, es, rfl, h2.out, hT2.out, (fun h => by cases h), (fun _ => ⟨rfl, hn⟩)⟩
      replace hfin := Keep.mk hfin
      clear hn
      go_wp2
      go_ret
      exact hfin.out
    | true =>
      obtain ⟨i, e, he, hnm, rfl⟩ := hyes.out rfl
      have cq : w2.cell? ⟨q, 0, none⟩ = some (.pointer (some ⟨l, 0, none⟩)) := by rw [Lib.cell_of_heap h2.out.cell]; rfl
      have hR := Keep.mk (Try.hRemove_walk h2.out.heap hsm he)
      replace he := Keep.mk he
      replace hnm := Keep.mk hnm
      go_wp2_with (go_at_call 19; refine hR.out.mono ?_)
      first | rintro x w3 rv rfl H3 | rintro x w3 ⟨rv, rfl, H3⟩
      obtain ⟨v3, es3, H3, T3, P3⟩ := H3
      have hfin : DropEnd base q l m v es y w (.returned (.bool true)) w3 := ⟨true, v3, es3, rfl, h2.out.turn T3 H3, hT2.out.trans T3, (fun _ => ⟨e, List.mem_of_getElem? he.out, hnm.out, P3⟩), (fun h => by cases h)⟩
      replace hfin := Keep.mk hfin
      clear hR cq H3 T3 P3
      go_wp2
      go_ret
      exact hfin.out
end Go.Proofs.Ytdohclfkbfeihaa
