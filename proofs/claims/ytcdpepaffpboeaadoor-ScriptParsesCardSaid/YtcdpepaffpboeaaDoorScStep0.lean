/- script.Step, walked: no step -/
import Derived.Test.YtcdpepaffpboeaaDoorScStepC
namespace Go.Proofs.YtcdpepaffpboeaaDoor
open Go.RowKit Go.Shelf Go.Maps
set_option maxHeartbeats 8000000 in
set_option maxRecDepth 1000000 in
theorem Tryd.Step_0 (s : ByteArray) (w : World) (hS : SV w) (hs : s.size ≤ 100000) (hkd : kindS stepW ((spl 32 s).getD 0 ⟨#[]⟩).data.toList = 0) :
    Calls Tryd.prog 9 #[.string s] w fun e w' => ∃ v b, e = .returned (.tuple #[v, .bool b]) ∧ b = (stepS s).isSome ∧ StepAt w' w.heap.size ((stepS s).getD StepR.zero) v ∧ Below w.heap.size w w' := by
  have hg2 : 8 ≤ w.heap.size := sv_size hS
  have hlen : 0 < (spl 32 s).length := by rw [spl_length]; omega
  have hl2 : (spl 32 s).length ≤ 100001 := Nat.le_trans (spl_le 32 s) (by omega)
  obtain ⟨m, hm⟩ := hS.ml
  have hm0 : ∀ o, (w.alloc o).cell? ⟨2, 0, none⟩ = some (.int .i64 m) := fun o => by rw [World.cell?_of_block (w := w) (Below.heap_alloc w o 2 (lt_of_cell hm))]; exact hm
  have hb0 : ∀ o, Below w.heap.size w (w.alloc o) := fun o => (Below.refl _ w).alloc (Nat.le_refl _) o
  have hr0 : ∀ o, (w.alloc o).heap[w.heap.size]? = some o := fun o => by
    show (w.heap.push o)[w.heap.size]? = _
    rw [Array.getElem?_push, if_pos rfl]
  go_enter Tryd.func9, Tryd.ntmps9
  go_wp2_with (go_at_call 20; refine (Tryd.Split_at 32 s _ (by omega) ⟨m, hm0 _⟩).mono ?_)
  rintro e w1 ⟨g, rfl, hgl, hgw, hb1⟩
  have hg1 : w.heap.size < g := by simp at hgl; omega
  have hgr : w1.heap[w.heap.size]? = _ := (hb1.block w.heap.size (by simp)).trans (hr0 _)
  have hB1 := below_next (hb0 _) hb1
  have S1 := hS.below hB1
  have hglt := lt_of_block hgw
  clear hm0 hb0 hr0 hgl hb1 hm hS
  have hsp : Keep (stepS s = stepW0 (spl 32 s)) := ⟨rfl⟩
  have hzs : ∀ x ∈ spl 32 s, x.size ≤ s.size := fun x hx => spl_size 32 s x hx
  generalize spl 32 s = ws at *
  obtain ⟨x0, hx0⟩ : ∃ x0, x0 = ws.getD 0 ⟨#[]⟩ := ⟨_, rfl⟩
  have hw0 : w1.cell? ⟨g, 0, none⟩ = some (.string x0) := by
    rw [Lib.cell_of_heap hgw, hx0]
    cases ws with
    | nil => simp at hlen
    | cons a l => rfl
  rw [← hx0] at hkd
  replace hx0 : Keep (x0 = ws.getD 0 ⟨#[]⟩) := ⟨hx0⟩
  replace hzs : Keep (∀ x ∈ ws, x.size ≤ s.size) := ⟨hzs⟩
  replace hkd : Keep (kindS stepW x0.data.toList = 0) := ⟨hkd⟩
  go_wp2
  go_cut [5] from 13 to 18 (fun v5 wx => v5 = .pointer (some ⟨w1.heap.size, 0, none⟩) ∧ wx = (w1.alloc (.cells (StepR.cells { kind := kindS stepW x0.data.toList } (.slice none 0 0)) 27 (0, 0))).drew)
  case first =>
    clear hgw hgr
    go_region_with (go_at_call 21; refine (Tryd.kind_walk 0 stepW 10 _ _ (by decide) (fun i hi => steps_at S1.toSVars ?_ i hi)).mono ?_; (first | rfl | rw [Below.heap_alloc _ _ _ (show 0 < w1.heap.size by omega)] | (show (w1.alloc _).heap[0]? = _; rw [Below.heap_alloc _ _ _ (show 0 < w1.heap.size by omega)])); rintro e w' ⟨rfl, rfl⟩)
    all_goals (go_wp2_with fail; go_meet; exact ⟨rfl, rfl⟩)
  case rest =>
    obtain ⟨rfl, hwc⟩ := hcut
    have hpw : wc.heap[w1.heap.size]? = some (.cells (StepR.cells { kind := 0 } (.slice none 0 0)) 27 (0, 0)) := by
      rw [hwc, hkd.out]
      show (w1.heap.push _)[w1.heap.size]? = _
      rw [Array.getElem?_push, if_pos rfl]
      rfl
    have hb2 : Below w1.heap.size w1 wc := by rw [hwc]; exact ((Below.refl _ w1).alloc (Nat.le_refl _) _).drew
    have hgw2 : wc.heap[g]? = _ := (hb2.block g hglt).trans hgw
    have hgr2 : wc.heap[w.heap.size]? = _ := (hb2.block _ (by omega)).trans hgr
    have hB2 := below_next hB1 hb2
    have S2 := S1.below hb2
    have hgp : g < w1.heap.size := hglt
    clear hwc hb2 hgw hgr hB1 S1 hglt hw0
    generalize w1.heap.size = p at *
    have p0 : wc.cell? ⟨p, 0, none⟩ = some (.int .i64 0) := by rw [Lib.cell_of_heap hpw]; rfl
    obtain ⟨u1, u2, u3, c, e1, e2, e3, er, hat, b3⟩ := tab_run wc 0 (by decide) (by decide)
    have hmm := @run_makeMap Tryd.prog
    have hat : (DataW.lit (.int .i64 0) : DataW Unit) = .lit (.int .i64 c) := hat
    cases hat
    have q0 : u3.cell? ⟨p, 0, none⟩ = some (.int .i64 0) := by rw [b3.cell (p := ⟨p, 0, none⟩) (lt_of_cell p0)]; exact p0
    have hB3 := below_next hB2 b3
    have hpw3 := (b3.block p (lt_of_block hpw)).trans hpw
    have hgw3 := (b3.block g (lt_of_block hgw2)).trans hgw2
    have hgr3 := (b3.block w.heap.size (lt_of_block hgr2)).trans hgr2
    have S3 := S2.below b3
    clear b3 hB2 hpw hgw2 hgr2 S2 p0
    have hno : stepS s = none := by
      rw [hsp.out]
      exact stepW0_zero ws (by rw [← hx0.out]; exact hkd.out)
    have hrc : ∀ i, u3.cell? ⟨w.heap.size, i, none⟩ = _ := fun i => Lib.cell_of_heap hgr3 i
    have hrf : ∀ i, u3.frozen? ⟨w.heap.size, i, none⟩ = false := fun i => Lib.frozen_of_heap hgr3 i
    clear hpw3 hgw3
    go_wp2
    refine bodyPost_ret (Tryd.results_step (r := w.heap.size) rfl (put_all hgr3 _ _ _ _ _ _ _ _ _ _ _).at_ rfl) rfl ?_
    exact ⟨_, _, rfl, by rw [hno]; rfl, stepAt_none hno, (put_all hgr3 _ _ _ _ _ _ _ _ _ _ _).below hB3 (Nat.le_refl _) hB3.size⟩
end Go.Proofs.YtcdpepaffpboeaaDoor
