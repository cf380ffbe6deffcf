/- script.Step, walked: kinds 2 3 4 -/
import Derived.Test.YtcdpepaffpboeaaDoorScStepC
namespace Go.Proofs.YtcdpepaffpboeaaDoor
open Go.RowKit Go.Shelf Go.Maps
set_option maxHeartbeats 8000000 in
set_option maxRecDepth 1000000 in
theorem Tryd.Step_2 (s : ByteArray) (w : World) (hS : SV w) (hs : s.size ≤ 100000) (hkd : kindS stepW ((spl 32 s).getD 0 ⟨#[]⟩).data.toList = 2) :
    Calls Tryd.prog 9 #[.string s] w fun e w' => ∃ v b, e = .returned (.tuple #[v, .bool b]) ∧ b = (stepS s).isSome ∧ StepAt w' w.heap.size ((stepS s).getD StepR.zero) v ∧ Below w.heap.size w w' := by
  have hg2 : 8 ≤ w.heap.size := sv_size hS
  have hlen : 0 < (spl 32 s).length := by rw [spl_length]; omega
  have hl2 : (spl 32 s).length ≤ 100001 := Nat.le_trans (spl_le 32 s) (by omega)
  obtain ⟨m, hm⟩ := hS.ml
  have hm0 : ∀ o, (w.alloc o).cell? ⟨2, 0, none⟩ = some (.int .i64 m) := fun o => by rw [World.cell?_of_block (w := w) (Below.heap_alloc w o 2 (lt_of_cell hm))]; exact hm
  have hb0 : ∀ o, Below w.heap.size w (w.alloc o) := fun o => (Below.refl _ w).alloc (Nat.le_refl _) o
  have hr0 : ∀ o, (w.alloc o).heap[w.heap.size]? = some o := fun o => by
    show (w.heap.push o)[w.heap.size]? = _
    rw [Array.getElem?_push, if_pos rfl]
  go_enter Tryd.func9, Tryd.ntmps9
  go_wp2_with (go_at_call 20; refine (Tryd.Split_at 32 s _ (by omega) ⟨m, hm0 _⟩).mono ?_)
  rintro e w1 ⟨g, rfl, hgl, hgw, hb1⟩
  have hg1 : w.heap.size < g := by simp at hgl; omega
  have hgr : w1.heap[w.heap.size]? = _ := (hb1.block w.heap.size (by simp)).trans (hr0 _)
  have hB1 := below_next (hb0 _) hb1
  have S1 := hS.below hB1
  have hglt := lt_of_block hgw
  clear hm0 hb0 hr0 hgl hb1 hm hS
  have hsp : Keep (stepS s = stepW0 (spl 32 s)) := ⟨rfl⟩
  have hzs : ∀ x ∈ spl 32 s, x.size ≤ s.size := fun x hx => spl_size 32 s x hx
  generalize spl 32 s = ws at *
  obtain ⟨x0, hx0⟩ : ∃ x0, x0 = ws.getD 0 ⟨#[]⟩ := ⟨_, rfl⟩
  have hw0 : w1.cell? ⟨g, 0, none⟩ = some (.string x0) := by
    rw [Lib.cell_of_heap hgw, hx0]
    cases ws with
    | nil => simp at hlen
    | cons a l => rfl
  rw [← hx0] at hkd
  replace hx0 : Keep (x0 = ws.getD 0 ⟨#[]⟩) := ⟨hx0⟩
  replace hzs : Keep (∀ x ∈ ws, x.size ≤ s.size) := ⟨hzs⟩
  replace hkd : Keep (kindS stepW x0.data.toList = 2) := ⟨hkd⟩
  go_wp2
  go_cut [5] from 13 to 18 (fun v5 wx => v5 = .pointer (some ⟨w1.heap.size, 0, none⟩) ∧ wx = (w1.alloc (.cells (StepR.cells { kind := kindS stepW x0.data.toList } (.slice none 0 0)) 27 (0, 0))).drew)
  case first =>
    clear hgw hgr
    go_region_with (go_at_call 21; refine (Tryd.kind_walk 0 stepW 10 _ _ (by decide) (fun i hi => steps_at S1.toSVars ?_ i hi)).mono ?_; (first | rfl | rw [Below.heap_alloc _ _ _ (show 0 < w1.heap.size by omega)] | (show (w1.alloc _).heap[0]? = _; rw [Below.heap_alloc _ _ _ (show 0 < w1.heap.size by omega)])); rintro e w' ⟨rfl, rfl⟩)
    all_goals (go_wp2_with fail; go_meet; exact ⟨rfl, rfl⟩)
  case rest =>
    obtain ⟨rfl, hwc⟩ := hcut
    have hpw : wc.heap[w1.heap.size]? = some (.cells (StepR.cells { kind := 2 } (.slice none 0 0)) 27 (0, 0)) := by
      rw [hwc, hkd.out]
      show (w1.heap.push _)[w1.heap.size]? = _
      rw [Array.getElem?_push, if_pos rfl]
      rfl
    have hb2 : Below w1.heap.size w1 wc := by rw [hwc]; exact ((Below.refl _ w1).alloc (Nat.le_refl _) _).drew
    have hgw2 : wc.heap[g]? = _ := (hb2.block g hglt).trans hgw
    have hgr2 : wc.heap[w.heap.size]? = _ := (hb2.block _ (by omega)).trans hgr
    have hB2 := below_next hB1 hb2
    have S2 := S1.below hb2
    have hgp : g < w1.heap.size := hglt
    clear hwc hb2 hgw hgr hB1 S1 hglt hw0
    generalize w1.heap.size = p at *
    have p0 : wc.cell? ⟨p, 0, none⟩ = some (.int .i64 2) := by rw [Lib.cell_of_heap hpw]; rfl
    obtain ⟨u1, u2, u3, c, e1, e2, e3, er, hat, b3⟩ := tab_run wc 2 (by decide) (by decide)
    have hmm := @run_makeMap Tryd.prog
    have hat : (DataW.lit (.int .i64 0) : DataW Unit) = .lit (.int .i64 c) := hat
    cases hat
    have q0 : u3.cell? ⟨p, 0, none⟩ = some (.int .i64 2) := by rw [b3.cell (p := ⟨p, 0, none⟩) (lt_of_cell p0)]; exact p0
    have hB3 := below_next hB2 b3
    have hpw3 := (b3.block p (lt_of_block hpw)).trans hpw
    have hgw3 := (b3.block g (lt_of_block hgw2)).trans hgw2
    have hgr3 := (b3.block w.heap.size (lt_of_block hgr2)).trans hgr2
    have S3 := S2.below b3
    clear b3 hB2 hpw hgw2 hgr2 S2 p0
    by_cases hcnt : ws.length = 2
    case neg =>
      have hno : stepS s = none := by
        rw [hsp.out]
        exact stepW0_count ws 2 (by rw [← hx0.out]; exact hkd.out) hcnt
      have hrc : ∀ i, u3.cell? ⟨w.heap.size, i, none⟩ = _ := fun i => Lib.cell_of_heap hgr3 i
      have hrf : ∀ i, u3.frozen? ⟨w.heap.size, i, none⟩ = false := fun i => Lib.frozen_of_heap hgr3 i
      have hcnt' : ((ws.length : Int) != 2) = true := by
        rw [bne_iff_ne]
        omega
      clear hpw3 hgw3 hcnt
      go_wp2
      refine bodyPost_ret (Tryd.results_step (r := w.heap.size) rfl (put_all hgr3 _ _ _ _ _ _ _ _ _ _ _).at_ rfl) rfl ?_
      exact ⟨_, _, rfl, by rw [hno]; rfl, stepAt_none hno, (put_all hgr3 _ _ _ _ _ _ _ _ _ _ _).below hB3 (Nat.le_refl _) hB3.size⟩
    case pos =>
      have hws : ws.length = 2 := hcnt
      have hcw : ∀ (i : Nat) (h : i < ((ws.drop 1).take 1).length), u3.cell? ⟨g, 1 + i, none⟩ = some (.string ((ws.drop 1).take 1)[i]) := fun i h => by
        have h1 : 1 + i < ws.length := by simp at h; omega
        rw [Lib.cell_of_heap hgw3]
        simp [List.getElem?_eq_getElem h1, Nat.add_comm]
      have hzw : ∀ (i : Nat) (h : i < ((ws.drop 1).take 1).length), ((ws.drop 1).take 1)[i].size ≤ 281474976710656 := fun i h => by
        have := hzs.out _ (List.mem_of_mem_drop (List.mem_of_mem_take (List.getElem_mem h)))
        omega
      have hnl : ((ws.drop 1).take 1).length = 1 := by simp; omega
      have hgl3 : g < u3.heap.size := lt_of_block hgw3
      have hNC := Tryd.numbers_walk g 1 ((ws.drop 1).take 1) (ws.length - 1) u3 S3.toSVars (by omega) hzw hgl3 hcw
      rw [hnl] at hNC
      clear hcw hzw
      replace hNC := Keep.mk hNC
      have hmin : min (2 : Int) 4 = 2 := by decide
      rw [hws] at hNC
      go_wp2_with (go_at_call 22; refine hNC.out.mono ?_)
      rintro e u4 ⟨vn, bn, rfl, hbn, hown, b4⟩
      have hB4 := below_next hB3 b4
      have hpw4 : u4.heap[p]? = some (.cells #[.int .i64 2, .int .i64 0, .int .i64 0, .int .i64 0, .int .i64 0, .string ⟨#[]⟩, .string ⟨#[]⟩, .int .i64 0, .int .i64 0, .slice none 0 0, .int .i64 0] 27 (0, 0)) := (b4.block p (lt_of_block hpw3)).trans hpw3
      have hgw4 := (b4.block g hgl3).trans hgw3
      have hgr4 := (b4.block w.heap.size (lt_of_block hgr3)).trans hgr3
      have S4 := S3.below b4
      have hpl4 : p < u3.heap.size := lt_of_block hpw3
      clear hpw3 hgw3 hgr3 S3 hB3 b4 hNC q0 hgl3
      cases hnum : numsF ((ws.drop 1).take 1) with
      | none =>
        rw [hnum] at hbn
        simp only [Option.isSome_none] at hbn
        subst hbn
        have hno : stepS s = none := by
          rw [hsp.out]
          exact stepW0_num ws 2 (by rw [← hx0.out]; exact hkd.out) (by decide) hws hnum
        have q0 : u4.cell? ⟨p, 0, none⟩ = some (.int .i64 2) := by rw [Lib.cell_of_heap hpw4]; rfl
        have hrc : ∀ i, u4.cell? ⟨w.heap.size, i, none⟩ = _ := fun i => Lib.cell_of_heap hgr4 i
        have hrf : ∀ i, u4.frozen? ⟨w.heap.size, i, none⟩ = false := fun i => Lib.frozen_of_heap hgr4 i
        clear hpw4 hgw4 hown hnum
        go_wp2
        refine bodyPost_ret (Tryd.results_step (r := w.heap.size) rfl (put_all hgr4 _ _ _ _ _ _ _ _ _ _ _).at_ rfl) rfl ?_
        exact ⟨_, _, rfl, by rw [hno]; rfl, stepAt_none hno, (put_all hgr4 _ _ _ _ _ _ _ _ _ _ _).below hB4 (Nat.le_refl _) hB4.size⟩
      | some ns =>
        rw [hnum] at hbn
        simp only [Option.isSome_some] at hbn
        subst hbn
        have hown := hown ns hnum
        have hnsl := numsF_length _ _ hnum
        rw [hnl] at hnsl
        obtain ⟨gn, cn, hvn, hgn, hng⟩ := own_ints hown (by omega)
        subst hvn
        rw [hnsl] at *
        obtain ⟨a, rfl⟩ : ∃ a, ns = [a] := by
          match ns, hnsl with
          | [a], _ => exact ⟨a, rfl⟩
        have n0 : u4.cell? ⟨gn, 0, none⟩ = some (.int .i64 a) := hng 0 a rfl
        have hyes : stepS s = some { kind := 2, dest := a } := by
          rw [hsp.out]
          exact stepW0_one7 ws 2 (by rw [← hx0.out]; exact hkd.out) (by decide) hws hnum
        have hgnp : gn ≠ p := by omega
        have hrp : w.heap.size ≠ p := by omega
        have hpc : ∀ i, u4.cell? ⟨p, i, none⟩ = _ := fun i => Lib.cell_of_heap hpw4 i
        have hpf : ∀ i, u4.frozen? ⟨p, i, none⟩ = false := fun i => Lib.frozen_of_heap hpw4 i
        have hrc : ∀ i, u4.cell? ⟨w.heap.size, i, none⟩ = _ := fun i => Lib.cell_of_heap hgr4 i
        have hrf : ∀ i, u4.frozen? ⟨w.heap.size, i, none⟩ = false := fun i => Lib.frozen_of_heap hgr4 i
        have hgr5 : (u4.setCell ⟨p, 7, none⟩ (.int .i64 a)).heap[w.heap.size]? = _ := (heap_setCell_other u4 ⟨p, 7, none⟩ w.heap.size (.int .i64 a) hrp).trans hgr4
        have hB5 : Below w.heap.size w (u4.setCell ⟨p, 7, none⟩ (.int .i64 a)) := hB4.setCell (by show w.heap.size ≤ p; omega) _
        clear hgw4 hnum hown hng
        go_wp2
        refine bodyPost_ret (Tryd.results_step (r := w.heap.size) rfl (put_all hgr5 _ _ _ _ _ _ _ _ _ _ _).at_ rfl) rfl ?_
        exact ⟨_, _, rfl, by rw [hyes]; rfl, stepAt_some hyes ⟨.slice none 0 0, rfl, World.ownsRow_nil _ _ _ _⟩, (put_all hgr5 _ _ _ _ _ _ _ _ _ _ _).below hB5 (Nat.le_refl _) hB5.size⟩
set_option maxHeartbeats 8000000 in
set_option maxRecDepth 1000000 in
theorem Tryd.Step_3 (s : ByteArray) (w : World) (hS : SV w) (hs : s.size ≤ 100000) (hkd : kindS stepW ((spl 32 s).getD 0 ⟨#[]⟩).data.toList = 3) :
    Calls Tryd.prog 9 #[.string s] w fun e w' => ∃ v b, e = .returned (.tuple #[v, .bool b]) ∧ b = (stepS s).isSome ∧ StepAt w' w.heap.size ((stepS s).getD StepR.zero) v ∧ Below w.heap.size w w' := by
  have hg2 : 8 ≤ w.heap.size := sv_size hS
  have hlen : 0 < (spl 32 s).length := by rw [spl_length]; omega
  have hl2 : (spl 32 s).length ≤ 100001 := Nat.le_trans (spl_le 32 s) (by omega)
  obtain ⟨m, hm⟩ := hS.ml
  have hm0 : ∀ o, (w.alloc o).cell? ⟨2, 0, none⟩ = some (.int .i64 m) := fun o => by rw [World.cell?_of_block (w := w) (Below.heap_alloc w o 2 (lt_of_cell hm))]; exact hm
  have hb0 : ∀ o, Below w.heap.size w (w.alloc o) := fun o => (Below.refl _ w).alloc (Nat.le_refl _) o
  have hr0 : ∀ o, (w.alloc o).heap[w.heap.size]? = some o := fun o => by
    show (w.heap.push o)[w.heap.size]? = _
    rw [Array.getElem?_push, if_pos rfl]
  go_enter Tryd.func9, Tryd.ntmps9
  go_wp2_with (go_at_call 20; refine (Tryd.Split_at 32 s _ (by omega) ⟨m, hm0 _⟩).mono ?_)
  rintro e w1 ⟨g, rfl, hgl, hgw, hb1⟩
  have hg1 : w.heap.size < g := by simp at hgl; omega
  have hgr : w1.heap[w.heap.size]? = _ := (hb1.block w.heap.size (by simp)).trans (hr0 _)
  have hB1 := below_next (hb0 _) hb1
  have S1 := hS.below hB1
  have hglt := lt_of_block hgw
  clear hm0 hb0 hr0 hgl hb1 hm hS
  have hsp : Keep (stepS s = stepW0 (spl 32 s)) := ⟨rfl⟩
  have hzs : ∀ x ∈ spl 32 s, x.size ≤ s.size := fun x hx => spl_size 32 s x hx
  generalize spl 32 s = ws at *
  obtain ⟨x0, hx0⟩ : ∃ x0, x0 = ws.getD 0 ⟨#[]⟩ := ⟨_, rfl⟩
  have hw0 : w1.cell? ⟨g, 0, none⟩ = some (.string x0) := by
    rw [Lib.cell_of_heap hgw, hx0]
    cases ws with
    | nil => simp at hlen
    | cons a l => rfl
  rw [← hx0] at hkd
  replace hx0 : Keep (x0 = ws.getD 0 ⟨#[]⟩) := ⟨hx0⟩
  replace hzs : Keep (∀ x ∈ ws, x.size ≤ s.size) := ⟨hzs⟩
  replace hkd : Keep (kindS stepW x0.data.toList = 3) := ⟨hkd⟩
  go_wp2
  go_cut [5] from 13 to 18 (fun v5 wx => v5 = .pointer (some ⟨w1.heap.size, 0, none⟩) ∧ wx = (w1.alloc (.cells (StepR.cells { kind := kindS stepW x0.data.toList } (.slice none 0 0)) 27 (0, 0))).drew)
  case first =>
    clear hgw hgr
    go_region_with (go_at_call 21; refine (Tryd.kind_walk 0 stepW 10 _ _ (by decide) (fun i hi => steps_at S1.toSVars ?_ i hi)).mono ?_; (first | rfl | rw [Below.heap_alloc _ _ _ (show 0 < w1.heap.size by omega)] | (show (w1.alloc _).heap[0]? = _; rw [Below.heap_alloc _ _ _ (show 0 < w1.heap.size by omega)])); rintro e w' ⟨rfl, rfl⟩)
    all_goals (go_wp2_with fail; go_meet; exact ⟨rfl, rfl⟩)
  case rest =>
    obtain ⟨rfl, hwc⟩ := hcut
    have hpw : wc.heap[w1.heap.size]? = some (.cells (StepR.cells { kind := 3 } (.slice none 0 0)) 27 (0, 0)) := by
      rw [hwc, hkd.out]
      show (w1.heap.push _)[w1.heap.size]? = _
      rw [Array.getElem?_push, if_pos rfl]
      rfl
    have hb2 : Below w1.heap.size w1 wc := by rw [hwc]; exact ((Below.refl _ w1).alloc (Nat.le_refl _) _).drew
    have hgw2 : wc.heap[g]? = _ := (hb2.block g hglt).trans hgw
    have hgr2 : wc.heap[w.heap.size]? = _ := (hb2.block _ (by omega)).trans hgr
    have hB2 := below_next hB1 hb2
    have S2 := S1.below hb2
    have hgp : g < w1.heap.size := hglt
    clear hwc hb2 hgw hgr hB1 S1 hglt hw0
    generalize w1.heap.size = p at *
    have p0 : wc.cell? ⟨p, 0, none⟩ = some (.int .i64 3) := by rw [Lib.cell_of_heap hpw]; rfl
    obtain ⟨u1, u2, u3, c, e1, e2, e3, er, hat, b3⟩ := tab_run wc 3 (by decide) (by decide)
    have hmm := @run_makeMap Tryd.prog
    have hat : (DataW.lit (.int .i64 0) : DataW Unit) = .lit (.int .i64 c) := hat
    cases hat
    have q0 : u3.cell? ⟨p, 0, none⟩ = some (.int .i64 3) := by rw [b3.cell (p := ⟨p, 0, none⟩) (lt_of_cell p0)]; exact p0
    have hB3 := below_next hB2 b3
    have hpw3 := (b3.block p (lt_of_block hpw)).trans hpw
    have hgw3 := (b3.block g (lt_of_block hgw2)).trans hgw2
    have hgr3 := (b3.block w.heap.size (lt_of_block hgr2)).trans hgr2
    have S3 := S2.below b3
    clear b3 hB2 hpw hgw2 hgr2 S2 p0
    by_cases hcnt : ws.length = 2
    case neg =>
      have hno : stepS s = none := by
        rw [hsp.out]
        exact stepW0_count ws 3 (by rw [← hx0.out]; exact hkd.out) hcnt
      have hrc : ∀ i, u3.cell? ⟨w.heap.size, i, none⟩ = _ := fun i => Lib.cell_of_heap hgr3 i
      have hrf : ∀ i, u3.frozen? ⟨w.heap.size, i, none⟩ = false := fun i => Lib.frozen_of_heap hgr3 i
      have hcnt' : ((ws.length : Int) != 2) = true := by
        rw [bne_iff_ne]
        omega
      clear hpw3 hgw3 hcnt
      go_wp2
      refine bodyPost_ret (Tryd.results_step (r := w.heap.size) rfl (put_all hgr3 _ _ _ _ _ _ _ _ _ _ _).at_ rfl) rfl ?_
      exact ⟨_, _, rfl, by rw [hno]; rfl, stepAt_none hno, (put_all hgr3 _ _ _ _ _ _ _ _ _ _ _).below hB3 (Nat.le_refl _) hB3.size⟩
    case pos =>
      have hws : ws.length = 2 := hcnt
      have hcw : ∀ (i : Nat) (h : i < ((ws.drop 1).take 1).length), u3.cell? ⟨g, 1 + i, none⟩ = some (.string ((ws.drop 1).take 1)[i]) := fun i h => by
        have h1 : 1 + i < ws.length := by simp at h; omega
        rw [Lib.cell_of_heap hgw3]
        simp [List.getElem?_eq_getElem h1, Nat.add_comm]
      have hzw : ∀ (i : Nat) (h : i < ((ws.drop 1).take 1).length), ((ws.drop 1).take 1)[i].size ≤ 281474976710656 := fun i h => by
        have := hzs.out _ (List.mem_of_mem_drop (List.mem_of_mem_take (List.getElem_mem h)))
        omega
      have hnl : ((ws.drop 1).take 1).length = 1 := by simp; omega
      have hgl3 : g < u3.heap.size := lt_of_block hgw3
      have hNC := Tryd.numbers_walk g 1 ((ws.drop 1).take 1) (ws.length - 1) u3 S3.toSVars (by omega) hzw hgl3 hcw
      rw [hnl] at hNC
      clear hcw hzw
      replace hNC := Keep.mk hNC
      have hmin : min (2 : Int) 4 = 2 := by decide
      rw [hws] at hNC
      go_wp2_with (go_at_call 22; refine hNC.out.mono ?_)
      rintro e u4 ⟨vn, bn, rfl, hbn, hown, b4⟩
      have hB4 := below_next hB3 b4
      have hpw4 : u4.heap[p]? = some (.cells #[.int .i64 3, .int .i64 0, .int .i64 0, .int .i64 0, .int .i64 0, .string ⟨#[]⟩, .string ⟨#[]⟩, .int .i64 0, .int .i64 0, .slice none 0 0, .int .i64 0] 27 (0, 0)) := (b4.block p (lt_of_block hpw3)).trans hpw3
      have hgw4 := (b4.block g hgl3).trans hgw3
      have hgr4 := (b4.block w.heap.size (lt_of_block hgr3)).trans hgr3
      have S4 := S3.below b4
      have hpl4 : p < u3.heap.size := lt_of_block hpw3
      clear hpw3 hgw3 hgr3 S3 hB3 b4 hNC q0 hgl3
      cases hnum : numsF ((ws.drop 1).take 1) with
      | none =>
        rw [hnum] at hbn
        simp only [Option.isSome_none] at hbn
        subst hbn
        have hno : stepS s = none := by
          rw [hsp.out]
          exact stepW0_num ws 3 (by rw [← hx0.out]; exact hkd.out) (by decide) hws hnum
        have q0 : u4.cell? ⟨p, 0, none⟩ = some (.int .i64 3) := by rw [Lib.cell_of_heap hpw4]; rfl
        have hrc : ∀ i, u4.cell? ⟨w.heap.size, i, none⟩ = _ := fun i => Lib.cell_of_heap hgr4 i
        have hrf : ∀ i, u4.frozen? ⟨w.heap.size, i, none⟩ = false := fun i => Lib.frozen_of_heap hgr4 i
        clear hpw4 hgw4 hown hnum
        go_wp2
        refine bodyPost_ret (Tryd.results_step (r := w.heap.size) rfl (put_all hgr4 _ _ _ _ _ _ _ _ _ _ _).at_ rfl) rfl ?_
        exact ⟨_, _, rfl, by rw [hno]; rfl, stepAt_none hno, (put_all hgr4 _ _ _ _ _ _ _ _ _ _ _).below hB4 (Nat.le_refl _) hB4.size⟩
      | some ns =>
        rw [hnum] at hbn
        simp only [Option.isSome_some] at hbn
        subst hbn
        have hown := hown ns hnum
        have hnsl := numsF_length _ _ hnum
        rw [hnl] at hnsl
        obtain ⟨gn, cn, hvn, hgn, hng⟩ := own_ints hown (by omega)
        subst hvn
        rw [hnsl] at *
        obtain ⟨a, rfl⟩ : ∃ a, ns = [a] := by
          match ns, hnsl with
          | [a], _ => exact ⟨a, rfl⟩
        have n0 : u4.cell? ⟨gn, 0, none⟩ = some (.int .i64 a) := hng 0 a rfl
        have hyes : stepS s = some { kind := 3, dest := a } := by
          rw [hsp.out]
          exact stepW0_one7 ws 3 (by rw [← hx0.out]; exact hkd.out) (by decide) hws hnum
        have hgnp : gn ≠ p := by omega
        have hrp : w.heap.size ≠ p := by omega
        have hpc : ∀ i, u4.cell? ⟨p, i, none⟩ = _ := fun i => Lib.cell_of_heap hpw4 i
        have hpf : ∀ i, u4.frozen? ⟨p, i, none⟩ = false := fun i => Lib.frozen_of_heap hpw4 i
        have hrc : ∀ i, u4.cell? ⟨w.heap.size, i, none⟩ = _ := fun i => Lib.cell_of_heap hgr4 i
        have hrf : ∀ i, u4.frozen? ⟨w.heap.size, i, none⟩ = false := fun i => Lib.frozen_of_heap hgr4 i
        have hgr5 : (u4.setCell ⟨p, 7, none⟩ (.int .i64 a)).heap[w.heap.size]? = _ := (heap_setCell_other u4 ⟨p, 7, none⟩ w.heap.size (.int .i64 a) hrp).trans hgr4
        have hB5 : Below w.heap.size w (u4.setCell ⟨p, 7, none⟩ (.int .i64 a)) := hB4.setCell (by show w.heap.size ≤ p; omega) _
        clear hgw4 hnum hown hng
        go_wp2
        refine bodyPost_ret (Tryd.results_step (r := w.heap.size) rfl (put_all hgr5 _ _ _ _ _ _ _ _ _ _ _).at_ rfl) rfl ?_
        exact ⟨_, _, rfl, by rw [hyes]; rfl, stepAt_some hyes ⟨.slice none 0 0, rfl, World.ownsRow_nil _ _ _ _⟩, (put_all hgr5 _ _ _ _ _ _ _ _ _ _ _).below hB5 (Nat.le_refl _) hB5.size⟩
set_option maxHeartbeats 8000000 in
set_option maxRecDepth 1000000 in
theorem Tryd.Step_4 (s : ByteArray) (w : World) (hS : SV w) (hs : s.size ≤ 100000) (hkd : kindS stepW ((spl 32 s).getD 0 ⟨#[]⟩).data.toList = 4) :
    Calls Tryd.prog 9 #[.string s] w fun e w' => ∃ v b, e = .returned (.tuple #[v, .bool b]) ∧ b = (stepS s).isSome ∧ StepAt w' w.heap.size ((stepS s).getD StepR.zero) v ∧ Below w.heap.size w w' := by
  have hg2 : 8 ≤ w.heap.size := sv_size hS
  have hlen : 0 < (spl 32 s).length := by rw [spl_length]; omega
  have hl2 : (spl 32 s).length ≤ 100001 := Nat.le_trans (spl_le 32 s) (by omega)
  obtain ⟨m, hm⟩ := hS.ml
  have hm0 : ∀ o, (w.alloc o).cell? ⟨2, 0, none⟩ = some (.int .i64 m) := fun o => by rw [World.cell?_of_block (w := w) (Below.heap_alloc w o 2 (lt_of_cell hm))]; exact hm
  have hb0 : ∀ o, Below w.heap.size w (w.alloc o) := fun o => (Below.refl _ w).alloc (Nat.le_refl _) o
  have hr0 : ∀ o, (w.alloc o).heap[w.heap.size]? = some o := fun o => by
    show (w.heap.push o)[w.heap.size]? = _
    rw [Array.getElem?_push, if_pos rfl]
  go_enter Tryd.func9, Tryd.ntmps9
  go_wp2_with (go_at_call 20; refine (Tryd.Split_at 32 s _ (by omega) ⟨m, hm0 _⟩).mono ?_)
  rintro e w1 ⟨g, rfl, hgl, hgw, hb1⟩
  have hg1 : w.heap.size < g := by simp at hgl; omega
  have hgr : w1.heap[w.heap.size]? = _ := (hb1.block w.heap.size (by simp)).trans (hr0 _)
  have hB1 := below_next (hb0 _) hb1
  have S1 := hS.below hB1
  have hglt := lt_of_block hgw
  clear hm0 hb0 hr0 hgl hb1 hm hS
  have hsp : Keep (stepS s = stepW0 (spl 32 s)) := ⟨rfl⟩
  have hzs : ∀ x ∈ spl 32 s, x.size ≤ s.size := fun x hx => spl_size 32 s x hx
  generalize spl 32 s = ws at *
  obtain ⟨x0, hx0⟩ : ∃ x0, x0 = ws.getD 0 ⟨#[]⟩ := ⟨_, rfl⟩
  have hw0 : w1.cell? ⟨g, 0, none⟩ = some (.string x0) := by
    rw [Lib.cell_of_heap hgw, hx0]
    cases ws with
    | nil => simp at hlen
    | cons a l => rfl
  rw [← hx0] at hkd
  replace hx0 : Keep (x0 = ws.getD 0 ⟨#[]⟩) := ⟨hx0⟩
  replace hzs : Keep (∀ x ∈ ws, x.size ≤ s.size) := ⟨hzs⟩
  replace hkd : Keep (kindS stepW x0.data.toList = 4) := ⟨hkd⟩
  go_wp2
  go_cut [5] from 13 to 18 (fun v5 wx => v5 = .pointer (some ⟨w1.heap.size, 0, none⟩) ∧ wx = (w1.alloc (.cells (StepR.cells { kind := kindS stepW x0.data.toList } (.slice none 0 0)) 27 (0, 0))).drew)
  case first =>
    clear hgw hgr
    go_region_with (go_at_call 21; refine (Tryd.kind_walk 0 stepW 10 _ _ (by decide) (fun i hi => steps_at S1.toSVars ?_ i hi)).mono ?_; (first | rfl | rw [Below.heap_alloc _ _ _ (show 0 < w1.heap.size by omega)] | (show (w1.alloc _).heap[0]? = _; rw [Below.heap_alloc _ _ _ (show 0 < w1.heap.size by omega)])); rintro e w' ⟨rfl, rfl⟩)
    all_goals (go_wp2_with fail; go_meet; exact ⟨rfl, rfl⟩)
  case rest =>
    obtain ⟨rfl, hwc⟩ := hcut
    have hpw : wc.heap[w1.heap.size]? = some (.cells (StepR.cells { kind := 4 } (.slice none 0 0)) 27 (0, 0)) := by
      rw [hwc, hkd.out]
      show (w1.heap.push _)[w1.heap.size]? = _
      rw [Array.getElem?_push, if_pos rfl]
      rfl
    have hb2 : Below w1.heap.size w1 wc := by rw [hwc]; exact ((Below.refl _ w1).alloc (Nat.le_refl _) _).drew
    have hgw2 : wc.heap[g]? = _ := (hb2.block g hglt).trans hgw
    have hgr2 : wc.heap[w.heap.size]? = _ := (hb2.block _ (by omega)).trans hgr
    have hB2 := below_next hB1 hb2
    have S2 := S1.below hb2
    have hgp : g < w1.heap.size := hglt
    clear hwc hb2 hgw hgr hB1 S1 hglt hw0
    generalize w1.heap.size = p at *
    have p0 : wc.cell? ⟨p, 0, none⟩ = some (.int .i64 4) := by rw [Lib.cell_of_heap hpw]; rfl
    obtain ⟨u1, u2, u3, c, e1, e2, e3, er, hat, b3⟩ := tab_run wc 4 (by decide) (by decide)
    have hmm := @run_makeMap Tryd.prog
    have hat : (DataW.lit (.int .i64 0) : DataW Unit) = .lit (.int .i64 c) := hat
    cases hat
    have q0 : u3.cell? ⟨p, 0, none⟩ = some (.int .i64 4) := by rw [b3.cell (p := ⟨p, 0, none⟩) (lt_of_cell p0)]; exact p0
    have hB3 := below_next hB2 b3
    have hpw3 := (b3.block p (lt_of_block hpw)).trans hpw
    have hgw3 := (b3.block g (lt_of_block hgw2)).trans hgw2
    have hgr3 := (b3.block w.heap.size (lt_of_block hgr2)).trans hgr2
    have S3 := S2.below b3
    clear b3 hB2 hpw hgw2 hgr2 S2 p0
    by_cases hcnt : ws.length = 2
    case neg =>
      have hno : stepS s = none := by
        rw [hsp.out]
        exact stepW0_count ws 4 (by rw [← hx0.out]; exact hkd.out) hcnt
      have hrc : ∀ i, u3.cell? ⟨w.heap.size, i, none⟩ = _ := fun i => Lib.cell_of_heap hgr3 i
      have hrf : ∀ i, u3.frozen? ⟨w.heap.size, i, none⟩ = false := fun i => Lib.frozen_of_heap hgr3 i
      have hcnt' : ((ws.length : Int) != 2) = true := by
        rw [bne_iff_ne]
        omega
      clear hpw3 hgw3 hcnt
      go_wp2
      refine bodyPost_ret (Tryd.results_step (r := w.heap.size) rfl (put_all hgr3 _ _ _ _ _ _ _ _ _ _ _).at_ rfl) rfl ?_
      exact ⟨_, _, rfl, by rw [hno]; rfl, stepAt_none hno, (put_all hgr3 _ _ _ _ _ _ _ _ _ _ _).below hB3 (Nat.le_refl _) hB3.size⟩
    case pos =>
      have hws : ws.length = 2 := hcnt
      have hcw : ∀ (i : Nat) (h : i < ((ws.drop 1).take 1).length), u3.cell? ⟨g, 1 + i, none⟩ = some (.string ((ws.drop 1).take 1)[i]) := fun i h => by
        have h1 : 1 + i < ws.length := by simp at h; omega
        rw [Lib.cell_of_heap hgw3]
        simp [List.getElem?_eq_getElem h1, Nat.add_comm]
      have hzw : ∀ (i : Nat) (h : i < ((ws.drop 1).take 1).length), ((ws.drop 1).take 1)[i].size ≤ 281474976710656 := fun i h => by
        have := hzs.out _ (List.mem_of_mem_drop (List.mem_of_mem_take (List.getElem_mem h)))
        omega
      have hnl : ((ws.drop 1).take 1).length = 1 := by simp; omega
      have hgl3 : g < u3.heap.size := lt_of_block hgw3
      have hNC := Tryd.numbers_walk g 1 ((ws.drop 1).take 1) (ws.length - 1) u3 S3.toSVars (by omega) hzw hgl3 hcw
      rw [hnl] at hNC
      clear hcw hzw
      replace hNC := Keep.mk hNC
      have hmin : min (2 : Int) 4 = 2 := by decide
      rw [hws] at hNC
      go_wp2_with (go_at_call 22; refine hNC.out.mono ?_)
      rintro e u4 ⟨vn, bn, rfl, hbn, hown, b4⟩
      have hB4 := below_next hB3 b4
      have hpw4 : u4.heap[p]? = some (.cells #[.int .i64 4, .int .i64 0, .int .i64 0, .int .i64 0, .int .i64 0, .string ⟨#[]⟩, .string ⟨#[]⟩, .int .i64 0, .int .i64 0, .slice none 0 0, .int .i64 0] 27 (0, 0)) := (b4.block p (lt_of_block hpw3)).trans hpw3
      have hgw4 := (b4.block g hgl3).trans hgw3
      have hgr4 := (b4.block w.heap.size (lt_of_block hgr3)).trans hgr3
      have S4 := S3.below b4
      have hpl4 : p < u3.heap.size := lt_of_block hpw3
      clear hpw3 hgw3 hgr3 S3 hB3 b4 hNC q0 hgl3
      cases hnum : numsF ((ws.drop 1).take 1) with
      | none =>
        rw [hnum] at hbn
        simp only [Option.isSome_none] at hbn
        subst hbn
        have hno : stepS s = none := by
          rw [hsp.out]
          exact stepW0_num ws 4 (by rw [← hx0.out]; exact hkd.out) (by decide) hws hnum
        have q0 : u4.cell? ⟨p, 0, none⟩ = some (.int .i64 4) := by rw [Lib.cell_of_heap hpw4]; rfl
        have hrc : ∀ i, u4.cell? ⟨w.heap.size, i, none⟩ = _ := fun i => Lib.cell_of_heap hgr4 i
        have hrf : ∀ i, u4.frozen? ⟨w.heap.size, i, none⟩ = false := fun i => Lib.frozen_of_heap hgr4 i
        clear hpw4 hgw4 hown hnum
        go_wp2
        refine bodyPost_ret (Tryd.results_step (r := w.heap.size) rfl (put_all hgr4 _ _ _ _ _ _ _ _ _ _ _).at_ rfl) rfl ?_
        exact ⟨_, _, rfl, by rw [hno]; rfl, stepAt_none hno, (put_all hgr4 _ _ _ _ _ _ _ _ _ _ _).below hB4 (Nat.le_refl _) hB4.size⟩
      | some ns =>
        rw [hnum] at hbn
        simp only [Option.isSome_some] at hbn
        subst hbn
        have hown := hown ns hnum
        have hnsl := numsF_length _ _ hnum
        rw [hnl] at hnsl
        obtain ⟨gn, cn, hvn, hgn, hng⟩ := own_ints hown (by omega)
        subst hvn
        rw [hnsl] at *
        obtain ⟨a, rfl⟩ : ∃ a, ns = [a] := by
          match ns, hnsl with
          | [a], _ => exact ⟨a, rfl⟩
        have n0 : u4.cell? ⟨gn, 0, none⟩ = some (.int .i64 a) := hng 0 a rfl
        have hyes : stepS s = some { kind := 4, dest := a } := by
          rw [hsp.out]
          exact stepW0_one7 ws 4 (by rw [← hx0.out]; exact hkd.out) (by decide) hws hnum
        have hgnp : gn ≠ p := by omega
        have hrp : w.heap.size ≠ p := by omega
        have hpc : ∀ i, u4.cell? ⟨p, i, none⟩ = _ := fun i => Lib.cell_of_heap hpw4 i
        have hpf : ∀ i, u4.frozen? ⟨p, i, none⟩ = false := fun i => Lib.frozen_of_heap hpw4 i
        have hrc : ∀ i, u4.cell? ⟨w.heap.size, i, none⟩ = _ := fun i => Lib.cell_of_heap hgr4 i
        have hrf : ∀ i, u4.frozen? ⟨w.heap.size, i, none⟩ = false := fun i => Lib.frozen_of_heap hgr4 i
        have hgr5 : (u4.setCell ⟨p, 7, none⟩ (.int .i64 a)).heap[w.heap.size]? = _ := (heap_setCell_other u4 ⟨p, 7, none⟩ w.heap.size (.int .i64 a) hrp).trans hgr4
        have hB5 : Below w.heap.size w (u4.setCell ⟨p, 7, none⟩ (.int .i64 a)) := hB4.setCell (by show w.heap.size ≤ p; omega) _
        clear hgw4 hnum hown hng
        go_wp2
        refine bodyPost_ret (Tryd.results_step (r := w.heap.size) rfl (put_all hgr5 _ _ _ _ _ _ _ _ _ _ _).at_ rfl) rfl ?_
        exact ⟨_, _, rfl, by rw [hyes]; rfl, stepAt_some hyes ⟨.slice none 0 0, rfl, World.ownsRow_nil _ _ _ _⟩, (put_all hgr5 _ _ _ _ _ _ _ _ _ _ _).below hB5 (Nat.le_refl _) hB5.size⟩
end Go.Proofs.YtcdpepaffpboeaaDoor
