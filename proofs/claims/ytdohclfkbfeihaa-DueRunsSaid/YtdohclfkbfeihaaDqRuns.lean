/- DueRuns, walked. -/
import Derived.Test.YtdohclfkbfeihaaDqSwE
import Derived.Test.YtdohclfkbfeihaaDqSwS
import Derived.Test.YtdohclfkbfeihaaDqSwW
import Derived.Test.YtdohclfkbfeihaaDqSwD
import Derived.Test.YtdohclfkbfeihaaDqSwN
import Derived.Deep.CutRange
import Derived.Deep.CutBlock
import Derived.Maps.AppendAt
namespace Go.Proofs.Ytdohclfkbfeihaa
open Go.RowKit Go.Maps
theorem none_of {es own : List Ent} {y : Ent} (hP : es.Perm own) (h : ∀ (i : Nat) (e : Ent), i < own.length → own[i]? = some e → e.nm ≠ y.nm) : ∀ e ∈ es, e.nm ≠ y.nm := fun e he => by
  obtain ⟨i, hi⟩ := List.mem_iff_getElem?.1 (hP.mem_iff.1 he)
  exact h i e (List.getElem?_eq_some_iff.1 hi).1 hi
set_option maxHeartbeats 4000000 in
set_option maxRecDepth 1000000 in
theorem Try.Runs_walk (o : Option Addr) (c : Nat) (xs : List OpR) (W : World) (hin : OpsIn W o xs) :
    Calls Try.prog 5 #[.slice o xs.length c] W fun x w' => x = .returned (.bool true) ∧ Below W.heap.size W w' := by
  obtain ⟨i0, hi, hz0, hz1, hz2⟩ := info_parts Try.info32
  have hH := Keep.mk (Try.head_walk W)
  replace hin := Keep.mk hin
  go_enter Try.func5, Try.ntmps5
  go_wp2_with (go_at_call 8; refine hH.out.mono ?_)
  first | rintro x w1 rfl B1 | rintro x w1 ⟨rfl, B1⟩
  have hN := Keep.mk (Try.New_walk w1 W.heap.size B1.size)
  replace B1 := Keep.mk B1
  clear hH
  go_wp2_with (go_at_call 9; refine hN.out.mono ?_)
  rintro x w2 ⟨q, l, m, v, rfl, hQ2, hB2⟩
  have B2 := B1.out.trans (hB2.mono B1.out.size)
  have b3 : Below w2.heap.size w2 (w2.alloc (.cells #[] 32 (0, 0))) := (Below.refl _ _).alloc (Nat.le_refl _) _
  have hR3 : RunAt (w2.alloc (.cells #[] 32 (0, 0))) W.heap.size q l m v (.slice (some ⟨w2.heap.size, 0, none⟩) 0 0) [] [] := by
    obtain ⟨_, _, h3⟩ := hQ2.heap.at_.lt
    refine ⟨hQ2.below b3, ⟨rfl, .inr ⟨w2.heap.size, 0, #[], rfl, B2.size, (MapKept.heap_alloc w2 _).1, Nat.le_refl _, Nat.zero_le _, rfl, rfl⟩⟩, fun g hg e => ?_⟩
    cases hg
    have h5 : w2.heap.size < w2.heap.size := h3 _ e
    omega
  have B3 := Keep.mk (B2.trans (b3.mono B2.size))
  replace hR3 := Keep.mk hR3
  clear hN hB2 B1 hQ2 b3 B2
  go_upto_region 5 with fail
  generalize w2.alloc (.cells #[] 32 (0, 0)) = w3 at *
  generalize w2.heap.size = G at *
  go_wp2
  go_loopw [4, 5] (fun v4 v5 wr => ∃ (k : Nat) (v : Value) (es own : List Ent), v5 = .int .i64 (k : Int) ∧ k ≤ 60 ∧ RunAt wr W.heap.size q l m v v4 es own ∧ es.Perm own ∧ own.length ≤ k ∧ Below W.heap.size W wr) (fun _ v5 _ => 61 - (intOf v5).toNat)
  case atStart => exact ⟨0, v, [], [], rfl, by decide, hR3.out, List.Perm.refl _, Nat.le_refl _, B3.out⟩
  case round =>
    clear hR3 B3
    obtain ⟨k, v, es, own, rfl, hk, hR, hP, hl, hB⟩ := hrel
    replace hP := Keep.mk hP
    replace hR := Keep.mk hR
    replace hB := Keep.mk hB
    by_cases hp : k < xs.length ∧ k < 60
    · obtain ⟨hp1, hp2⟩ := hp
      obtain ⟨⟨K, y⟩, hy⟩ : ∃ y, xs[k]? = some y := ⟨_, List.getElem?_eq_getElem hp1⟩
      obtain ⟨g, off, rfl, wy, y0, y1, y2, y3, y4⟩ := hin.out k ⟨K, y⟩ hy
      simp only [] at wy y0 y1 y2 y3 y4
      have hlt := lt_of_cell y0
      rw [← hB.out.cell (p := ⟨g, off + k * 5, none⟩) hlt] at y0
      rw [← hB.out.cell (p := ⟨g, off + k * 5 + 1, none⟩) hlt] at y1
      rw [← hB.out.cell (p := ⟨g, off + k * 5 + 2, none⟩) hlt] at y2
      rw [← hB.out.cell (p := ⟨g, off + k * 5 + 3, none⟩) hlt] at y3
      rw [← hB.out.cell (p := ⟨g, off + k * 5 + 4, none⟩) hlt] at y4
      replace hy := Keep.mk hy
      replace wy := Keep.mk wy
      have ix1 : (0 : Int) ≤ (k : Int) := by omega
      have ix2 : (k : Int) < (xs.length : Int) := by omega
      have ix3 : (k : Int) < 60 := by omega
      have hs := hB.out.size
      have b4 : Below wr.heap.size wr (wr.alloc (.cells #[.int .i64 K, .int .i64 y.k, .int .u64 y.n, .int .i64 y.o, .int .i64 y.t] 44 (0, 0))) := (Below.refl _ _).alloc (Nat.le_refl _) _
      have hp4 : (wr.alloc (.cells #[.int .i64 K, .int .i64 y.k, .int .u64 y.n, .int .i64 y.o, .int .i64 y.t] 44 (0, 0))).heap[wr.heap.size]? = some (.cells #[.int .i64 K, .int .i64 y.k, .int .u64 y.n, .int .i64 y.o, .int .i64 y.t] 44 (0, 0)) := (MapKept.heap_alloc wr _).1
      have hR4 := Keep.mk (hR.out.below b4)
      have hB4 := Keep.mk (hB.out.trans (b4.mono hs))
      replace hp4 := Keep.mk hp4
      obtain ⟨o4, c4, rfl⟩ := row_len hR.out.row
      clear b4 hR hB
      go_upto_region 10 with fail
      clear y0 y1 y2 y3 y4
      generalize wr.heap.size = P at *
      generalize wr.alloc (.cells #[.int .i64 K, .int .i64 y.k, .int .u64 y.n, .int .i64 y.o, .int .i64 y.t] 44 (0, 0)) = w4 at *
      go_wp2
      go_loopw [7, 37] (fun v7 v37 wr => ∃ (j : Nat) (a : Int), v7 = .int .i64 a ∧ v37 = .int .i64 (j : Int) ∧ j ≤ own.length ∧ Found own y j a ∧ Below w4.heap.size w4 wr) (fun _ v37 _ => own.length - (intOf v37).toNat)
      case atStart => exact ⟨0, -1, rfl, rfl, Nat.zero_le _, Found.zero _ _, Below.refl _ _⟩
      case round =>
        obtain ⟨j, a, rfl, rfl, hj, hF, hBw⟩ := hrel
        have hyw := hBw.block P (lt_of_block hp4.out)
        rw [hp4.out] at hyw
        replace hF := Keep.mk hF
        replace hBw := Keep.mk hBw
        by_cases hj1 : j < own.length
        · obtain ⟨e, he⟩ : ∃ e, own[j]? = some e := ⟨_, List.getElem?_eq_getElem hj1⟩
          obtain ⟨g4, cap4, cur, hsv, _, hh4, _, _, _, hcx⟩ := row_slice hR4.out.row (by omega)
          cases hsv
          have hhw : wr.heap[g4]? = some (.cells cur 32 (0, 0)) := by rw [hBw.out.block g4 (lt_of_block hh4)]; exact hh4
          obtain ⟨e0, e1, e2, e3⟩ := row_cell hhw hcx he
          have jx1 : (0 : Int) ≤ (j : Int) := by omega
          have jx2 : (j : Int) < (own.length : Int) := by omega
          have b5 : Below wr.heap.size wr (wr.alloc (.cells #[.int .i64 e.t, .int .i64 e.k, .int .u64 e.n, .int .i64 e.o] 32 (0, 0))) := (Below.refl _ _).alloc (Nat.le_refl _) _
          have hBj := Keep.mk (hBw.out.trans (b5.mono hBw.out.size))
          have hx5 : (wr.alloc (.cells #[.int .i64 e.t, .int .i64 e.k, .int .u64 e.n, .int .i64 e.o] 32 (0, 0))).heap[wr.heap.size]? = some (.cells #[.int .i64 e.t, .int .i64 e.k, .int .u64 e.n, .int .i64 e.o] 32 (0, 0)) := (MapKept.heap_alloc wr _).1
          have hy5 : (wr.alloc (.cells #[.int .i64 e.t, .int .i64 e.k, .int .u64 e.n, .int .i64 e.o] 32 (0, 0))).heap[P]? = some (.cells #[.int .i64 K, .int .i64 y.k, .int .u64 y.n, .int .i64 y.o, .int .i64 y.t] 44 (0, 0)) := by rw [Below.heap_alloc _ _ _ (lt_of_block hyw)]; exact hyw
          replace hx5 := Keep.mk hx5
          replace hy5 := Keep.mk hy5
          replace he := Keep.mk he
          clear b5 hyw hh4 hhw hcx hBw
          go_upto_region 13 with fail
          clear e0 e1 e2 e3
          generalize wr.heap.size = P5 at *
          generalize wr.alloc (.cells #[.int .i64 e.t, .int .i64 e.k, .int .u64 e.n, .int .i64 e.o] 32 (0, 0)) = w5 at *
          have z1 : w5.cell? ⟨P, 1, none⟩ = some (.int .i64 y.k) := by rw [Lib.cell_of_heap hy5.out]; rfl
          have z2 : w5.cell? ⟨P, 2, none⟩ = some (.int .u64 y.n) := by rw [Lib.cell_of_heap hy5.out]; rfl
          have z3 : w5.cell? ⟨P, 3, none⟩ = some (.int .i64 y.o) := by rw [Lib.cell_of_heap hy5.out]; rfl
          have u1 : w5.cell? ⟨P5, 1, none⟩ = some (.int .i64 e.k) := by rw [Lib.cell_of_heap hx5.out]; rfl
          have u2 : w5.cell? ⟨P5, 2, none⟩ = some (.int .u64 e.n) := by rw [Lib.cell_of_heap hx5.out]; rfl
          have u3 : w5.cell? ⟨P5, 3, none⟩ = some (.int .i64 e.o) := by rw [Lib.cell_of_heap hx5.out]; rfl
          by_cases hnm : e.nm = y.nm
          · have hhit := Keep.mk (Found.hit he.out hnm)
            have hnm' := hnm
            simp only [Ent.nm, Prod.mk.injEq] at hnm'
            obtain ⟨hk', hn', ho'⟩ := hnm'
            rw [hk'] at u1
            rw [hn'] at u2
            rw [ho'] at u3
            replace hnm := Keep.mk hnm
            clear hk' hn' ho'
            go_wp2
            go_roundw
            case rel =>
              have hc1 : ((j : Int) + 1 = ((j + 1 : Nat) : Int)) := by omega
              have R : j + 1 ≤ own.length ∧ Found own y (j + 1) (j : Int) ∧ Below w4.heap.size w4 w5 := ⟨by omega, hhit.out, hBj.out⟩
              first
                | exact ⟨j + 1, _, rfl, by rw [← hc1], R⟩
                | ((repeat apply Exists.intro); exact ⟨⟨j + 1, _, rfl, by rw [← hc1], R⟩, rfl⟩)
            case measure =>
              simp [intOf]
              omega
          · have hmiss := Keep.mk (hF.out.miss he.out hnm)
            by_cases c1 : e.k = y.k
            · by_cases c2 : e.n = y.n
              · have c3 : e.o ≠ y.o := fun c3 => hnm (by simp only [Ent.nm, c1, c2, c3])
                rw [c1] at u1
                rw [c2] at u2
                have d3 : decide (e.o = y.o) = false := decide_eq_false c3
                have d4 : (e.o == y.o) = false := beq_eq_false_iff_ne.2 c3
                replace hnm := Keep.mk hnm
                clear c1 c2
                go_wp2
                go_roundw
                case rel =>
                  have hc1 : ((j : Int) + 1 = ((j + 1 : Nat) : Int)) := by omega
                  have R : j + 1 ≤ own.length ∧ Found own y (j + 1) a ∧ Below w4.heap.size w4 w5 := ⟨by omega, hmiss.out, hBj.out⟩
                  first
                    | exact ⟨j + 1, _, rfl, by rw [← hc1], R⟩
                    | ((repeat apply Exists.intro); exact ⟨⟨j + 1, _, rfl, by rw [← hc1], R⟩, rfl⟩)
                case measure =>
                  simp [intOf]
                  omega
              · rw [c1] at u1
                have d3 : decide (e.n = y.n) = false := decide_eq_false c2
                have d4 : (e.n == y.n) = false := beq_eq_false_iff_ne.2 c2
                replace hnm := Keep.mk hnm
                clear c1
                go_wp2
                go_roundw
                case rel =>
                  have hc1 : ((j : Int) + 1 = ((j + 1 : Nat) : Int)) := by omega
                  have R : j + 1 ≤ own.length ∧ Found own y (j + 1) a ∧ Below w4.heap.size w4 w5 := ⟨by omega, hmiss.out, hBj.out⟩
                  first
                    | exact ⟨j + 1, _, rfl, by rw [← hc1], R⟩
                    | ((repeat apply Exists.intro); exact ⟨⟨j + 1, _, rfl, by rw [← hc1], R⟩, rfl⟩)
                case measure =>
                  simp [intOf]
                  omega
            · have d3 : decide (e.k = y.k) = false := decide_eq_false c1
              have d4 : (e.k == y.k) = false := beq_eq_false_iff_ne.2 c1
              replace hnm := Keep.mk hnm
              go_wp2
              go_roundw
              case rel =>
                have hc1 : ((j : Int) + 1 = ((j + 1 : Nat) : Int)) := by omega
                have R : j + 1 ≤ own.length ∧ Found own y (j + 1) a ∧ Below w4.heap.size w4 w5 := ⟨by omega, hmiss.out, hBj.out⟩
                first
                  | exact ⟨j + 1, _, rfl, by rw [← hc1], R⟩
                  | ((repeat apply Exists.intro); exact ⟨⟨j + 1, _, rfl, by rw [← hc1], R⟩, rfl⟩)
              case measure =>
                simp [intOf]
                omega
        · have hje : j = own.length := by omega
          subst hje
          have hR5 := Keep.mk (hR4.out.below hBw.out)
          have hB5 := Keep.mk (hB4.out.trans (hBw.out.mono hB4.out.size))
          replace hyw := Keep.mk hyw
          clear hR4 hB4 hBw hp4
          have zK : wr.cell? ⟨P, 0, none⟩ = some (.int .i64 K) := by rw [Lib.cell_of_heap hyw.out]; rfl
          have z1 : wr.cell? ⟨P, 1, none⟩ = some (.int .i64 y.k) := by rw [Lib.cell_of_heap hyw.out]; rfl
          have z2 : wr.cell? ⟨P, 2, none⟩ = some (.int .u64 y.n) := by rw [Lib.cell_of_heap hyw.out]; rfl
          have z3 : wr.cell? ⟨P, 3, none⟩ = some (.int .i64 y.o) := by rw [Lib.cell_of_heap hyw.out]; rfl
          have z4 : wr.cell? ⟨P, 4, none⟩ = some (.int .i64 y.t) := by rw [Lib.cell_of_heap hyw.out]; rfl
          go_upto_block 4 with fail
          go_cut [4, 8, 9] from 21 to 219 (fun s4 s8 s9 wx => ∃ (v' : Value) (es' own' : List Ent), RunAt wx W.heap.size q l m v' s4 es' own' ∧ es'.Perm own' ∧ own'.length ≤ k + 1 ∧ Below W.heap.size W wx)
          case first =>
            by_cases hK0 : K = 0
            · subst hK0
              rcases hF.out with ⟨rfl, hno⟩ | ⟨i, e, _, he, hen, rfl⟩
              · have hno' := Keep.mk (none_of hP.out hno)
                refine Try.sw_setNo _ _ _ _ _ _ _ _ _ _ _ _ _ _ _ _ _ _ _ _ _ _ _ _ _ _ _ _ _ _ _ _ _ _ _ _ _ _ _ _ _ _ _ _ _ _ _ _ _ _ _ _ _ _ _ _ _ _ _ _ _ _ _ _ _ _ _ _ _ _ _ _ _ _ _ _ _ _ _ _ _ _ _ _ _ _ _ _ _ _ _ _ _ _ _ _ _ _ _ _ _ _ _ _ _ _ _ _ _ _ _ _ _ _ _ _ _ _ _ _ _ _ _ _ _ _ _ _ _ _ _ _ _ _ _ _ _ _ _ _ _ _ _ _ _ _ _ _ _ _ _ _ _ _ _ _ _ _ _ _ _ _ _ _ _ _ _ _ _ _ _ _ _ _ _ _ _ _ _ _ _ _ _ _ _ _ _ _ _ _ _ _ _ _ _ _ _ _ _ _ _ _ _ _ _ _ _ _ _ _ _ _ _ _ _ hR5 hP hl hp2 hB5 wy hyw hno' (Keep.mk fun x4 wx _ _ _ _ _ _ _ _ _ _ _ _ _ _ _ _ _ _ _ _ _ _ _ _ _ _ _ _ _ _ _ _ _ _ _ _ _ _ _ _ _ _ _ _ _ _ _ _ _ _ _ _ _ _ _ _ _ _ _ _ _ _ _ _ _ _ _ _ _ _ _ _ _ _ _ _ _ _ _ _ _ _ _ _ _ _ _ _ _ _ _ _ _ _ _ _ _ _ _ _ _ _ _ _ _ _ _ _ _ _ _ _ _ _ _ _ _ _ _ _ _ _ _ _ _ _ _ _ _ _ _ _ _ _ _ _ _ _ _ _ _ _ _ _ _ _ _ _ _ _ _ _ _ _ _ _ _ _ _ _ _ _ _ _ _ _ _ _ _ _ _ _ _ _ _ _ _ _ _ _ _ _ _ _ _ _ _ _ _ _ _ _ _ _ _ _ _ _ _ _ _ _ _ _ _ _ _ _ h => ?_)
                go_wp2_with fail
                go_meet
                exact h
              · skip
                refine Try.sw_setYes _ _ _ _ _ _ _ _ _ _ _ _ _ _ _ _ _ _ _ _ _ _ _ _ _ _ _ _ _ _ _ _ _ _ _ _ _ _ _ _ _ _ _ _ _ _ _ _ _ _ _ _ _ _ _ _ _ _ _ _ _ _ _ _ _ _ _ _ _ _ _ _ _ _ _ _ _ _ _ _ _ _ _ _ _ _ _ _ _ _ _ _ _ _ _ _ _ _ _ _ _ _ _ _ _ _ _ _ _ _ _ _ _ _ _ _ _ _ _ _ _ _ _ _ _ _ _ _ _ _ _ _ _ _ _ _ _ _ _ _ _ _ _ _ _ _ _ _ _ _ _ _ _ _ _ _ _ _ _ _ _ _ _ _ _ _ _ _ _ _ _ _ _ _ _ _ _ _ _ _ _ _ _ _ _ _ _ _ _ _ _ _ _ _ _ _ _ _ _ _ _ _ _ _ _ _ _ _ _ _ _ _ _ _ _ hR5 hP hl hp2 hB5 wy hyw he hen (Keep.mk fun x4 wx _ _ _ _ _ _ _ _ _ _ _ _ _ _ _ _ _ _ _ _ _ _ _ _ _ _ _ _ _ _ _ _ _ _ _ _ _ _ _ _ _ _ _ _ _ _ _ _ _ _ _ _ _ _ _ _ _ _ _ _ _ _ _ _ _ _ _ _ _ _ _ _ _ _ _ _ _ _ _ _ _ _ _ _ _ _ _ _ _ _ _ _ _ _ _ _ _ _ _ _ _ _ _ _ _ _ _ _ _ _ _ _ _ _ _ _ _ _ _ _ _ _ _ _ _ _ _ _ _ _ _ _ _ _ _ _ _ _ _ _ _ _ _ _ _ _ _ _ _ _ _ _ _ _ _ _ _ _ _ _ _ _ _ _ _ _ _ _ _ _ _ _ _ _ _ _ _ _ _ _ _ _ _ _ _ _ _ _ _ _ _ _ _ _ _ _ _ _ _ _ _ _ _ _ _ _ _ _ h => ?_)
                go_wp2_with fail
                go_meet
                exact h
            · by_cases hK1 : K = 1
              · subst hK1
                rcases hF.out with ⟨rfl, hno⟩ | ⟨i, e, _, he, hen, rfl⟩
                · have hno' := Keep.mk (none_of hP.out hno)
                  refine Try.sw_dropNo _ _ _ _ _ _ _ _ _ _ _ _ _ _ _ _ _ _ _ _ _ _ _ _ _ _ _ _ _ _ _ _ _ _ _ _ _ _ _ _ _ _ _ _ _ _ _ _ _ _ _ _ _ _ _ _ _ _ _ _ _ _ _ _ _ _ _ _ _ _ _ _ _ _ _ _ _ _ _ _ _ _ _ _ _ _ _ _ _ _ _ _ _ _ _ _ _ _ _ _ _ _ _ _ _ _ _ _ _ _ _ _ _ _ _ _ _ _ _ _ _ _ _ _ _ _ _ _ _ _ _ _ _ _ _ _ _ _ _ _ _ _ _ _ _ _ _ _ _ _ _ _ _ _ _ _ _ _ _ _ _ _ _ _ _ _ _ _ _ _ _ _ _ _ _ _ _ _ _ _ _ _ _ _ _ _ _ _ _ _ _ _ _ _ _ _ _ _ _ _ _ _ _ _ _ _ _ _ _ _ _ _ _ _ _ hR5 hP hl hp2 hB5 wy hyw hno' (Keep.mk fun x4 wx _ _ _ _ _ _ _ _ _ _ _ _ _ _ _ _ _ _ _ _ _ _ _ _ _ _ _ _ _ _ _ _ _ _ _ _ _ _ _ _ _ _ _ _ _ _ _ _ _ _ _ _ _ _ _ _ _ _ _ _ _ _ _ _ _ _ _ _ _ _ _ _ _ _ _ _ _ _ _ _ _ _ _ _ _ _ _ _ _ _ _ _ _ _ _ _ _ _ _ _ _ _ _ _ _ _ _ _ _ _ _ _ _ _ _ _ _ _ _ _ _ _ _ _ _ _ _ _ _ _ _ _ _ _ _ _ _ _ _ _ _ _ _ _ _ _ _ _ _ _ _ _ _ _ _ _ _ _ _ _ _ _ _ _ _ _ _ _ _ _ _ _ _ _ _ _ _ _ _ _ _ _ _ _ _ _ _ _ _ _ _ _ _ _ _ _ _ _ _ _ _ _ _ _ _ _ _ _ h => ?_)
                  go_wp2_with fail
                  go_meet
                  exact h
                · skip
                  refine Try.sw_dropYes _ _ _ _ _ _ _ _ _ _ _ _ _ _ _ _ _ _ _ _ _ _ _ _ _ _ _ _ _ _ _ _ _ _ _ _ _ _ _ _ _ _ _ _ _ _ _ _ _ _ _ _ _ _ _ _ _ _ _ _ _ _ _ _ _ _ _ _ _ _ _ _ _ _ _ _ _ _ _ _ _ _ _ _ _ _ _ _ _ _ _ _ _ _ _ _ _ _ _ _ _ _ _ _ _ _ _ _ _ _ _ _ _ _ _ _ _ _ _ _ _ _ _ _ _ _ _ _ _ _ _ _ _ _ _ _ _ _ _ _ _ _ _ _ _ _ _ _ _ _ _ _ _ _ _ _ _ _ _ _ _ _ _ _ _ _ _ _ _ _ _ _ _ _ _ _ _ _ _ _ _ _ _ _ _ _ _ _ _ _ _ _ _ _ _ _ _ _ _ _ _ _ _ _ _ _ _ _ _ _ _ _ _ _ _ hR5 hP hl hp2 hB5 wy hyw he hen (Keep.mk fun x4 wx _ _ _ _ _ _ _ _ _ _ _ _ _ _ _ _ _ _ _ _ _ _ _ _ _ _ _ _ _ _ _ _ _ _ _ _ _ _ _ _ _ _ _ _ _ _ _ _ _ _ _ _ _ _ _ _ _ _ _ _ _ _ _ _ _ _ _ _ _ _ _ _ _ _ _ _ _ _ _ _ _ _ _ _ _ _ _ _ _ _ _ _ _ _ _ _ _ _ _ _ _ _ _ _ _ _ _ _ _ _ _ _ _ _ _ _ _ _ _ _ _ _ _ _ _ _ _ _ _ _ _ _ _ _ _ _ _ _ _ _ _ _ _ _ _ _ _ _ _ _ _ _ _ _ _ _ _ _ _ _ _ _ _ _ _ _ _ _ _ _ _ _ _ _ _ _ _ _ _ _ _ _ _ _ _ _ _ _ _ _ _ _ _ _ _ _ _ _ _ _ _ _ _ _ _ _ _ _ h => ?_)
                  go_wp2_with fail
                  go_meet
                  exact h
              · by_cases hK2 : K = 2
                · subst hK2
                  rcases hF.out with ⟨rfl, hno⟩ | ⟨i, e, _, he, hen, rfl⟩
                  · have hno' := Keep.mk (none_of hP.out hno)
                    refine Try.sw_whenNo _ _ _ _ _ _ _ _ _ _ _ _ _ _ _ _ _ _ _ _ _ _ _ _ _ _ _ _ _ _ _ _ _ _ _ _ _ _ _ _ _ _ _ _ _ _ _ _ _ _ _ _ _ _ _ _ _ _ _ _ _ _ _ _ _ _ _ _ _ _ _ _ _ _ _ _ _ _ _ _ _ _ _ _ _ _ _ _ _ _ _ _ _ _ _ _ _ _ _ _ _ _ _ _ _ _ _ _ _ _ _ _ _ _ _ _ _ _ _ _ _ _ _ _ _ _ _ _ _ _ _ _ _ _ _ _ _ _ _ _ _ _ _ _ _ _ _ _ _ _ _ _ _ _ _ _ _ _ _ _ _ _ _ _ _ _ _ _ _ _ _ _ _ _ _ _ _ _ _ _ _ _ _ _ _ _ _ _ _ _ _ _ _ _ _ _ _ _ _ _ _ _ _ _ _ _ _ _ _ _ _ _ _ _ _ hR5 hP hl hp2 hB5 wy hyw hno' (Keep.mk fun x4 wx _ _ _ _ _ _ _ _ _ _ _ _ _ _ _ _ _ _ _ _ _ _ _ _ _ _ _ _ _ _ _ _ _ _ _ _ _ _ _ _ _ _ _ _ _ _ _ _ _ _ _ _ _ _ _ _ _ _ _ _ _ _ _ _ _ _ _ _ _ _ _ _ _ _ _ _ _ _ _ _ _ _ _ _ _ _ _ _ _ _ _ _ _ _ _ _ _ _ _ _ _ _ _ _ _ _ _ _ _ _ _ _ _ _ _ _ _ _ _ _ _ _ _ _ _ _ _ _ _ _ _ _ _ _ _ _ _ _ _ _ _ _ _ _ _ _ _ _ _ _ _ _ _ _ _ _ _ _ _ _ _ _ _ _ _ _ _ _ _ _ _ _ _ _ _ _ _ _ _ _ _ _ _ _ _ _ _ _ _ _ _ _ _ _ _ _ _ _ _ _ _ _ _ _ _ _ _ _ h => ?_)
                    go_wp2_with fail
                    go_meet
                    exact h
                  · skip
                    refine Try.sw_whenYes _ _ _ _ _ _ _ _ _ _ _ _ _ _ _ _ _ _ _ _ _ _ _ _ _ _ _ _ _ _ _ _ _ _ _ _ _ _ _ _ _ _ _ _ _ _ _ _ _ _ _ _ _ _ _ _ _ _ _ _ _ _ _ _ _ _ _ _ _ _ _ _ _ _ _ _ _ _ _ _ _ _ _ _ _ _ _ _ _ _ _ _ _ _ _ _ _ _ _ _ _ _ _ _ _ _ _ _ _ _ _ _ _ _ _ _ _ _ _ _ _ _ _ _ _ _ _ _ _ _ _ _ _ _ _ _ _ _ _ _ _ _ _ _ _ _ _ _ _ _ _ _ _ _ _ _ _ _ _ _ _ _ _ _ _ _ _ _ _ _ _ _ _ _ _ _ _ _ _ _ _ _ _ _ _ _ _ _ _ _ _ _ _ _ _ _ _ _ _ _ _ _ _ _ _ _ _ _ _ _ _ _ _ _ _ hR5 hP hl hp2 hB5 wy hyw he hen (Keep.mk fun x4 wx _ _ _ _ _ _ _ _ _ _ _ _ _ _ _ _ _ _ _ _ _ _ _ _ _ _ _ _ _ _ _ _ _ _ _ _ _ _ _ _ _ _ _ _ _ _ _ _ _ _ _ _ _ _ _ _ _ _ _ _ _ _ _ _ _ _ _ _ _ _ _ _ _ _ _ _ _ _ _ _ _ _ _ _ _ _ _ _ _ _ _ _ _ _ _ _ _ _ _ _ _ _ _ _ _ _ _ _ _ _ _ _ _ _ _ _ _ _ _ _ _ _ _ _ _ _ _ _ _ _ _ _ _ _ _ _ _ _ _ _ _ _ _ _ _ _ _ _ _ _ _ _ _ _ _ _ _ _ _ _ _ _ _ _ _ _ _ _ _ _ _ _ _ _ _ _ _ _ _ _ _ _ _ _ _ _ _ _ _ _ _ _ _ _ _ _ _ _ _ _ _ _ _ _ _ _ _ _ h => ?_)
                    go_wp2_with fail
                    go_meet
                    exact h
                · by_cases hK3 : K = 3
                  · subst hK3
                    refine Try.sw_next _ _ _ _ _ _ _ _ _ _ _ _ _ _ _ _ _ _ _ _ _ _ _ _ _ _ _ _ _ _ _ _ _ _ _ _ _ _ _ _ _ _ _ _ _ _ _ _ _ _ _ _ _ _ _ _ _ _ _ _ _ _ _ _ _ _ _ _ _ _ _ _ _ _ _ _ _ _ _ _ _ _ _ _ _ _ _ _ _ _ _ _ _ _ _ _ _ _ _ _ _ _ _ _ _ _ _ _ _ _ _ _ _ _ _ _ _ _ _ _ _ _ _ _ _ _ _ _ _ _ _ _ _ _ _ _ _ _ _ _ _ _ _ _ _ _ _ _ _ _ _ _ _ _ _ _ _ _ _ _ _ _ _ _ _ _ _ _ _ _ _ _ _ _ _ _ _ _ _ _ _ _ _ _ _ _ _ _ _ _ _ _ _ _ _ _ _ _ _ _ _ _ _ _ _ _ _ _ _ _ _ _ _ _ _ hR5 hP hl hp2 hB5 wy hyw  (Keep.mk fun x4 wx _ _ _ _ _ _ _ _ _ _ _ _ _ _ _ _ _ _ _ _ _ _ _ _ _ _ _ _ _ _ _ _ _ _ _ _ _ _ _ _ _ _ _ _ _ _ _ _ _ _ _ _ _ _ _ _ _ _ _ _ _ _ _ _ _ _ _ _ _ _ _ _ _ _ _ _ _ _ _ _ _ _ _ _ _ _ _ _ _ _ _ _ _ _ _ _ _ _ _ _ _ _ _ _ _ _ _ _ _ _ _ _ _ _ _ _ _ _ _ _ _ _ _ _ _ _ _ _ _ _ _ _ _ _ _ _ _ _ _ _ _ _ _ _ _ _ _ _ _ _ _ _ _ _ _ _ _ _ _ _ _ _ _ _ _ _ _ _ _ _ _ _ _ _ _ _ _ _ _ _ _ _ _ _ _ _ _ _ _ _ _ _ _ _ _ _ _ _ _ _ _ _ _ _ _ _ _ _ h => ?_)
                    go_wp2_with fail
                    go_meet
                    exact h
                  · skip
                    refine Try.sw_else _ _ _ _ _ _ _ _ _ _ _ _ _ _ _ _ _ _ _ _ _ _ _ _ _ _ _ _ _ _ _ _ _ _ _ _ _ _ _ _ _ _ _ _ _ _ _ _ _ _ _ _ _ _ _ _ _ _ _ _ _ _ _ _ _ _ _ _ _ _ _ _ _ _ _ _ _ _ _ _ _ _ _ _ _ _ _ _ _ _ _ _ _ _ _ _ _ _ _ _ _ _ _ _ _ _ _ _ _ _ _ _ _ _ _ _ _ _ _ _ _ _ _ _ _ _ _ _ _ _ _ _ _ _ _ _ _ _ _ _ _ _ _ _ _ _ _ _ _ _ _ _ _ _ _ _ _ _ _ _ _ _ _ _ _ _ _ _ _ _ _ _ _ _ _ _ _ _ _ _ _ _ _ _ _ _ _ _ _ _ _ _ _ _ _ _ _ _ _ _ _ _ _ _ _ _ _ _ _ _ _ _ _ _ _ hR5 hP hl hp2 hB5 wy hyw hK0 hK1 hK2 hK3 (Keep.mk fun x4 wx _ _ _ _ _ _ _ _ _ _ _ _ _ _ _ _ _ _ _ _ _ _ _ _ _ _ _ _ _ _ _ _ _ _ _ _ _ _ _ _ _ _ _ _ _ _ _ _ _ _ _ _ _ _ _ _ _ _ _ _ _ _ _ _ _ _ _ _ _ _ _ _ _ _ _ _ _ _ _ _ _ _ _ _ _ _ _ _ _ _ _ _ _ _ _ _ _ _ _ _ _ _ _ _ _ _ _ _ _ _ _ _ _ _ _ _ _ _ _ _ _ _ _ _ _ _ _ _ _ _ _ _ _ _ _ _ _ _ _ _ _ _ _ _ _ _ _ _ _ _ _ _ _ _ _ _ _ _ _ _ _ _ _ _ _ _ _ _ _ _ _ _ _ _ _ _ _ _ _ _ _ _ _ _ _ _ _ _ _ _ _ _ _ _ _ _ _ _ _ _ _ _ _ _ _ _ _ _ h => ?_)
                    go_wp2_with fail
                    go_meet
                    exact h
          case rest =>
            obtain ⟨v', es', own', hR6, hP6, hl6, hB6⟩ := hcut
            obtain ⟨o6, c6, rfl⟩ := row_len hR6.row
            have hQL := Try.QLen_walk hR6.queue
            rw [hP6.length_eq] at hQL
            replace hQL := Keep.mk hQL
            replace hR6 := Keep.mk hR6
            replace hP6 := Keep.mk hP6
            replace hB6 := Keep.mk hB6
            go_wp2_with (go_at_call 13; refine hQL.out.mono ?_; rintro x w7 ⟨rfl, hw7⟩; replace hw7 := hw7.symm; subst hw7)
            go_roundw
            case rel =>
              have hc1 : ((k : Int) + 1 = ((k + 1 : Nat) : Int)) := by omega
              have R : k + 1 ≤ 60 ∧ RunAt wc W.heap.size q l m v' (.slice o6 own'.length c6) es' own' ∧ es'.Perm own' ∧ own'.length ≤ k + 1 ∧ Below W.heap.size W wc := ⟨by omega, hR6.out, hP6.out, hl6, hB6.out⟩
              first
                | exact ⟨k + 1, v', es', own', by rw [← hc1], R⟩
                | ((repeat apply Exists.intro); exact ⟨⟨k + 1, v', es', own', by rw [← hc1], R⟩, rfl⟩)
            case measure =>
              simp [intOf]
              omega
    · have hx : ¬ ((k : Int) < (xs.length : Int) ∧ (k : Int) < 60) := by omega
      by_cases h1 : k < xs.length
      · have h2 : ¬ (k : Int) < 60 := by omega
        have h3 : (k : Int) < (xs.length : Int) := by omega
        go_wp2
        go_ret
        exact ⟨rfl, hB.out⟩
      · have h3 : ¬ (k : Int) < (xs.length : Int) := by omega
        go_wp2
        go_ret
        exact ⟨rfl, hB.out⟩
end Go.Proofs.Ytdohclfkbfeihaa
