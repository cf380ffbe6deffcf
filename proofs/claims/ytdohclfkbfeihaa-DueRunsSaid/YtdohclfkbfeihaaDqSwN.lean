/- DueRuns: the switch, Next. -/
import Derived.Test.YtdohclfkbfeihaaDqSw
namespace Go.Proofs.Ytdohclfkbfeihaa
open Go.RowKit Go.Maps
set_option maxHeartbeats 4000000 in
set_option maxRecDepth 1000000 in
theorem Try.sw_next {W ws : World} {q l m k P c4 : Nat} {o4 : Option Addr} {v : Value} {es own : List Ent} {y : Ent} {a : Int} (u0 u1 u2 u5 u8 u9 u10 u11 u12 u13 u14 u15 u16 u17 u18 u19 u20 u21 u22 u23 u24 u25 u26 u27 u28 u29 u30 u31 u32 u33 u34 u35 u36 u37 u38 u39 u40 u41 u42 u43 u44 u45 u46 u47 u48 u49 u50 u51 u52 u53 u54 u55 u56 u58 u59 u60 u61 u62 u63 u64 u65 u66 u67 u68 u69 u70 u71 u72 u73 u74 u75 u76 u77 u78 u79 u80 u81 u82 u83 u84 u85 u86 u87 u88 u89 u90 u91 u92 u93 u94 u95 u96 u97 u98 u99 u100 u101 u102 u103 u104 u105 u106 u107 u108 u109 u110 u111 u112 u113 u114 u115 u116 u117 u118 u119 u120 u121 u122 u123 u124 u125 u126 u127 u128 u129 u130 u131 u132 u133 u134 u135 u136 u137 u138 u139 u140 u141 u142 u143 u144 u145 u146 u147 u148 u149 u150 u151 u152 u153 u154 u155 u156 u157 u158 u159 u160 u161 u162 u163 u164 u165 u166 u167 u168 u169 u170 u171 u172 u173 u174 u175 u176 u177 u178 u179 u180 u181 u182 u183 u184 u185 u186 u187 u188 u189 u190 u191 u192 u193 u194 u195 u196 u197 u198 u199 u200 u201 u202 u203 u204 u205 u206 u207 u208 u209 u210 u211 u212 u213 u214 u215 u216 u217 u218 u219 : Value) {K' : Act → World → Prop} {Q' : Exit → Act → World → Prop}
    (hR5 : Keep (RunAt ws W.heap.size q l m v (.slice o4 own.length c4) es own)) (hP : Keep (es.Perm own)) (hl : own.length ≤ k) (hk : k < 60) (hB5 : Keep (Below W.heap.size W ws)) (wy : Keep y.wf)
    (hyw : Keep (ws.heap[P]? = some (.cells #[.int .i64 3, .int .i64 y.k, .int .u64 y.n, .int .i64 y.o, .int .i64 y.t] 44 (0, 0)))) 
    (hK' : Keep (∀ (x4 : Value) (wx : World) (z8 z9 z10 z11 z12 z13 z14 z15 z16 z21 z22 z23 z24 z25 z26 z27 z28 z29 z30 z31 z32 z33 z34 z35 z36 z37 z38 z39 z40 z41 z42 z43 z44 z45 z46 z47 z48 z49 z50 z51 z52 z53 z54 z55 z56 z57 z58 z59 z60 z61 z62 z63 z64 z65 z66 z67 z68 z69 z70 z71 z72 z73 z74 z75 z76 z77 z78 z79 z80 z81 z82 z83 z84 z85 z86 z87 z88 z89 z90 z91 z92 z93 z94 z95 z96 z97 z98 z99 z100 z101 z102 z103 z104 z105 z106 z107 z108 z109 z110 z111 z112 z113 z114 z115 z116 z117 z118 z119 z120 z121 z122 z123 z124 z125 z126 z127 z128 z129 z130 z131 z132 z133 z134 z135 z136 z137 z138 z139 z140 z141 z142 z143 z144 z145 z146 z147 z148 z149 z150 z151 z152 z153 z154 z155 z156 z157 z158 z159 z160 z161 z162 z163 z164 z165 z166 z167 z168 z169 z170 z171 z172 z173 z174 z175 z176 z177 z178 z179 z180 z181 z182 z183 z184 z185 z186 z187 z188 z189 z190 z191 z192 z193 z194 z195 z196 z197 z198 z199 z200 z201 z202 z203 z204 z205 z206 z207 z208 z209 z210 z211 z212 z213 z214 z215 z216 z217 z218 z219 : Value), SwEnd W q l m k x4 wx → K' ⟨#[u0, u1, u2, (.pointer (some ⟨q, 0, none⟩)), x4, u5, (.pointer (some ⟨P, 0, none⟩)), (.int .i64 a), z8, z9, z10, z11, z12, z13, z14, z15, z16, u17, u18, u19, u20, z21, z22, z23, z24, z25, z26, z27, z28, z29, z30, z31, z32, z33, z34, z35, z36, z37, z38, z39, z40, z41, z42, z43, z44, z45, z46, z47, z48, z49, z50, z51, z52, z53, z54, z55, z56, z57, z58, z59, z60, z61, z62, z63, z64, z65, z66, z67, z68, z69, z70, z71, z72, z73, z74, z75, z76, z77, z78, z79, z80, z81, z82, z83, z84, z85, z86, z87, z88, z89, z90, z91, z92, z93, z94, z95, z96, z97, z98, z99, z100, z101, z102, z103, z104, z105, z106, z107, z108, z109, z110, z111, z112, z113, z114, z115, z116, z117, z118, z119, z120, z121, z122, z123, z124, z125, z126, z127, z128, z129, z130, z131, z132, z133, z134, z135, z136, z137, z138, z139, z140, z141, z142, z143, z144, z145, z146, z147, z148, z149, z150, z151, z152, z153, z154, z155, z156, z157, z158, z159, z160, z161, z162, z163, z164, z165, z166, z167, z168, z169, z170, z171, z172, z173, z174, z175, z176, z177, z178, z179, z180, z181, z182, z183, z184, z185, z186, z187, z188, z189, z190, z191, z192, z193, z194, z195, z196, z197, z198, z199, z200, z201, z202, z203, z204, z205, z206, z207, z208, z209, z210, z211, z212, z213, z214, z215, z216, z217, z218, z219], []⟩ wx)) :
    Code.wp Try.prog sw (Exit.then K' Q') ⟨#[u0, u1, u2, (.pointer (some ⟨q, 0, none⟩)), (.slice o4 own.length c4), u5, (.pointer (some ⟨P, 0, none⟩)), (.int .i64 a), u8, u9, u10, u11, u12, u13, u14, u15, u16, u17, u18, u19, u20, u21, u22, u23, u24, u25, u26, u27, u28, u29, u30, u31, u32, u33, u34, u35, u36, u37, u38, u39, u40, u41, u42, u43, u44, u45, u46, u47, u48, u49, u50, u51, u52, u53, u54, u55, u56, (.int .i64 (3)), u58, u59, u60, u61, u62, u63, u64, u65, u66, u67, u68, u69, u70, u71, u72, u73, u74, u75, u76, u77, u78, u79, u80, u81, u82, u83, u84, u85, u86, u87, u88, u89, u90, u91, u92, u93, u94, u95, u96, u97, u98, u99, u100, u101, u102, u103, u104, u105, u106, u107, u108, u109, u110, u111, u112, u113, u114, u115, u116, u117, u118, u119, u120, u121, u122, u123, u124, u125, u126, u127, u128, u129, u130, u131, u132, u133, u134, u135, u136, u137, u138, u139, u140, u141, u142, u143, u144, u145, u146, u147, u148, u149, u150, u151, u152, u153, u154, u155, u156, u157, u158, u159, u160, u161, u162, u163, u164, u165, u166, u167, u168, u169, u170, u171, u172, u173, u174, u175, u176, u177, u178, u179, u180, u181, u182, u183, u184, u185, u186, u187, u188, u189, u190, u191, u192, u193, u194, u195, u196, u197, u198, u199, u200, u201, u202, u203, u204, u205, u206, u207, u208, u209, u210, u211, u212, u213, u214, u215, u216, u217, u218, u219], []⟩ ws := by
  conv => arg 2; whnf
  have z1 : ws.cell? ⟨P, 1, none⟩ = some (.int .i64 y.k) := by rw [Lib.cell_of_heap hyw.out]; rfl
  have z2 : ws.cell? ⟨P, 2, none⟩ = some (.int .u64 y.n) := by rw [Lib.cell_of_heap hyw.out]; rfl
  have z3 : ws.cell? ⟨P, 3, none⟩ = some (.int .i64 y.o) := by rw [Lib.cell_of_heap hyw.out]; rfl
  have z4 : ws.cell? ⟨P, 4, none⟩ = some (.int .i64 y.t) := by rw [Lib.cell_of_heap hyw.out]; rfl
  go_upto_region 33 with fail
  go_wp2
  go_loopw [12, 148] (fun v12 v148 wx => ∃ (j : Nat) (b : Int), v12 = .int .i64 b ∧ v148 = .int .i64 (j : Int) ∧ j ≤ own.length ∧ Best own y.t j b ∧ Below ws.heap.size ws wx) (fun _ v148 _ => own.length - (intOf v148).toNat)
  case atStart => exact ⟨0, -1, rfl, rfl, Nat.zero_le _, Best.zero _ _, Below.refl _ _⟩
  case round =>
    obtain ⟨j, b, rfl, rfl, hj, hF, hBw⟩ := hrel
    have hyw' := hBw.block P (lt_of_block hyw.out)
    rw [hyw.out] at hyw'
    replace hF := Keep.mk hF
    replace hBw := Keep.mk hBw
    clear z1 z2 z3 z4
    by_cases hj1 : j < own.length
    · obtain ⟨e, he⟩ : ∃ e, own[j]? = some e := ⟨_, List.getElem?_eq_getElem hj1⟩
      obtain ⟨g4, cap4, cur, hsv, _, hh4, _, _, _, hcx⟩ := row_slice hR5.out.row (by omega)
      cases hsv
      have hhw : wr.heap[g4]? = some (.cells cur 32 (0, 0)) := by rw [hBw.out.block g4 (lt_of_block hh4)]; exact hh4
      obtain ⟨e0, e1, e2, e3⟩ := row_cell hhw hcx he
      have jx1 : (0 : Int) ≤ (j : Int) := by omega
      have jx2 : (j : Int) < (own.length : Int) := by omega
      have b5 : Below wr.heap.size wr (wr.alloc (.cells #[.int .i64 e.t, .int .i64 e.k, .int .u64 e.n, .int .i64 e.o] 32 (0, 0))) := (Below.refl _ _).alloc (Nat.le_refl _) _
      have hBj := Keep.mk (hBw.out.trans (b5.mono hBw.out.size))
      have hx5 : (wr.alloc (.cells #[.int .i64 e.t, .int .i64 e.k, .int .u64 e.n, .int .i64 e.o] 32 (0, 0))).heap[wr.heap.size]? = some (.cells #[.int .i64 e.t, .int .i64 e.k, .int .u64 e.n, .int .i64 e.o] 32 (0, 0)) := (MapKept.heap_alloc wr _).1
      have hy5 : (wr.alloc (.cells #[.int .i64 e.t, .int .i64 e.k, .int .u64 e.n, .int .i64 e.o] 32 (0, 0))).heap[P]? = some (.cells #[.int .i64 3, .int .i64 y.k, .int .u64 y.n, .int .i64 y.o, .int .i64 y.t] 44 (0, 0)) := by rw [Below.heap_alloc _ _ _ (lt_of_block hyw')]; exact hyw'
      have hh5 : (wr.alloc (.cells #[.int .i64 e.t, .int .i64 e.k, .int .u64 e.n, .int .i64 e.o] 32 (0, 0))).heap[g4]? = some (.cells cur 32 (0, 0)) := by rw [Below.heap_alloc _ _ _ (lt_of_block hhw)]; exact hhw
      replace hx5 := Keep.mk hx5
      replace hy5 := Keep.mk hy5
      replace hh5 := Keep.mk hh5
      replace hcx := Keep.mk hcx
      replace he := Keep.mk he
      clear b5 hyw' hh4 hhw hBw
      go_upto_region 36 with fail
      clear e0 e1 e2 e3
      generalize wr.heap.size = P5 at *
      generalize wr.alloc (.cells #[.int .i64 e.t, .int .i64 e.k, .int .u64 e.n, .int .i64 e.o] 32 (0, 0)) = w5 at *
      have z4 : w5.cell? ⟨P, 4, none⟩ = some (.int .i64 y.t) := by rw [Lib.cell_of_heap hy5.out]; rfl
      have t0 : w5.cell? ⟨P5, 0, none⟩ = some (.int .i64 e.t) := by rw [Lib.cell_of_heap hx5.out]; rfl
      have t1 : w5.cell? ⟨P5, 1, none⟩ = some (.int .i64 e.k) := by rw [Lib.cell_of_heap hx5.out]; rfl
      have t2 : w5.cell? ⟨P5, 2, none⟩ = some (.int .u64 e.n) := by rw [Lib.cell_of_heap hx5.out]; rfl
      have t3 : w5.cell? ⟨P5, 3, none⟩ = some (.int .i64 e.o) := by rw [Lib.cell_of_heap hx5.out]; rfl
      -- is it better?
      go_cut [148, 169] from 148 to 171 (fun s148 s169 wx => s148 = .int .i64 (j : Int) ∧ ∃ d, s169 = .bool d ∧ (d = true → Best own y.t (j + 1) (j : Int)) ∧ (d = false → Best own y.t (j + 1) b) ∧ Below w5.heap.size w5 wx)
      case first =>
        by_cases hle : e.t ≤ y.t
        · rcases hF.out with ⟨rfl, _⟩ | ⟨i, x, hi1, hx, hxt, rfl, _⟩
          · have hgood := Keep.mk (hF.out.first he.out hle)
            refine wp_region_noPanic ?_
            go_quiet (fail)
            refine NoPanic.normal ?_
            go_wp2_with fail
            go_meet
            exact ⟨rfl, true, rfl, fun _ => hgood.out, (fun h => by cases h), below_drewN w5 _⟩
          · obtain ⟨x0, x1, x2, x3⟩ := row_cell hh5.out hcx.out hx
            have kx1 : (0 : Int) ≤ (i : Int) := by omega
            have kx2 : (i : Int) < (own.length : Int) := by omega
            have kx3 : ¬ (i : Int) < 0 := by omega
            have kx4 : decide ((i : Int) < 0) = false := decide_eq_false kx3
            have hLs := Try.less_walk e x
            have hr : (lt e x = true → Best own y.t (j + 1) (j : Int)) ∧ (lt e x = false → Best own y.t (j + 1) (i : Int)) := ⟨fun h => hF.out.better hx he.out hle h, fun h => hF.out.worse hx he.out h⟩
            unfold Ent.val Ent.cells at hLs
            replace hLs := Keep.mk hLs
            replace hr := Keep.mk hr
            replace hx := Keep.mk hx
            have hnext : ∀ W', Below w5.heap.size w5 W' → (Below w5.heap.size w5 W' ∧ W'.cell? ⟨P, 4, none⟩ = some (.int .i64 y.t) ∧ W'.cell? ⟨P5, 0, none⟩ = some (.int .i64 e.t) ∧ W'.cell? ⟨P5, 1, none⟩ = some (.int .i64 e.k) ∧ W'.cell? ⟨P5, 2, none⟩ = some (.int .u64 e.n) ∧ W'.cell? ⟨P5, 3, none⟩ = some (.int .i64 e.o) ∧ W'.cell? ⟨g4, i * 4, none⟩ = some (.int .i64 x.t) ∧ W'.cell? ⟨g4, i * 4 + 1, none⟩ = some (.int .i64 x.k) ∧ W'.cell? ⟨g4, i * 4 + 2, none⟩ = some (.int .u64 x.n) ∧ W'.cell? ⟨g4, i * 4 + 3, none⟩ = some (.int .i64 x.o)) := fun W' hb => ⟨hb, by rw [hb.cell (p := ⟨P, 4, none⟩) (lt_of_cell z4)]; exact z4, by rw [hb.cell (p := ⟨P5, 0, none⟩) (lt_of_cell t0)]; exact t0, by rw [hb.cell (p := ⟨P5, 1, none⟩) (lt_of_cell t1)]; exact t1, by rw [hb.cell (p := ⟨P5, 2, none⟩) (lt_of_cell t2)]; exact t2, by rw [hb.cell (p := ⟨P5, 3, none⟩) (lt_of_cell t3)]; exact t3, by rw [hb.cell (p := ⟨g4, i * 4, none⟩) (lt_of_cell x0)]; exact x0, by rw [hb.cell (p := ⟨g4, i * 4 + 1, none⟩) (lt_of_cell x1)]; exact x1, by rw [hb.cell (p := ⟨g4, i * 4 + 2, none⟩) (lt_of_cell x2)]; exact x2, by rw [hb.cell (p := ⟨g4, i * 4 + 3, none⟩) (lt_of_cell x3)]; exact x3⟩
            have hb0 : Below w5.heap.size w5 w5.drew := (Below.refl _ _).drew
            go_region_held3 (fun W' => Below w5.heap.size w5 W' ∧ W'.cell? ⟨P, 4, none⟩ = some (.int .i64 y.t) ∧ W'.cell? ⟨P5, 0, none⟩ = some (.int .i64 e.t) ∧ W'.cell? ⟨P5, 1, none⟩ = some (.int .i64 e.k) ∧ W'.cell? ⟨P5, 2, none⟩ = some (.int .u64 e.n) ∧ W'.cell? ⟨P5, 3, none⟩ = some (.int .i64 e.o) ∧ W'.cell? ⟨g4, i * 4, none⟩ = some (.int .i64 x.t) ∧ W'.cell? ⟨g4, i * 4 + 1, none⟩ = some (.int .i64 x.k) ∧ W'.cell? ⟨g4, i * 4 + 2, none⟩ = some (.int .u64 x.n) ∧ W'.cell? ⟨g4, i * 4 + 3, none⟩ = some (.int .i64 x.o)) (first | exact hnext _ hb0 | assumption)
              (first | (go_at_call 12; refine (hLs.out _).mono ?_; rintro r w7 ⟨rfl, b7⟩; have qq := hnext _ (Below.trans (by first | exact hb0 | exact And.left (by assumption)) (Below.mono b7 (by first | exact Nat.le_refl _ | simp | exact Below.size (And.left (by assumption)))))))
            all_goals
              rename_i hheld
              have b8 := Keep.mk hheld.1
              clear hheld
              go_wp2_with fail
              go_meet
              exact ⟨rfl, _, rfl, hr.out.1, hr.out.2, b8.out⟩
        · have hle' : decide (e.t ≤ y.t) = false := decide_eq_false hle
          have hgood := Keep.mk (hF.out.late he.out (by omega))
          refine wp_region_noPanic ?_
          go_quiet (fail)
          refine NoPanic.normal ?_
          go_wp2_with fail
          go_meet
          exact ⟨rfl, false, rfl, (fun h => by cases h), fun _ => hgood.out, below_drewN w5 _⟩
      case rest =>
        obtain ⟨rfl, d, rfl, hd1, hd2, b9⟩ := hcut
        have hB9 := Keep.mk (hBj.out.trans (b9.mono hBj.out.size))
        clear t0 t1 t2 t3 z4 b9
        have hc1 : ((j : Int) + 1 = ((j + 1 : Nat) : Int)) := by omega
        have hwj : IntKind.i64.wrap ((j : Int) + 1) = (j : Int) + 1 := IntWalk.i64_in _ ⟨by omega, by omega⟩
        replace hc1 := Keep.mk hc1
        cases d with
        | true =>
          have hb' := Keep.mk (hd1 rfl)
          clear hd1 hd2
          go_wp2
          go_roundw
          case rel =>
            have R : j + 1 ≤ own.length ∧ Best own y.t (j + 1) (j : Int) ∧ Below ws.heap.size ws wc := ⟨by omega, hb'.out, hB9.out⟩
            first
              | exact ⟨j + 1, _, rfl, by rw [← hc1.out], R⟩
              | ((repeat apply Exists.intro); exact ⟨⟨j + 1, _, rfl, by rw [← hc1.out], R⟩, rfl⟩)
          case measure =>
            simp [intOf]
            omega
        | false =>
          have hb' := Keep.mk (hd2 rfl)
          clear hd1 hd2
          go_wp2
          go_roundw
          case rel =>
            have R : j + 1 ≤ own.length ∧ Best own y.t (j + 1) b ∧ Below ws.heap.size ws wc := ⟨by omega, hb'.out, hB9.out⟩
            first
              | exact ⟨j + 1, _, rfl, by rw [← hc1.out], R⟩
              | ((repeat apply Exists.intro); exact ⟨⟨j + 1, _, rfl, by rw [← hc1.out], R⟩, rfl⟩)
          case measure =>
            simp [intOf]
            omega
    · have hje : j = own.length := by omega
      subst hje
      have hR6 := Keep.mk (hR5.out.below hBw.out)
      have hB6 := Keep.mk (hB5.out.trans (hBw.out.mono hB5.out.size))
      replace hyw' := Keep.mk hyw'
      have hX := Keep.mk (Try.Next_walk hR6.out.queue (by have := hP.out.length_eq; omega) y.t)
      have z4 : wr.cell? ⟨P, 4, none⟩ = some (.int .i64 y.t) := by rw [Lib.cell_of_heap hyw'.out]; rfl
      clear hR5 hB5 hBw hyw
      go_wp2_with (go_at_call 11; refine hX.out.mono ?_)
      rintro x w6 ⟨e, b6, v6, es6, rfl, hQ6, hT6, hy6, hno6⟩
      have hR7 := hR6.out.turn hT6 hQ6
      have hB7 := hB6.out.trans (hR6.out.queue.keeps hT6 (Nat.le_refl _) hB6.out.size)
      rcases hF.out with ⟨rfl, hnone⟩ | ⟨i, x, hi1, hx, hxt, rfl, hbest⟩
      · have hlate : ∀ z ∈ es, y.t < z.t := fun z hz => by
          obtain ⟨i, hi⟩ := List.mem_iff_getElem?.1 (hP.out.mem_iff.1 hz)
          exact hnone i z (List.getElem?_eq_some_iff.1 hi).1 hi
        have hb : b6 = false := by
          cases b6
          · rfl
          · obtain ⟨h1, h2, _⟩ := hy6 rfl
            have := hlate e (h2.mem_iff.1 (by simp))
            omega
        subst hb
        obtain ⟨rfl, rfl, _⟩ := hno6 rfl
        unfold Ent.val Ent.cells
        simp only []
        have b8 : Below w6.heap.size w6 (w6.alloc (.cells #[.int .i64 0, .int .i64 0, .int .u64 0, .int .i64 0] 32 (0, 0))) := (Below.refl _ _).alloc (Nat.le_refl _) _
        have hx8 : (w6.alloc (.cells #[.int .i64 0, .int .i64 0, .int .u64 0, .int .i64 0] 32 (0, 0))).heap[w6.heap.size]? = some (.cells #[.int .i64 0, .int .i64 0, .int .u64 0, .int .i64 0] 32 (0, 0)) := (MapKept.heap_alloc w6 _).1
        have hR8 := Keep.mk (hR7.below b8)
        have hB8 := Keep.mk (hB7.trans (b8.mono hB7.size))
        replace hx8 := Keep.mk hx8
        clear hX hQ6 hT6 hy6 hno6 hR7 hB7 b8 hnone hlate hR6 hB6 hyw' z4
        go_upto_region 40 with fail
        generalize w6.heap.size = P8 at *
        generalize w6.alloc (.cells #[.int .i64 0, .int .i64 0, .int .u64 0, .int .i64 0] 32 (0, 0)) = w8 at *
        have t0 : w8.cell? ⟨P8, 0, none⟩ = some (.int .i64 0) := by rw [Lib.cell_of_heap hx8.out]; rfl
        have t1 : w8.cell? ⟨P8, 1, none⟩ = some (.int .i64 0) := by rw [Lib.cell_of_heap hx8.out]; rfl
        have t2 : w8.cell? ⟨P8, 2, none⟩ = some (.int .u64 0) := by rw [Lib.cell_of_heap hx8.out]; rfl
        have t3 : w8.cell? ⟨P8, 3, none⟩ = some (.int .i64 0) := by rw [Lib.cell_of_heap hx8.out]; rfl
        go_cut [202] from 21 to 219 (fun s202 wx => s202 = .bool false ∧ Below w8.heap.size w8 wx)
        case first =>
          refine wp_region_noPanic ?_
          go_quiet (fail)
          refine NoPanic.normal ?_
          go_wp2_with fail
          go_meet
          exact ⟨rfl, below_drewN w8 _⟩
        case rest =>
          obtain ⟨rfl, b9⟩ := hcut
          have hfin : SwEnd W q l m k (.slice o4 own.length c4) wc := ⟨v6, _, own, hR8.out.below b9, hP.out, by omega, hB8.out.trans (b9.mono hB8.out.size)⟩
          replace hfin := Keep.mk hfin
          clear t0 t1 t2 t3 b9
          go_wp2_with fail
          exact hK'.out _ _ _ _ _ _ _ _ _ _ _ _ _ _ _ _ _ _ _ _ _ _ _ _ _ _ _ _ _ _ _ _ _ _ _ _ _ _ _ _ _ _ _ _ _ _ _ _ _ _ _ _ _ _ _ _ _ _ _ _ _ _ _ _ _ _ _ _ _ _ _ _ _ _ _ _ _ _ _ _ _ _ _ _ _ _ _ _ _ _ _ _ _ _ _ _ _ _ _ _ _ _ _ _ _ _ _ _ _ _ _ _ _ _ _ _ _ _ _ _ _ _ _ _ _ _ _ _ _ _ _ _ _ _ _ _ _ _ _ _ _ _ _ _ _ _ _ _ _ _ _ _ _ _ _ _ _ _ _ _ _ _ _ _ _ _ _ _ _ _ _ _ _ _ _ _ _ _ _ _ _ _ _ _ _ _ _ _ _ _ _ _ _ _ _ _ _ _ _ _ _ _ _ _ _ _ _ _ _ _ hfin.out
      · have hxe : x ∈ es := hP.out.mem_iff.2 (List.mem_of_getElem? hx)
        have hb : b6 = true := by
          cases b6
          · have := (hno6 rfl).2.2 x hxe
            omega
          · rfl
        subst hb
        obtain ⟨h1, h2, h3⟩ := hy6 rfl
        have heo : e ∈ own := hP.out.mem_iff.1 (h2.mem_iff.1 (by simp))
        obtain ⟨ie, hie⟩ := List.mem_iff_getElem?.1 heo
        have hex : e = x := le_antisymm (hbest ie e (List.getElem?_eq_some_iff.1 hie).1 hie h1) (h3 x hxe)
        subst hex
        obtain ⟨_, hP6⟩ := left_perm hR6.out.queue.heap.at_.nd hP.out hx h2 rfl
        unfold Ent.val Ent.cells
        obtain ⟨g4, cap4, cur, hsv, _, hh4, hcap, _, _, hcx⟩ := row_slice hR7.row (by omega)
        cases hsv
        have b8 : Below w6.heap.size w6 (w6.alloc (.cells #[.int .i64 e.t, .int .i64 e.k, .int .u64 e.n, .int .i64 e.o] 32 (0, 0))) := (Below.refl _ _).alloc (Nat.le_refl _) _
        have hx8 : (w6.alloc (.cells #[.int .i64 e.t, .int .i64 e.k, .int .u64 e.n, .int .i64 e.o] 32 (0, 0))).heap[w6.heap.size]? = some (.cells #[.int .i64 e.t, .int .i64 e.k, .int .u64 e.n, .int .i64 e.o] 32 (0, 0)) := (MapKept.heap_alloc w6 _).1
        have hh8 : (w6.alloc (.cells #[.int .i64 e.t, .int .i64 e.k, .int .u64 e.n, .int .i64 e.o] 32 (0, 0))).heap[g4]? = some (.cells cur 32 (0, 0)) := by rw [Below.heap_alloc _ _ _ (lt_of_block hh4)]; exact hh4
        have hR8 := Keep.mk (hR7.below b8)
        have hB8 := Keep.mk (hB7.trans (b8.mono hB7.size))
        have jx1 : (0 : Int) ≤ (i : Int) := by omega
        have jx2 : (i : Int) < (own.length : Int) := by omega
        replace hx8 := Keep.mk hx8
        replace hh8 := Keep.mk hh8
        replace hcx := Keep.mk hcx
        replace hx := Keep.mk hx
        replace hP6 := Keep.mk hP6
        clear hX hQ6 hT6 hy6 hno6 hR7 hB7 b8 hR6 hB6 hyw' z4 h2 h3 hbest hie heo hxe hh4
        go_upto_region 40 with fail
        generalize w6.heap.size = P8 at *
        generalize w6.alloc (.cells #[.int .i64 e.t, .int .i64 e.k, .int .u64 e.n, .int .i64 e.o] 32 (0, 0)) = w8 at *
        have t0 : w8.cell? ⟨P8, 0, none⟩ = some (.int .i64 e.t) := by rw [Lib.cell_of_heap hx8.out]; rfl
        have t1 : w8.cell? ⟨P8, 1, none⟩ = some (.int .i64 e.k) := by rw [Lib.cell_of_heap hx8.out]; rfl
        have t2 : w8.cell? ⟨P8, 2, none⟩ = some (.int .u64 e.n) := by rw [Lib.cell_of_heap hx8.out]; rfl
        have t3 : w8.cell? ⟨P8, 3, none⟩ = some (.int .i64 e.o) := by rw [Lib.cell_of_heap hx8.out]; rfl
        obtain ⟨x0, x1, x2, x3⟩ := row_cell hh8.out hcx.out hx.out
        go_cut [202] from 21 to 219 (fun s202 wx => s202 = .bool false ∧ Below w8.heap.size w8 wx)
        case first =>
          refine wp_region_noPanic ?_
          go_quiet (fail)
          refine NoPanic.normal ?_
          go_wp2_with fail
          go_meet
          exact ⟨rfl, below_drewN w8 _⟩
        case rest =>
          obtain ⟨rfl, b9⟩ := hcut
          clear t0 t1 t2 t3 x0 x1 x2 x3
          have hR6 := hR8.out.below b9
          have hB6 := hB8.out.trans (b9.mono hB8.out.size)
          have he := hx.out
          have hP6 := hP6.out
          have hil := hi1
          clear hx b9 hR8 hB8 hh8 hcx hx8
          have hB6s := hB6.size
          have hwr : IntKind.i64.wrap ((i : Int) + 1) = (i : Int) + 1 := IntWalk.i64_in _ ⟨by omega, by omega⟩
          have htn : ((i : Int) + 1).toNat = i + 1 := by omega
          have jx1 : (0 : Int) ≤ (i : Int) := by omega
          have jx2 : (i : Int) ≤ (c4 : Int) := by omega
          have jx3 : (i : Int) + 1 ≤ (own.length : Int) := by omega
          have jx4 : (0 : Int) ≤ (i : Int) + 1 := by omega
          have jx5 : (i : Int) ≤ (i : Int) + 1 := by omega
          have hlo : (own.eraseIdx i).length = own.length - 1 := by have := erase_length he; omega
          by_cases hcc : c4 = i + 1
          · obtain ⟨v7, w7, o8, c8, w8, hr7, hr8, hR8, b8⟩ := cut_runs (ad := ⟨g4, 0, none⟩) hR6 he (by omega) hB6s (.inr (by omega))
            have hfin : SwEnd W q l m k (.slice o8 (own.length - 1) c8) w8 := ⟨_, _, own.eraseIdx i, hR8, hP6, by omega, hB6.trans (b8.mono hB6s)⟩
            replace hfin := Keep.mk hfin
            replace he := Keep.mk he
            clear hR6 hB6 hP6 hR8 b8 hlo
            subst hcc
            rw [Nat.sub_self] at hr8
            have hr9 := hr8
            rw [show own.length - (i + 1) = 0 by omega] at hr9
            go_upto_region 43 with fail
            refine wp_region_noPanic ?_
            go_region_law (first | refine step_append_run rfl (.tmp 205) (.tmp 208) 22 rfl rfl rfl rfl hr7 ?_ | refine step_append_run rfl (.tmp 209) (.tmp 213) 22 rfl rfl rfl rfl hr8 ?_ | refine step_append_run rfl (.tmp 209) (.tmp 213) 22 rfl rfl rfl rfl hr9 ?_)
            all_goals
              refine NoPanic.normal ?_
              go_wp2_with fail
              exact hK'.out _ _ _ _ _ _ _ _ _ _ _ _ _ _ _ _ _ _ _ _ _ _ _ _ _ _ _ _ _ _ _ _ _ _ _ _ _ _ _ _ _ _ _ _ _ _ _ _ _ _ _ _ _ _ _ _ _ _ _ _ _ _ _ _ _ _ _ _ _ _ _ _ _ _ _ _ _ _ _ _ _ _ _ _ _ _ _ _ _ _ _ _ _ _ _ _ _ _ _ _ _ _ _ _ _ _ _ _ _ _ _ _ _ _ _ _ _ _ _ _ _ _ _ _ _ _ _ _ _ _ _ _ _ _ _ _ _ _ _ _ _ _ _ _ _ _ _ _ _ _ _ _ _ _ _ _ _ _ _ _ _ _ _ _ _ _ _ _ _ _ _ _ _ _ _ _ _ _ _ _ _ _ _ _ _ _ _ _ _ _ _ _ _ _ _ _ _ _ _ _ _ _ _ _ _ _ _ _ _ _ hfin.out
          · obtain ⟨v7, w7, o8, c8, w8, hr7, hr8, hR8, b8⟩ := cut_runs (ad := ⟨g4, (i + 1) * 4, none⟩) hR6 he (by omega) hB6s (.inl rfl)
            have hfin : SwEnd W q l m k (.slice o8 (own.length - 1) c8) w8 := ⟨_, _, own.eraseIdx i, hR8, hP6, by omega, hB6.trans (b8.mono hB6s)⟩
            replace hfin := Keep.mk hfin
            replace he := Keep.mk he
            clear hR6 hB6 hP6 hR8 b8 hlo
            skip
            go_upto_region 43 with fail
            refine wp_region_noPanic ?_
            go_region_law (first | refine step_append_run rfl (.tmp 205) (.tmp 208) 22 rfl rfl rfl rfl hr7 ?_ | refine step_append_run rfl (.tmp 209) (.tmp 213) 22 rfl rfl rfl rfl hr8 ?_)
            all_goals
              refine NoPanic.normal ?_
              go_wp2_with fail
              exact hK'.out _ _ _ _ _ _ _ _ _ _ _ _ _ _ _ _ _ _ _ _ _ _ _ _ _ _ _ _ _ _ _ _ _ _ _ _ _ _ _ _ _ _ _ _ _ _ _ _ _ _ _ _ _ _ _ _ _ _ _ _ _ _ _ _ _ _ _ _ _ _ _ _ _ _ _ _ _ _ _ _ _ _ _ _ _ _ _ _ _ _ _ _ _ _ _ _ _ _ _ _ _ _ _ _ _ _ _ _ _ _ _ _ _ _ _ _ _ _ _ _ _ _ _ _ _ _ _ _ _ _ _ _ _ _ _ _ _ _ _ _ _ _ _ _ _ _ _ _ _ _ _ _ _ _ _ _ _ _ _ _ _ _ _ _ _ _ _ _ _ _ _ _ _ _ _ _ _ _ _ _ _ _ _ _ _ _ _ _ _ _ _ _ _ _ _ _ _ _ _ _ _ _ _ _ _ _ _ _ _ _ hfin.out
end Go.Proofs.Ytdohclfkbfeihaa
