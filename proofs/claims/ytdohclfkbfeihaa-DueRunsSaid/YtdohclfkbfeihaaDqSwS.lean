/- DueRuns: the switch, Set. -/
import Derived.Test.YtdohclfkbfeihaaDqSw
namespace Go.Proofs.Ytdohclfkbfeihaa
open Go.RowKit Go.Maps
set_option maxHeartbeats 4000000 in
set_option maxRecDepth 1000000 in
theorem Try.sw_setNo {W wr : World} {q l m k P c4 : Nat} {o4 : Option Addr} {v : Value} {es own : List Ent} {y : Ent} (u0 u1 u2 u5 u8 u9 u10 u11 u12 u13 u14 u15 u16 u17 u18 u19 u20 u21 u22 u23 u24 u25 u26 u27 u28 u29 u30 u31 u32 u33 u34 u35 u36 u37 u38 u39 u40 u41 u42 u43 u44 u45 u46 u47 u48 u49 u50 u51 u52 u53 u54 u55 u56 u58 u59 u60 u61 u62 u63 u64 u65 u66 u67 u68 u69 u70 u71 u72 u73 u74 u75 u76 u77 u78 u79 u80 u81 u82 u83 u84 u85 u86 u87 u88 u89 u90 u91 u92 u93 u94 u95 u96 u97 u98 u99 u100 u101 u102 u103 u104 u105 u106 u107 u108 u109 u110 u111 u112 u113 u114 u115 u116 u117 u118 u119 u120 u121 u122 u123 u124 u125 u126 u127 u128 u129 u130 u131 u132 u133 u134 u135 u136 u137 u138 u139 u140 u141 u142 u143 u144 u145 u146 u147 u148 u149 u150 u151 u152 u153 u154 u155 u156 u157 u158 u159 u160 u161 u162 u163 u164 u165 u166 u167 u168 u169 u170 u171 u172 u173 u174 u175 u176 u177 u178 u179 u180 u181 u182 u183 u184 u185 u186 u187 u188 u189 u190 u191 u192 u193 u194 u195 u196 u197 u198 u199 u200 u201 u202 u203 u204 u205 u206 u207 u208 u209 u210 u211 u212 u213 u214 u215 u216 u217 u218 u219 : Value) {K' : Act → World → Prop} {Q' : Exit → Act → World → Prop}
    (hR5 : Keep (RunAt wr W.heap.size q l m v (.slice o4 own.length c4) es own)) (hP : Keep (es.Perm own)) (hl : own.length ≤ k) (hk : k < 60) (hB5 : Keep (Below W.heap.size W wr)) (wy : Keep y.wf)
    (hyw : Keep (wr.heap[P]? = some (.cells #[.int .i64 0, .int .i64 y.k, .int .u64 y.n, .int .i64 y.o, .int .i64 y.t] 44 (0, 0)))) (hno : Keep (∀ e ∈ es, e.nm ≠ y.nm))
    (hK' : Keep (∀ (x4 : Value) (wx : World) (z8 z9 z10 z11 z12 z13 z14 z15 z16 z21 z22 z23 z24 z25 z26 z27 z28 z29 z30 z31 z32 z33 z34 z35 z36 z37 z38 z39 z40 z41 z42 z43 z44 z45 z46 z47 z48 z49 z50 z51 z52 z53 z54 z55 z56 z57 z58 z59 z60 z61 z62 z63 z64 z65 z66 z67 z68 z69 z70 z71 z72 z73 z74 z75 z76 z77 z78 z79 z80 z81 z82 z83 z84 z85 z86 z87 z88 z89 z90 z91 z92 z93 z94 z95 z96 z97 z98 z99 z100 z101 z102 z103 z104 z105 z106 z107 z108 z109 z110 z111 z112 z113 z114 z115 z116 z117 z118 z119 z120 z121 z122 z123 z124 z125 z126 z127 z128 z129 z130 z131 z132 z133 z134 z135 z136 z137 z138 z139 z140 z141 z142 z143 z144 z145 z146 z147 z148 z149 z150 z151 z152 z153 z154 z155 z156 z157 z158 z159 z160 z161 z162 z163 z164 z165 z166 z167 z168 z169 z170 z171 z172 z173 z174 z175 z176 z177 z178 z179 z180 z181 z182 z183 z184 z185 z186 z187 z188 z189 z190 z191 z192 z193 z194 z195 z196 z197 z198 z199 z200 z201 z202 z203 z204 z205 z206 z207 z208 z209 z210 z211 z212 z213 z214 z215 z216 z217 z218 z219 : Value), SwEnd W q l m k x4 wx → K' ⟨#[u0, u1, u2, (.pointer (some ⟨q, 0, none⟩)), x4, u5, (.pointer (some ⟨P, 0, none⟩)), (.int .i64 (-1)), z8, z9, z10, z11, z12, z13, z14, z15, z16, u17, u18, u19, u20, z21, z22, z23, z24, z25, z26, z27, z28, z29, z30, z31, z32, z33, z34, z35, z36, z37, z38, z39, z40, z41, z42, z43, z44, z45, z46, z47, z48, z49, z50, z51, z52, z53, z54, z55, z56, z57, z58, z59, z60, z61, z62, z63, z64, z65, z66, z67, z68, z69, z70, z71, z72, z73, z74, z75, z76, z77, z78, z79, z80, z81, z82, z83, z84, z85, z86, z87, z88, z89, z90, z91, z92, z93, z94, z95, z96, z97, z98, z99, z100, z101, z102, z103, z104, z105, z106, z107, z108, z109, z110, z111, z112, z113, z114, z115, z116, z117, z118, z119, z120, z121, z122, z123, z124, z125, z126, z127, z128, z129, z130, z131, z132, z133, z134, z135, z136, z137, z138, z139, z140, z141, z142, z143, z144, z145, z146, z147, z148, z149, z150, z151, z152, z153, z154, z155, z156, z157, z158, z159, z160, z161, z162, z163, z164, z165, z166, z167, z168, z169, z170, z171, z172, z173, z174, z175, z176, z177, z178, z179, z180, z181, z182, z183, z184, z185, z186, z187, z188, z189, z190, z191, z192, z193, z194, z195, z196, z197, z198, z199, z200, z201, z202, z203, z204, z205, z206, z207, z208, z209, z210, z211, z212, z213, z214, z215, z216, z217, z218, z219], []⟩ wx)) :
    Code.wp Try.prog sw (Exit.then K' Q') ⟨#[u0, u1, u2, (.pointer (some ⟨q, 0, none⟩)), (.slice o4 own.length c4), u5, (.pointer (some ⟨P, 0, none⟩)), (.int .i64 (-1)), u8, u9, u10, u11, u12, u13, u14, u15, u16, u17, u18, u19, u20, u21, u22, u23, u24, u25, u26, u27, u28, u29, u30, u31, u32, u33, u34, u35, u36, u37, u38, u39, u40, u41, u42, u43, u44, u45, u46, u47, u48, u49, u50, u51, u52, u53, u54, u55, u56, (.int .i64 (0)), u58, u59, u60, u61, u62, u63, u64, u65, u66, u67, u68, u69, u70, u71, u72, u73, u74, u75, u76, u77, u78, u79, u80, u81, u82, u83, u84, u85, u86, u87, u88, u89, u90, u91, u92, u93, u94, u95, u96, u97, u98, u99, u100, u101, u102, u103, u104, u105, u106, u107, u108, u109, u110, u111, u112, u113, u114, u115, u116, u117, u118, u119, u120, u121, u122, u123, u124, u125, u126, u127, u128, u129, u130, u131, u132, u133, u134, u135, u136, u137, u138, u139, u140, u141, u142, u143, u144, u145, u146, u147, u148, u149, u150, u151, u152, u153, u154, u155, u156, u157, u158, u159, u160, u161, u162, u163, u164, u165, u166, u167, u168, u169, u170, u171, u172, u173, u174, u175, u176, u177, u178, u179, u180, u181, u182, u183, u184, u185, u186, u187, u188, u189, u190, u191, u192, u193, u194, u195, u196, u197, u198, u199, u200, u201, u202, u203, u204, u205, u206, u207, u208, u209, u210, u211, u212, u213, u214, u215, u216, u217, u218, u219], []⟩ wr := by
  conv => arg 2; whnf
  obtain ⟨i0, hi, hz0, hz1, hz2⟩ := info_parts Try.info32
  have hS := Try.Set_walk hR5.out.queue (by have := hP.out.length_eq; omega) hB5.out.size wy.out
  unfold TidV at hS
  replace hS := Keep.mk hS
  have z1 : wr.cell? ⟨P, 1, none⟩ = some (.int .i64 y.k) := by rw [Lib.cell_of_heap hyw.out]; rfl
  have z2 : wr.cell? ⟨P, 2, none⟩ = some (.int .u64 y.n) := by rw [Lib.cell_of_heap hyw.out]; rfl
  have z3 : wr.cell? ⟨P, 3, none⟩ = some (.int .i64 y.o) := by rw [Lib.cell_of_heap hyw.out]; rfl
  have z4 : wr.cell? ⟨P, 4, none⟩ = some (.int .i64 y.t) := by rw [Lib.cell_of_heap hyw.out]; rfl
  go_wp2_with (go_at_call 10; refine hS.out.mono ?_)
  rintro x w6 ⟨v6, es6, rfl, hQ6, hT6, hor⟩
  have hR6 := hR5.out.turn hT6 hQ6
  have hB6 := hB5.out.trans (hR5.out.queue.keeps hT6 (Nat.le_refl _) hB5.out.size)
  have hy6 : w6.heap[P]? = some (.cells #[.int .i64 0, .int .i64 y.k, .int .u64 y.n, .int .i64 y.o, .int .i64 y.t] 44 (0, 0)) := by
    obtain ⟨r1, r2, r3⟩ := box_far hR5.out.queue hyw.out
    rw [hT6.block P (lt_of_block hyw.out) r1 r2 r3]
    exact hyw.out
  have t0 : w6.cell? ⟨P, 4, none⟩ = some (.int .i64 y.t) := by rw [Lib.cell_of_heap hy6]; rfl
  have t1 : w6.cell? ⟨P, 1, none⟩ = some (.int .i64 y.k) := by rw [Lib.cell_of_heap hy6]; rfl
  have t2 : w6.cell? ⟨P, 2, none⟩ = some (.int .u64 y.n) := by rw [Lib.cell_of_heap hy6]; rfl
  have t3 : w6.cell? ⟨P, 3, none⟩ = some (.int .i64 y.o) := by rw [Lib.cell_of_heap hy6]; rfl
  have hP6 : es6.Perm (own ++ [y]) := by
    rcases hor with ⟨e, he, hen, _⟩ | ⟨_, hp⟩
    · exact absurd hen (hno.out e he)
    · exact (hp.trans (hP.out.cons y)).trans (List.perm_append_comm (l₁ := [y]) (l₂ := own))
  have b7 : Below w6.heap.size w6 (w6.alloc (.cells #[.int .i64 y.t, .int .i64 y.k, .int .u64 y.n, .int .i64 y.o] 32 (0, 0))) := (Below.refl _ _).alloc (Nat.le_refl _) _
  have hR7 := hR6.below b7
  have hrow7 := hR7.row
  have hB7 := hB6.trans (b7.mono hB6.size)
  have hq7 : (w6.alloc (.cells #[.int .i64 y.t, .int .i64 y.k, .int .u64 y.n, .int .i64 y.o] 32 (0, 0))).heap[w6.heap.size]? = some (.cells #[.int .i64 y.t, .int .i64 y.k, .int .u64 y.n, .int .i64 y.o] 32 (0, 0)) := (MapKept.heap_alloc w6 _).1
  have hs7 := hB7.size
  replace hP6 := Keep.mk hP6
  replace hR7 := Keep.mk hR7
  replace hB7 := Keep.mk hB7
  clear hS hT6 hor hR6 hB6 hy6 b7 hQ6
  go_wp2_with (first | (at_builtin; refine wpList_append_own_at _ rfl _ _ 22 rfl W.heap.size 32 i0 _ 4 32 Try.underlying22 hi hz0 hz1 hz2 rfl (by decide) _ _ _ rfl hrow7 ⟨w6.heap.size, 0, none⟩ 1 1 [.int .i64 y.t, .int .i64 y.k, .int .u64 y.n, .int .i64 y.o] rfl rfl (news_at hq7) (by intro u hu; simp at hu; rcases hu with rfl | rfl | rfl | rfl <;> rfl) (by unfold maxLen; omega) (by omega) hs7 ?_; intro v' w8 hown8 hg8 hnil8 hloc8) | go_in)
  have hR8 : RunAt w8 W.heap.size q l m v6 v' es6 (own ++ [y]) := by
    refine hR7.out.own hg8 ?_ (hloc8.imp id (fun h k hk => by rw [h] at hk; cases hk; exact Nat.le_refl _))
    have hx : flat (own ++ [y]) = flat own ++ [.int .i64 y.t, .int .i64 y.k, .int .u64 y.n, .int .i64 y.o] := by rw [flat_app]; rfl
    rw [hx, show (own ++ [y]).length = own.length + 1 by simp]
    exact hown8
  have hB8 := hB7.out.trans (below_of_grown hg8 hB7.out.size (row_base hrow7))
  have hfin : SwEnd W q l m k v' w8 := ⟨v6, es6, own ++ [y], hR8, hP6.out, by simp; omega, hB8⟩
  replace hfin := Keep.mk hfin
  clear hown8 hg8 hnil8 hloc8 hR8 hB8 hrow7 hq7
  go_wp2_with fail
  exact hK'.out _ _ _ _ _ _ _ _ _ _ _ _ _ _ _ _ _ _ _ _ _ _ _ _ _ _ _ _ _ _ _ _ _ _ _ _ _ _ _ _ _ _ _ _ _ _ _ _ _ _ _ _ _ _ _ _ _ _ _ _ _ _ _ _ _ _ _ _ _ _ _ _ _ _ _ _ _ _ _ _ _ _ _ _ _ _ _ _ _ _ _ _ _ _ _ _ _ _ _ _ _ _ _ _ _ _ _ _ _ _ _ _ _ _ _ _ _ _ _ _ _ _ _ _ _ _ _ _ _ _ _ _ _ _ _ _ _ _ _ _ _ _ _ _ _ _ _ _ _ _ _ _ _ _ _ _ _ _ _ _ _ _ _ _ _ _ _ _ _ _ _ _ _ _ _ _ _ _ _ _ _ _ _ _ _ _ _ _ _ _ _ _ _ _ _ _ _ _ _ _ _ _ _ _ _ _ _ _ _ _ hfin.out
set_option maxHeartbeats 4000000 in
set_option maxRecDepth 1000000 in
theorem Try.sw_setYes {W wr : World} {q l m k P c4 : Nat} {o4 : Option Addr} {v : Value} {es own : List Ent} {y : Ent} {i : Nat} {e : Ent} (u0 u1 u2 u5 u8 u9 u10 u11 u12 u13 u14 u15 u16 u17 u18 u19 u20 u21 u22 u23 u24 u25 u26 u27 u28 u29 u30 u31 u32 u33 u34 u35 u36 u37 u38 u39 u40 u41 u42 u43 u44 u45 u46 u47 u48 u49 u50 u51 u52 u53 u54 u55 u56 u58 u59 u60 u61 u62 u63 u64 u65 u66 u67 u68 u69 u70 u71 u72 u73 u74 u75 u76 u77 u78 u79 u80 u81 u82 u83 u84 u85 u86 u87 u88 u89 u90 u91 u92 u93 u94 u95 u96 u97 u98 u99 u100 u101 u102 u103 u104 u105 u106 u107 u108 u109 u110 u111 u112 u113 u114 u115 u116 u117 u118 u119 u120 u121 u122 u123 u124 u125 u126 u127 u128 u129 u130 u131 u132 u133 u134 u135 u136 u137 u138 u139 u140 u141 u142 u143 u144 u145 u146 u147 u148 u149 u150 u151 u152 u153 u154 u155 u156 u157 u158 u159 u160 u161 u162 u163 u164 u165 u166 u167 u168 u169 u170 u171 u172 u173 u174 u175 u176 u177 u178 u179 u180 u181 u182 u183 u184 u185 u186 u187 u188 u189 u190 u191 u192 u193 u194 u195 u196 u197 u198 u199 u200 u201 u202 u203 u204 u205 u206 u207 u208 u209 u210 u211 u212 u213 u214 u215 u216 u217 u218 u219 : Value) {K' : Act → World → Prop} {Q' : Exit → Act → World → Prop}
    (hR5 : Keep (RunAt wr W.heap.size q l m v (.slice o4 own.length c4) es own)) (hP : Keep (es.Perm own)) (hl : own.length ≤ k) (hk : k < 60) (hB5 : Keep (Below W.heap.size W wr)) (wy : Keep y.wf)
    (hyw : Keep (wr.heap[P]? = some (.cells #[.int .i64 0, .int .i64 y.k, .int .u64 y.n, .int .i64 y.o, .int .i64 y.t] 44 (0, 0)))) (he : own[i]? = some e) (hen : e.nm = y.nm)
    (hK' : Keep (∀ (x4 : Value) (wx : World) (z8 z9 z10 z11 z12 z13 z14 z15 z16 z21 z22 z23 z24 z25 z26 z27 z28 z29 z30 z31 z32 z33 z34 z35 z36 z37 z38 z39 z40 z41 z42 z43 z44 z45 z46 z47 z48 z49 z50 z51 z52 z53 z54 z55 z56 z57 z58 z59 z60 z61 z62 z63 z64 z65 z66 z67 z68 z69 z70 z71 z72 z73 z74 z75 z76 z77 z78 z79 z80 z81 z82 z83 z84 z85 z86 z87 z88 z89 z90 z91 z92 z93 z94 z95 z96 z97 z98 z99 z100 z101 z102 z103 z104 z105 z106 z107 z108 z109 z110 z111 z112 z113 z114 z115 z116 z117 z118 z119 z120 z121 z122 z123 z124 z125 z126 z127 z128 z129 z130 z131 z132 z133 z134 z135 z136 z137 z138 z139 z140 z141 z142 z143 z144 z145 z146 z147 z148 z149 z150 z151 z152 z153 z154 z155 z156 z157 z158 z159 z160 z161 z162 z163 z164 z165 z166 z167 z168 z169 z170 z171 z172 z173 z174 z175 z176 z177 z178 z179 z180 z181 z182 z183 z184 z185 z186 z187 z188 z189 z190 z191 z192 z193 z194 z195 z196 z197 z198 z199 z200 z201 z202 z203 z204 z205 z206 z207 z208 z209 z210 z211 z212 z213 z214 z215 z216 z217 z218 z219 : Value), SwEnd W q l m k x4 wx → K' ⟨#[u0, u1, u2, (.pointer (some ⟨q, 0, none⟩)), x4, u5, (.pointer (some ⟨P, 0, none⟩)), (.int .i64 (i : Int)), z8, z9, z10, z11, z12, z13, z14, z15, z16, u17, u18, u19, u20, z21, z22, z23, z24, z25, z26, z27, z28, z29, z30, z31, z32, z33, z34, z35, z36, z37, z38, z39, z40, z41, z42, z43, z44, z45, z46, z47, z48, z49, z50, z51, z52, z53, z54, z55, z56, z57, z58, z59, z60, z61, z62, z63, z64, z65, z66, z67, z68, z69, z70, z71, z72, z73, z74, z75, z76, z77, z78, z79, z80, z81, z82, z83, z84, z85, z86, z87, z88, z89, z90, z91, z92, z93, z94, z95, z96, z97, z98, z99, z100, z101, z102, z103, z104, z105, z106, z107, z108, z109, z110, z111, z112, z113, z114, z115, z116, z117, z118, z119, z120, z121, z122, z123, z124, z125, z126, z127, z128, z129, z130, z131, z132, z133, z134, z135, z136, z137, z138, z139, z140, z141, z142, z143, z144, z145, z146, z147, z148, z149, z150, z151, z152, z153, z154, z155, z156, z157, z158, z159, z160, z161, z162, z163, z164, z165, z166, z167, z168, z169, z170, z171, z172, z173, z174, z175, z176, z177, z178, z179, z180, z181, z182, z183, z184, z185, z186, z187, z188, z189, z190, z191, z192, z193, z194, z195, z196, z197, z198, z199, z200, z201, z202, z203, z204, z205, z206, z207, z208, z209, z210, z211, z212, z213, z214, z215, z216, z217, z218, z219], []⟩ wx)) :
    Code.wp Try.prog sw (Exit.then K' Q') ⟨#[u0, u1, u2, (.pointer (some ⟨q, 0, none⟩)), (.slice o4 own.length c4), u5, (.pointer (some ⟨P, 0, none⟩)), (.int .i64 (i : Int)), u8, u9, u10, u11, u12, u13, u14, u15, u16, u17, u18, u19, u20, u21, u22, u23, u24, u25, u26, u27, u28, u29, u30, u31, u32, u33, u34, u35, u36, u37, u38, u39, u40, u41, u42, u43, u44, u45, u46, u47, u48, u49, u50, u51, u52, u53, u54, u55, u56, (.int .i64 (0)), u58, u59, u60, u61, u62, u63, u64, u65, u66, u67, u68, u69, u70, u71, u72, u73, u74, u75, u76, u77, u78, u79, u80, u81, u82, u83, u84, u85, u86, u87, u88, u89, u90, u91, u92, u93, u94, u95, u96, u97, u98, u99, u100, u101, u102, u103, u104, u105, u106, u107, u108, u109, u110, u111, u112, u113, u114, u115, u116, u117, u118, u119, u120, u121, u122, u123, u124, u125, u126, u127, u128, u129, u130, u131, u132, u133, u134, u135, u136, u137, u138, u139, u140, u141, u142, u143, u144, u145, u146, u147, u148, u149, u150, u151, u152, u153, u154, u155, u156, u157, u158, u159, u160, u161, u162, u163, u164, u165, u166, u167, u168, u169, u170, u171, u172, u173, u174, u175, u176, u177, u178, u179, u180, u181, u182, u183, u184, u185, u186, u187, u188, u189, u190, u191, u192, u193, u194, u195, u196, u197, u198, u199, u200, u201, u202, u203, u204, u205, u206, u207, u208, u209, u210, u211, u212, u213, u214, u215, u216, u217, u218, u219], []⟩ wr := by
  conv => arg 2; whnf
  have hil : i < own.length := (List.getElem?_eq_some_iff.1 he).1
  have hS := Try.Set_walk hR5.out.queue (by have := hP.out.length_eq; omega) hB5.out.size wy.out
  unfold TidV at hS
  replace hS := Keep.mk hS
  have z1 : wr.cell? ⟨P, 1, none⟩ = some (.int .i64 y.k) := by rw [Lib.cell_of_heap hyw.out]; rfl
  have z2 : wr.cell? ⟨P, 2, none⟩ = some (.int .u64 y.n) := by rw [Lib.cell_of_heap hyw.out]; rfl
  have z3 : wr.cell? ⟨P, 3, none⟩ = some (.int .i64 y.o) := by rw [Lib.cell_of_heap hyw.out]; rfl
  have z4 : wr.cell? ⟨P, 4, none⟩ = some (.int .i64 y.t) := by rw [Lib.cell_of_heap hyw.out]; rfl
  go_wp2_with (go_at_call 10; refine hS.out.mono ?_)
  rintro x w6 ⟨v6, es6, rfl, hQ6, hT6, hor⟩
  have hR6 := hR5.out.turn hT6 hQ6
  have hB6 := hB5.out.trans (hR5.out.queue.keeps hT6 (Nat.le_refl _) hB5.out.size)
  have hy6 : w6.heap[P]? = some (.cells #[.int .i64 0, .int .i64 y.k, .int .u64 y.n, .int .i64 y.o, .int .i64 y.t] 44 (0, 0)) := by
    obtain ⟨r1, r2, r3⟩ := box_far hR5.out.queue hyw.out
    rw [hT6.block P (lt_of_block hyw.out) r1 r2 r3]
    exact hyw.out
  have t0 : w6.cell? ⟨P, 4, none⟩ = some (.int .i64 y.t) := by rw [Lib.cell_of_heap hy6]; rfl
  have t1 : w6.cell? ⟨P, 1, none⟩ = some (.int .i64 y.k) := by rw [Lib.cell_of_heap hy6]; rfl
  have t2 : w6.cell? ⟨P, 2, none⟩ = some (.int .u64 y.n) := by rw [Lib.cell_of_heap hy6]; rfl
  have t3 : w6.cell? ⟨P, 3, none⟩ = some (.int .i64 y.o) := by rw [Lib.cell_of_heap hy6]; rfl
  obtain ⟨g4, cap4, cur, hsv, _, hh4, _, _, _, hcx⟩ := row_slice hR6.row (by omega)
  cases hsv
  obtain ⟨e0, _, _, _⟩ := row_cell hh4 hcx he
  have f0 := Lib.frozen_of_heap hh4 (i * 4)
  have jx1 : (0 : Int) ≤ (i : Int) := by omega
  have jx2 : (i : Int) < (own.length : Int) := by omega
  have hR7 := hR6.setTime he hen
  have hg7 : g4 < w6.heap.size := lt_of_block hh4
  have hbg := row_base hR6.row
  have hP6 : es6.Perm (own.set i y) := by
    rcases hor with ⟨e', he', hen', r, p1, p2⟩ | ⟨hn, _⟩
    · obtain ⟨_, h2⟩ := left_perm hR5.out.queue.heap.at_.nd hP.out he p1 (hen'.trans hen.symm)
      exact (p2.trans (h2.cons y)).trans (set_perm2 he y).symm
    · exact absurd hen (hn e (hP.out.mem_iff.2 (List.mem_of_getElem? he)))
  have hB7 : Below W.heap.size W (w6.setCell ⟨g4, i * 4, none⟩ (.int .i64 y.t)) := hB6.setCell (p := ⟨g4, i * 4, none⟩) (hbg g4 rfl) _
  have hfin : SwEnd W q l m k (.slice (some ⟨g4, 0, none⟩) own.length c4) (w6.setCell ⟨g4, i * 4, none⟩ (.int .i64 y.t)) := ⟨v6, es6, _, hR7, hP6, by rw [List.length_set]; omega, hB7⟩
  replace hfin := Keep.mk hfin
  replace he := Keep.mk he
  replace hen := Keep.mk hen
  clear hS hT6 hor hR6 hB6 hy6 hR7 hP6 hB7 hh4 hcx hQ6 hbg
  go_wp2_with fail
  exact hK'.out _ _ _ _ _ _ _ _ _ _ _ _ _ _ _ _ _ _ _ _ _ _ _ _ _ _ _ _ _ _ _ _ _ _ _ _ _ _ _ _ _ _ _ _ _ _ _ _ _ _ _ _ _ _ _ _ _ _ _ _ _ _ _ _ _ _ _ _ _ _ _ _ _ _ _ _ _ _ _ _ _ _ _ _ _ _ _ _ _ _ _ _ _ _ _ _ _ _ _ _ _ _ _ _ _ _ _ _ _ _ _ _ _ _ _ _ _ _ _ _ _ _ _ _ _ _ _ _ _ _ _ _ _ _ _ _ _ _ _ _ _ _ _ _ _ _ _ _ _ _ _ _ _ _ _ _ _ _ _ _ _ _ _ _ _ _ _ _ _ _ _ _ _ _ _ _ _ _ _ _ _ _ _ _ _ _ _ _ _ _ _ _ _ _ _ _ _ _ _ _ _ _ _ _ _ _ _ _ _ _ hfin.out
end Go.Proofs.Ytdohclfkbfeihaa
