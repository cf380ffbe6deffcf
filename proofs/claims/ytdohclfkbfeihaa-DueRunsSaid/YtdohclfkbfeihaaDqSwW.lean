/- DueRuns: the switch, When. -/
import Derived.Test.YtdohclfkbfeihaaDqSw
namespace Go.Proofs.Ytdohclfkbfeihaa
open Go.RowKit Go.Maps
set_option maxHeartbeats 4000000 in
set_option maxRecDepth 1000000 in
theorem Try.sw_whenNo {W wr : World} {q l m k P c4 : Nat} {o4 : Option Addr} {v : Value} {es own : List Ent} {y : Ent} (u0 u1 u2 u5 u8 u9 u10 u11 u12 u13 u14 u15 u16 u17 u18 u19 u20 u21 u22 u23 u24 u25 u26 u27 u28 u29 u30 u31 u32 u33 u34 u35 u36 u37 u38 u39 u40 u41 u42 u43 u44 u45 u46 u47 u48 u49 u50 u51 u52 u53 u54 u55 u56 u58 u59 u60 u61 u62 u63 u64 u65 u66 u67 u68 u69 u70 u71 u72 u73 u74 u75 u76 u77 u78 u79 u80 u81 u82 u83 u84 u85 u86 u87 u88 u89 u90 u91 u92 u93 u94 u95 u96 u97 u98 u99 u100 u101 u102 u103 u104 u105 u106 u107 u108 u109 u110 u111 u112 u113 u114 u115 u116 u117 u118 u119 u120 u121 u122 u123 u124 u125 u126 u127 u128 u129 u130 u131 u132 u133 u134 u135 u136 u137 u138 u139 u140 u141 u142 u143 u144 u145 u146 u147 u148 u149 u150 u151 u152 u153 u154 u155 u156 u157 u158 u159 u160 u161 u162 u163 u164 u165 u166 u167 u168 u169 u170 u171 u172 u173 u174 u175 u176 u177 u178 u179 u180 u181 u182 u183 u184 u185 u186 u187 u188 u189 u190 u191 u192 u193 u194 u195 u196 u197 u198 u199 u200 u201 u202 u203 u204 u205 u206 u207 u208 u209 u210 u211 u212 u213 u214 u215 u216 u217 u218 u219 : Value) {K' : Act → World → Prop} {Q' : Exit → Act → World → Prop}
    (hR5 : Keep (RunAt wr W.heap.size q l m v (.slice o4 own.length c4) es own)) (hP : Keep (es.Perm own)) (hl : own.length ≤ k) (hk : k < 60) (hB5 : Keep (Below W.heap.size W wr)) (wy : Keep y.wf)
    (hyw : Keep (wr.heap[P]? = some (.cells #[.int .i64 2, .int .i64 y.k, .int .u64 y.n, .int .i64 y.o, .int .i64 y.t] 44 (0, 0)))) (hno : Keep (∀ e ∈ es, e.nm ≠ y.nm))
    (hK' : Keep (∀ (x4 : Value) (wx : World) (z8 z9 z10 z11 z12 z13 z14 z15 z16 z21 z22 z23 z24 z25 z26 z27 z28 z29 z30 z31 z32 z33 z34 z35 z36 z37 z38 z39 z40 z41 z42 z43 z44 z45 z46 z47 z48 z49 z50 z51 z52 z53 z54 z55 z56 z57 z58 z59 z60 z61 z62 z63 z64 z65 z66 z67 z68 z69 z70 z71 z72 z73 z74 z75 z76 z77 z78 z79 z80 z81 z82 z83 z84 z85 z86 z87 z88 z89 z90 z91 z92 z93 z94 z95 z96 z97 z98 z99 z100 z101 z102 z103 z104 z105 z106 z107 z108 z109 z110 z111 z112 z113 z114 z115 z116 z117 z118 z119 z120 z121 z122 z123 z124 z125 z126 z127 z128 z129 z130 z131 z132 z133 z134 z135 z136 z137 z138 z139 z140 z141 z142 z143 z144 z145 z146 z147 z148 z149 z150 z151 z152 z153 z154 z155 z156 z157 z158 z159 z160 z161 z162 z163 z164 z165 z166 z167 z168 z169 z170 z171 z172 z173 z174 z175 z176 z177 z178 z179 z180 z181 z182 z183 z184 z185 z186 z187 z188 z189 z190 z191 z192 z193 z194 z195 z196 z197 z198 z199 z200 z201 z202 z203 z204 z205 z206 z207 z208 z209 z210 z211 z212 z213 z214 z215 z216 z217 z218 z219 : Value), SwEnd W q l m k x4 wx → K' ⟨#[u0, u1, u2, (.pointer (some ⟨q, 0, none⟩)), x4, u5, (.pointer (some ⟨P, 0, none⟩)), (.int .i64 (-1)), z8, z9, z10, z11, z12, z13, z14, z15, z16, u17, u18, u19, u20, z21, z22, z23, z24, z25, z26, z27, z28, z29, z30, z31, z32, z33, z34, z35, z36, z37, z38, z39, z40, z41, z42, z43, z44, z45, z46, z47, z48, z49, z50, z51, z52, z53, z54, z55, z56, z57, z58, z59, z60, z61, z62, z63, z64, z65, z66, z67, z68, z69, z70, z71, z72, z73, z74, z75, z76, z77, z78, z79, z80, z81, z82, z83, z84, z85, z86, z87, z88, z89, z90, z91, z92, z93, z94, z95, z96, z97, z98, z99, z100, z101, z102, z103, z104, z105, z106, z107, z108, z109, z110, z111, z112, z113, z114, z115, z116, z117, z118, z119, z120, z121, z122, z123, z124, z125, z126, z127, z128, z129, z130, z131, z132, z133, z134, z135, z136, z137, z138, z139, z140, z141, z142, z143, z144, z145, z146, z147, z148, z149, z150, z151, z152, z153, z154, z155, z156, z157, z158, z159, z160, z161, z162, z163, z164, z165, z166, z167, z168, z169, z170, z171, z172, z173, z174, z175, z176, z177, z178, z179, z180, z181, z182, z183, z184, z185, z186, z187, z188, z189, z190, z191, z192, z193, z194, z195, z196, z197, z198, z199, z200, z201, z202, z203, z204, z205, z206, z207, z208, z209, z210, z211, z212, z213, z214, z215, z216, z217, z218, z219], []⟩ wx)) :
    Code.wp Try.prog sw (Exit.then K' Q') ⟨#[u0, u1, u2, (.pointer (some ⟨q, 0, none⟩)), (.slice o4 own.length c4), u5, (.pointer (some ⟨P, 0, none⟩)), (.int .i64 (-1)), u8, u9, u10, u11, u12, u13, u14, u15, u16, u17, u18, u19, u20, u21, u22, u23, u24, u25, u26, u27, u28, u29, u30, u31, u32, u33, u34, u35, u36, u37, u38, u39, u40, u41, u42, u43, u44, u45, u46, u47, u48, u49, u50, u51, u52, u53, u54, u55, u56, (.int .i64 (2)), u58, u59, u60, u61, u62, u63, u64, u65, u66, u67, u68, u69, u70, u71, u72, u73, u74, u75, u76, u77, u78, u79, u80, u81, u82, u83, u84, u85, u86, u87, u88, u89, u90, u91, u92, u93, u94, u95, u96, u97, u98, u99, u100, u101, u102, u103, u104, u105, u106, u107, u108, u109, u110, u111, u112, u113, u114, u115, u116, u117, u118, u119, u120, u121, u122, u123, u124, u125, u126, u127, u128, u129, u130, u131, u132, u133, u134, u135, u136, u137, u138, u139, u140, u141, u142, u143, u144, u145, u146, u147, u148, u149, u150, u151, u152, u153, u154, u155, u156, u157, u158, u159, u160, u161, u162, u163, u164, u165, u166, u167, u168, u169, u170, u171, u172, u173, u174, u175, u176, u177, u178, u179, u180, u181, u182, u183, u184, u185, u186, u187, u188, u189, u190, u191, u192, u193, u194, u195, u196, u197, u198, u199, u200, u201, u202, u203, u204, u205, u206, u207, u208, u209, u210, u211, u212, u213, u214, u215, u216, u217, u218, u219], []⟩ wr := by
  conv => arg 2; whnf
  have hS := Try.When_walk hR5.out.queue (by have := hP.out.length_eq; omega) wy.out
  unfold TidV at hS
  replace hS := Keep.mk hS
  have z1 : wr.cell? ⟨P, 1, none⟩ = some (.int .i64 y.k) := by rw [Lib.cell_of_heap hyw.out]; rfl
  have z2 : wr.cell? ⟨P, 2, none⟩ = some (.int .u64 y.n) := by rw [Lib.cell_of_heap hyw.out]; rfl
  have z3 : wr.cell? ⟨P, 3, none⟩ = some (.int .i64 y.o) := by rw [Lib.cell_of_heap hyw.out]; rfl
  have z4 : wr.cell? ⟨P, 4, none⟩ = some (.int .i64 y.t) := by rw [Lib.cell_of_heap hyw.out]; rfl
  go_wp2_with (go_at_call 14; refine hS.out.mono ?_)
  rintro x w6 ⟨t, b, rfl, hyes, hno6, b6⟩
  have hR6 := hR5.out.below b6
  have hB6 := hB5.out.trans (b6.mono hB5.out.size)
  have hfin : SwEnd W q l m k (.slice o4 own.length c4) w6 := ⟨v, es, own, hR6, hP.out, by omega, hB6⟩
  replace hfin := Keep.mk hfin
  have hb : b = false := by
    cases b
    · rfl
    · obtain ⟨e, he, hen, _⟩ := hyes rfl
      exact absurd hen (hno.out e he)
  subst hb
  obtain ⟨rfl, _⟩ := hno6 rfl
  clear hS hR6 hB6 hyes hno6
  go_wp2_with fail
  exact hK'.out _ _ _ _ _ _ _ _ _ _ _ _ _ _ _ _ _ _ _ _ _ _ _ _ _ _ _ _ _ _ _ _ _ _ _ _ _ _ _ _ _ _ _ _ _ _ _ _ _ _ _ _ _ _ _ _ _ _ _ _ _ _ _ _ _ _ _ _ _ _ _ _ _ _ _ _ _ _ _ _ _ _ _ _ _ _ _ _ _ _ _ _ _ _ _ _ _ _ _ _ _ _ _ _ _ _ _ _ _ _ _ _ _ _ _ _ _ _ _ _ _ _ _ _ _ _ _ _ _ _ _ _ _ _ _ _ _ _ _ _ _ _ _ _ _ _ _ _ _ _ _ _ _ _ _ _ _ _ _ _ _ _ _ _ _ _ _ _ _ _ _ _ _ _ _ _ _ _ _ _ _ _ _ _ _ _ _ _ _ _ _ _ _ _ _ _ _ _ _ _ _ _ _ _ _ _ _ _ _ _ hfin.out
set_option maxHeartbeats 4000000 in
set_option maxRecDepth 1000000 in
theorem Try.sw_whenYes {W wr : World} {q l m k P c4 : Nat} {o4 : Option Addr} {v : Value} {es own : List Ent} {y : Ent} {i : Nat} {e : Ent} (u0 u1 u2 u5 u8 u9 u10 u11 u12 u13 u14 u15 u16 u17 u18 u19 u20 u21 u22 u23 u24 u25 u26 u27 u28 u29 u30 u31 u32 u33 u34 u35 u36 u37 u38 u39 u40 u41 u42 u43 u44 u45 u46 u47 u48 u49 u50 u51 u52 u53 u54 u55 u56 u58 u59 u60 u61 u62 u63 u64 u65 u66 u67 u68 u69 u70 u71 u72 u73 u74 u75 u76 u77 u78 u79 u80 u81 u82 u83 u84 u85 u86 u87 u88 u89 u90 u91 u92 u93 u94 u95 u96 u97 u98 u99 u100 u101 u102 u103 u104 u105 u106 u107 u108 u109 u110 u111 u112 u113 u114 u115 u116 u117 u118 u119 u120 u121 u122 u123 u124 u125 u126 u127 u128 u129 u130 u131 u132 u133 u134 u135 u136 u137 u138 u139 u140 u141 u142 u143 u144 u145 u146 u147 u148 u149 u150 u151 u152 u153 u154 u155 u156 u157 u158 u159 u160 u161 u162 u163 u164 u165 u166 u167 u168 u169 u170 u171 u172 u173 u174 u175 u176 u177 u178 u179 u180 u181 u182 u183 u184 u185 u186 u187 u188 u189 u190 u191 u192 u193 u194 u195 u196 u197 u198 u199 u200 u201 u202 u203 u204 u205 u206 u207 u208 u209 u210 u211 u212 u213 u214 u215 u216 u217 u218 u219 : Value) {K' : Act → World → Prop} {Q' : Exit → Act → World → Prop}
    (hR5 : Keep (RunAt wr W.heap.size q l m v (.slice o4 own.length c4) es own)) (hP : Keep (es.Perm own)) (hl : own.length ≤ k) (hk : k < 60) (hB5 : Keep (Below W.heap.size W wr)) (wy : Keep y.wf)
    (hyw : Keep (wr.heap[P]? = some (.cells #[.int .i64 2, .int .i64 y.k, .int .u64 y.n, .int .i64 y.o, .int .i64 y.t] 44 (0, 0)))) (he : own[i]? = some e) (hen : e.nm = y.nm)
    (hK' : Keep (∀ (x4 : Value) (wx : World) (z8 z9 z10 z11 z12 z13 z14 z15 z16 z21 z22 z23 z24 z25 z26 z27 z28 z29 z30 z31 z32 z33 z34 z35 z36 z37 z38 z39 z40 z41 z42 z43 z44 z45 z46 z47 z48 z49 z50 z51 z52 z53 z54 z55 z56 z57 z58 z59 z60 z61 z62 z63 z64 z65 z66 z67 z68 z69 z70 z71 z72 z73 z74 z75 z76 z77 z78 z79 z80 z81 z82 z83 z84 z85 z86 z87 z88 z89 z90 z91 z92 z93 z94 z95 z96 z97 z98 z99 z100 z101 z102 z103 z104 z105 z106 z107 z108 z109 z110 z111 z112 z113 z114 z115 z116 z117 z118 z119 z120 z121 z122 z123 z124 z125 z126 z127 z128 z129 z130 z131 z132 z133 z134 z135 z136 z137 z138 z139 z140 z141 z142 z143 z144 z145 z146 z147 z148 z149 z150 z151 z152 z153 z154 z155 z156 z157 z158 z159 z160 z161 z162 z163 z164 z165 z166 z167 z168 z169 z170 z171 z172 z173 z174 z175 z176 z177 z178 z179 z180 z181 z182 z183 z184 z185 z186 z187 z188 z189 z190 z191 z192 z193 z194 z195 z196 z197 z198 z199 z200 z201 z202 z203 z204 z205 z206 z207 z208 z209 z210 z211 z212 z213 z214 z215 z216 z217 z218 z219 : Value), SwEnd W q l m k x4 wx → K' ⟨#[u0, u1, u2, (.pointer (some ⟨q, 0, none⟩)), x4, u5, (.pointer (some ⟨P, 0, none⟩)), (.int .i64 (i : Int)), z8, z9, z10, z11, z12, z13, z14, z15, z16, u17, u18, u19, u20, z21, z22, z23, z24, z25, z26, z27, z28, z29, z30, z31, z32, z33, z34, z35, z36, z37, z38, z39, z40, z41, z42, z43, z44, z45, z46, z47, z48, z49, z50, z51, z52, z53, z54, z55, z56, z57, z58, z59, z60, z61, z62, z63, z64, z65, z66, z67, z68, z69, z70, z71, z72, z73, z74, z75, z76, z77, z78, z79, z80, z81, z82, z83, z84, z85, z86, z87, z88, z89, z90, z91, z92, z93, z94, z95, z96, z97, z98, z99, z100, z101, z102, z103, z104, z105, z106, z107, z108, z109, z110, z111, z112, z113, z114, z115, z116, z117, z118, z119, z120, z121, z122, z123, z124, z125, z126, z127, z128, z129, z130, z131, z132, z133, z134, z135, z136, z137, z138, z139, z140, z141, z142, z143, z144, z145, z146, z147, z148, z149, z150, z151, z152, z153, z154, z155, z156, z157, z158, z159, z160, z161, z162, z163, z164, z165, z166, z167, z168, z169, z170, z171, z172, z173, z174, z175, z176, z177, z178, z179, z180, z181, z182, z183, z184, z185, z186, z187, z188, z189, z190, z191, z192, z193, z194, z195, z196, z197, z198, z199, z200, z201, z202, z203, z204, z205, z206, z207, z208, z209, z210, z211, z212, z213, z214, z215, z216, z217, z218, z219], []⟩ wx)) :
    Code.wp Try.prog sw (Exit.then K' Q') ⟨#[u0, u1, u2, (.pointer (some ⟨q, 0, none⟩)), (.slice o4 own.length c4), u5, (.pointer (some ⟨P, 0, none⟩)), (.int .i64 (i : Int)), u8, u9, u10, u11, u12, u13, u14, u15, u16, u17, u18, u19, u20, u21, u22, u23, u24, u25, u26, u27, u28, u29, u30, u31, u32, u33, u34, u35, u36, u37, u38, u39, u40, u41, u42, u43, u44, u45, u46, u47, u48, u49, u50, u51, u52, u53, u54, u55, u56, (.int .i64 (2)), u58, u59, u60, u61, u62, u63, u64, u65, u66, u67, u68, u69, u70, u71, u72, u73, u74, u75, u76, u77, u78, u79, u80, u81, u82, u83, u84, u85, u86, u87, u88, u89, u90, u91, u92, u93, u94, u95, u96, u97, u98, u99, u100, u101, u102, u103, u104, u105, u106, u107, u108, u109, u110, u111, u112, u113, u114, u115, u116, u117, u118, u119, u120, u121, u122, u123, u124, u125, u126, u127, u128, u129, u130, u131, u132, u133, u134, u135, u136, u137, u138, u139, u140, u141, u142, u143, u144, u145, u146, u147, u148, u149, u150, u151, u152, u153, u154, u155, u156, u157, u158, u159, u160, u161, u162, u163, u164, u165, u166, u167, u168, u169, u170, u171, u172, u173, u174, u175, u176, u177, u178, u179, u180, u181, u182, u183, u184, u185, u186, u187, u188, u189, u190, u191, u192, u193, u194, u195, u196, u197, u198, u199, u200, u201, u202, u203, u204, u205, u206, u207, u208, u209, u210, u211, u212, u213, u214, u215, u216, u217, u218, u219], []⟩ wr := by
  conv => arg 2; whnf
  have hil : i < own.length := (List.getElem?_eq_some_iff.1 he).1
  have hS := Try.When_walk hR5.out.queue (by have := hP.out.length_eq; omega) wy.out
  unfold TidV at hS
  replace hS := Keep.mk hS
  have z1 : wr.cell? ⟨P, 1, none⟩ = some (.int .i64 y.k) := by rw [Lib.cell_of_heap hyw.out]; rfl
  have z2 : wr.cell? ⟨P, 2, none⟩ = some (.int .u64 y.n) := by rw [Lib.cell_of_heap hyw.out]; rfl
  have z3 : wr.cell? ⟨P, 3, none⟩ = some (.int .i64 y.o) := by rw [Lib.cell_of_heap hyw.out]; rfl
  have z4 : wr.cell? ⟨P, 4, none⟩ = some (.int .i64 y.t) := by rw [Lib.cell_of_heap hyw.out]; rfl
  go_wp2_with (go_at_call 14; refine hS.out.mono ?_)
  rintro x w6 ⟨t, b, rfl, hyes, hno6, b6⟩
  have hR6 := hR5.out.below b6
  have hB6 := hB5.out.trans (b6.mono hB5.out.size)
  have hfin : SwEnd W q l m k (.slice o4 own.length c4) w6 := ⟨v, es, own, hR6, hP.out, by omega, hB6⟩
  replace hfin := Keep.mk hfin
  have hb : b = true := by
    cases b
    · exact absurd hen ((hno6 rfl).2 e (hP.out.mem_iff.2 (List.mem_of_getElem? he)))
    · rfl
  subst hb
  obtain ⟨e', he', hen', rfl⟩ := hyes rfl
  have hee := same_name hR5.out.queue.heap.at_.nd he' (hP.out.mem_iff.2 (List.mem_of_getElem? he)) (hen'.trans hen.symm)
  subst hee
  obtain ⟨g4, cap4, cur, hsv, _, hh4, _, _, _, hcx⟩ := row_slice hR6.row (by omega)
  cases hsv
  obtain ⟨e0, _, _, _⟩ := row_cell hh4 hcx he
  have jx1 : (0 : Int) ≤ (i : Int) := by omega
  have jx2 : (i : Int) < (own.length : Int) := by omega
  replace he := Keep.mk he
  replace hen := Keep.mk hen
  replace hen' := Keep.mk hen'
  replace he' := Keep.mk he'
  clear hS hR6 hB6 hyes hno6 hh4 hcx
  go_wp2_with fail
  exact hK'.out _ _ _ _ _ _ _ _ _ _ _ _ _ _ _ _ _ _ _ _ _ _ _ _ _ _ _ _ _ _ _ _ _ _ _ _ _ _ _ _ _ _ _ _ _ _ _ _ _ _ _ _ _ _ _ _ _ _ _ _ _ _ _ _ _ _ _ _ _ _ _ _ _ _ _ _ _ _ _ _ _ _ _ _ _ _ _ _ _ _ _ _ _ _ _ _ _ _ _ _ _ _ _ _ _ _ _ _ _ _ _ _ _ _ _ _ _ _ _ _ _ _ _ _ _ _ _ _ _ _ _ _ _ _ _ _ _ _ _ _ _ _ _ _ _ _ _ _ _ _ _ _ _ _ _ _ _ _ _ _ _ _ _ _ _ _ _ _ _ _ _ _ _ _ _ _ _ _ _ _ _ _ _ _ _ _ _ _ _ _ _ _ _ _ _ _ _ _ _ _ _ _ _ _ _ _ _ _ _ _ hfin.out
end Go.Proofs.Ytdohclfkbfeihaa
