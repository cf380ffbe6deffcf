/- The library's sorted keys of a map with plain numbers for keys, at this program's numbers: the kit's contracts laid, and read as the executor's summary wants them. -/
import Derived.Shelf.SlIterI.Nil
import Derived.Shelf.SortM.Plain
import Derived.Shelf.SortM.SortNone
import Derived.Ground.GgzProg
import Derived.Ground.SlgmProg
import Derived.Test.YtaldffnpppdobaaRows
import Derived.Test.YtaldffnpppdobaaE36
namespace Go.Proofs
open Go.RowKit Go.Maps Go.Sort Go.Shelf
def Try.keysP_ren : Go.Shelf.Ren := ⟨fun | 7 => 79 | 10 => 98 | n => n, fun | 23 => 101 | 26 => 3 | 3 => 33 | 28 => 117 | 0 => 0 | 27 => 116 | 33 => 82 | 4 => 4 | n => n, fun | n => n⟩
theorem Try.keysP : Go.Proofs.SlLaysZI.n7 Try.prog Try.keysP_ren := {
  mixed := by kernel_rfl
  f7 := ⟨Try.f79.name, by decide, Try.func79.trans (congrArg some (by kernel_rfl))⟩
  f10 := ⟨Try.f98.name, by decide, Try.func98.trans (congrArg some (by kernel_rfl))⟩
  t0 := Try.underlying0
  a0 := Try.isAgg0
  z0 := Try.sizeOf0
  v0 := Try.zeroValue0
  t4 := Try.underlying4
  a4 := Try.isAgg4
  z4 := Try.sizeOf4
  v4 := Try.zeroValue4
  t23 := Try.underlying101
  a23 := Try.isAgg101
  z23 := Try.sizeOf101
  v23 := Try.zeroValue101
  t26 := Try.underlying3
  a26 := Try.isAgg3
  z26 := Try.sizeOf3
  v26 := Try.zeroValue3
  t27 := Try.underlying116
  a27 := Try.isAgg116
  z27 := Try.sizeOf116
  v27 := Try.zeroValue116
  t28 := Try.underlying117
  a28 := Try.isAgg117
  z28 := Try.sizeOf117
  v28 := Try.zeroValue117
  t33 := Try.underlying82
  a33 := Try.isAgg82
  z33 := Try.sizeOf82
  v33 := Try.zeroValue82 }
def Try.sortedP_ren : Go.Shelf.Ren := ⟨fun | 6 => 60 | 8 => 90 | 9 => 91 | 11 => 101 | 13 => 103 | 12 => 102 | 23 => 113 | 24 => 114 | 14 => 104 | 15 => 105 | 16 => 106 | 17 => 107 | 18 => 108 | 19 => 109 | 20 => 110 | 21 => 111 | 22 => 112 | 25 => 115 | 26 => 116 | 27 => 117 | 28 => 118 | 29 => 119 | 30 => 120 | 31 => 121 | n => n, fun | 26 => 3 | 28 => 117 | 24 => 22 | 0 => 0 | 3 => 3 | 37 => 149 | 48 => 167 | 50 => 35 | 4 => 4 | 40 => 161 | 39 => 160 | 45 => 88 | 5 => 5 | 9 => 9 | 51 => 168 | 55 => 171 | 57 => 173 | 58 => 174 | 33 => 82 | n => n, fun | n => n⟩
theorem Try.sortedP : Go.Proofs.SlLaysZI.n6 Try.prog Try.sortedP_ren := {
  mixed := by kernel_rfl
  f6 := ⟨Try.f60.name, by decide, Try.func60.trans (congrArg some (by kernel_rfl))⟩
  f8 := ⟨Try.f90.name, by decide, Try.func90.trans (congrArg some (by kernel_rfl))⟩
  f11 := ⟨Try.f101.name, by decide, Try.func101.trans (congrArg some (by kernel_rfl))⟩
  t0 := Try.underlying0
  a0 := Try.isAgg0
  z0 := Try.sizeOf0
  v0 := Try.zeroValue0
  t24 := Try.underlying22
  a24 := Try.isAgg22
  z24 := Try.sizeOf22
  v24 := Try.zeroValue22
  t26 := Try.underlying3
  a26 := Try.isAgg3
  z26 := Try.sizeOf3
  v26 := Try.zeroValue3
  t28 := Try.underlying117
  a28 := Try.isAgg117
  z28 := Try.sizeOf117
  v28 := Try.zeroValue117
  i26 := by kernel_rfl }
def Try.sortP_ren : Go.Shelf.Ren := ⟨fun | 5 => 91 | 8 => 103 | 7 => 102 | 19 => 113 | 20 => 114 | 10 => 104 | 11 => 105 | 12 => 106 | 13 => 107 | 14 => 108 | 15 => 109 | 16 => 110 | 17 => 111 | 18 => 112 | 30 => 115 | 31 => 116 | 32 => 117 | 33 => 118 | 34 => 119 | 35 => 120 | 40 => 121 | n => n, fun | 23 => 22 | 25 => 3 | 3 => 3 | 32 => 149 | 22 => 22 | 0 => 0 | 44 => 167 | 46 => 35 | 4 => 4 | 36 => 161 | 35 => 160 | 41 => 88 | 5 => 5 | 9 => 9 | 53 => 168 | 57 => 171 | 63 => 173 | 64 => 174 | n => n, fun | n => n⟩
theorem Try.sortP : Go.Proofs.SlLaysM.n5 Try.prog Try.sortP_ren := {
  mixed := by kernel_rfl
  f5 := ⟨Try.f91.name, by decide, Try.func91.trans (congrArg some (by kernel_rfl))⟩
  f7 := ⟨Try.f102.name, by decide, Try.func102.trans (congrArg some (by kernel_rfl))⟩
  f8 := Try.func103.trans (congrArg some (by kernel_rfl))
  f10 := ⟨Try.f104.name, by decide, Try.func104.trans (congrArg some (by kernel_rfl))⟩
  f11 := ⟨Try.f105.name, by decide, Try.func105.trans (congrArg some (by kernel_rfl))⟩
  f12 := ⟨Try.f106.name, by decide, Try.func106.trans (congrArg some (by kernel_rfl))⟩
  f13 := ⟨Try.f107.name, by decide, Try.func107.trans (congrArg some (by kernel_rfl))⟩
  f14 := ⟨Try.f108.name, by decide, Try.func108.trans (congrArg some (by kernel_rfl))⟩
  f15 := ⟨Try.f109.name, by decide, Try.func109.trans (congrArg some (by kernel_rfl))⟩
  f16 := ⟨Try.f110.name, by decide, Try.func110.trans (congrArg some (by kernel_rfl))⟩
  f17 := ⟨Try.f111.name, by decide, Try.func111.trans (congrArg some (by kernel_rfl))⟩
  f18 := ⟨Try.f112.name, by decide, Try.func112.trans (congrArg some (by kernel_rfl))⟩
  f19 := Try.func113.trans (congrArg some (by kernel_rfl))
  f20 := Try.func114.trans (congrArg some (by kernel_rfl))
  f30 := ⟨Try.f115.name, by decide, Try.func115.trans (congrArg some (by kernel_rfl))⟩
  f31 := Try.func116.trans (congrArg some (by kernel_rfl))
  f32 := Try.func117.trans (congrArg some (by kernel_rfl))
  f33 := ⟨Try.f118.name, by decide, Try.func118.trans (congrArg some (by kernel_rfl))⟩
  f34 := ⟨Try.f119.name, by decide, Try.func119.trans (congrArg some (by kernel_rfl))⟩
  f35 := ⟨Try.f120.name, by decide, Try.func120.trans (congrArg some (by kernel_rfl))⟩
  f40 := ⟨Try.f121.name, by decide, Try.func121.trans (congrArg some (by kernel_rfl))⟩
  t0 := Try.underlying0
  a0 := Try.isAgg0
  z0 := Try.sizeOf0
  v0 := Try.zeroValue0
  t3 := Try.underlying3
  a3 := Try.isAgg3
  z3 := Try.sizeOf3
  v3 := Try.zeroValue3
  t4 := Try.underlying4
  a4 := Try.isAgg4
  z4 := Try.sizeOf4
  v4 := Try.zeroValue4
  t5 := Try.underlying5
  a5 := Try.isAgg5
  z5 := Try.sizeOf5
  v5 := Try.zeroValue5
  t9 := Try.underlying9
  a9 := Try.isAgg9
  z9 := Try.sizeOf9
  v9 := Try.zeroValue9
  t22 := Try.underlying22
  a22 := Try.isAgg22
  z22 := Try.sizeOf22
  v22 := Try.zeroValue22
  t23 := Try.underlying22
  a23 := Try.isAgg22
  z23 := Try.sizeOf22
  v23 := Try.zeroValue22
  t25 := Try.underlying3
  a25 := Try.isAgg3
  z25 := Try.sizeOf3
  v25 := Try.zeroValue3
  t32 := Try.underlying149
  a32 := Try.isAgg149
  z32 := Try.sizeOf149
  v32 := Try.zeroValue149
  t35 := Try.underlying160
  a35 := Try.isAgg160
  z35 := Try.sizeOf160
  v35 := Try.zeroValue160
  t36 := Try.underlying161
  a36 := Try.isAgg161
  z36 := Try.sizeOf161
  v36 := Try.zeroValue161
  t41 := Try.underlying88
  a41 := Try.isAgg88
  z41 := Try.sizeOf88
  v41 := Try.zeroValue88
  t44 := Try.underlying167
  a44 := Try.isAgg167
  z44 := Try.sizeOf167
  v44 := Try.zeroValue167
  t46 := Try.underlying35
  a46 := Try.isAgg35
  z46 := Try.sizeOf35
  v46 := Try.zeroValue35
  t53 := Try.underlying168
  a53 := Try.isAgg168
  z53 := Try.sizeOf168
  v53 := Try.zeroValue168
  t57 := Try.underlying171
  a57 := Try.isAgg171
  z57 := Try.sizeOf171
  v57 := Try.zeroValue171
  t63 := Try.underlying173
  a63 := Try.isAgg173
  z63 := Try.sizeOf173
  v63 := Try.zeroValue173
  t64 := Try.underlying174
  a64 := Try.isAgg174
  z64 := Try.sizeOf174
  v64 := Try.zeroValue174 }
theorem Try.sortsP (m : Nat) : AnyZI.SortsIn Try.prog Try.sortedP_ren Fence.wide m :=
  ⟨fun blk off cap ss W hH hblk hsz => callsIn_wide.2 (AnyM.slices_Sort_int Try.sortP blk off cap ss W hH hblk hsz),
   fun p cap W => callsIn_wide.2 (AnyM.slices_Sort_int_none Try.sortP p cap W)⟩

/-- PERMUTATIONS OF PLAIN NUMBERS SORT TO ONE LIST. -/
theorem sortN_merge {ss : List Int} {ns : List Nat} (h : ss.Perm (ns.map Int.ofNat)) : ss.mergeSort leI = (Ab.sortN ns).map Int.ofNat := by
  have tr : ∀ a b c : Int, leI a b = true → leI b c = true → leI a c = true := fun a b c h1 h2 => by simp only [leI, decide_eq_true_eq] at *; exact Int.le_trans h1 h2
  have to : ∀ a b : Int, (leI a b || leI b a) = true := fun a b => by simp only [leI, Bool.or_eq_true, decide_eq_true_eq]; exact Int.le_total a b
  refine List.Perm.eq_of_pairwise (le := fun a b => leI a b = true) (fun a b _ _ h1 h2 => ?_) (List.pairwise_mergeSort tr to ss) ?_ (((List.mergeSort_perm ss leI).trans h).trans ((Ab.sortN_perm ns).symm.map _))
  · simp only [leI, decide_eq_true_eq] at h1 h2
    exact Int.le_antisymm h1 h2
  · refine List.pairwise_map.2 ((Ab.sortN_sorted ns).imp fun {a b} hab => ?_)
    simp only [leI, decide_eq_true_eq]
    exact Int.ofNat_le.2 hab
def valInt : Value → Int
  | .int _ a => a
  | _ => 0
theorem Try.keysSorted : Ab.KeysSorted Try.prog 60 98 3 := by
  intro Bm b es ck ns w hm hmap hkeys hwf hst hlen
  let R : Value → Option (DataW Unit × List MemPlace) := fun _ => some (.nil, [])
  have hlen' : es.toList.length = ns.length := by have := congrArg List.length hkeys; simpa using this
  have hrd : ∀ x ∈ es.toList, ∃ n : Nat, n ∈ ns ∧ x.key = .int .i64 (Int.ofNat n) ∧ WideElems.rd Try.prog 3 R x = some (.int .i64 (Int.ofNat n), .nil) := by
    intro x hx
    have : x.key ∈ es.toList.map (·.key) := List.mem_map_of_mem hx
    rw [hkeys] at this
    obtain ⟨n, hn, he⟩ := List.mem_map.1 this
    refine ⟨n, hn, he.symm, ?_⟩
    unfold WideElems.rd
    rw [← he, Maps.keyOf_int_mk (q := .i64) (by kernel_rfl) (by have := hwf n hn; simp [Lit.wf, IntKind.min, IntKind.max, IntKind.signed, IntKind.bits]; omega)]
    rfl
  have hown : w.ownsMap Try.prog 3 R b es.size (.map ((es.toList.map (WideElems.rg Try.prog 3 R)).foldr DataW.insert [])) :=
    ⟨es, ck, hmap, ⟨by rw [← Array.length_toList, hlen']; exact Nat.le_trans hlen (by decide), hst, fun x hx => by obtain ⟨n, _, _, h⟩ := hrd x hx; exact ⟨_, h⟩⟩, Nat.le_refl _, rfl⟩
  have hE : (es.toList.map (WideElems.rg Try.prog 3 R)).map (fun p => _root_.Go.intOf p.1) = ns.map Int.ofNat := by
    have h1 : es.toList.map (fun x => _root_.Go.intOf (WideElems.rg Try.prog 3 R x).1) = es.toList.map (fun x => valInt x.key) := by
      refine List.map_congr_left fun x hx => ?_
      obtain ⟨n, _, h1, h2⟩ := hrd x hx
      rw [WideElems.rg_of h2, h1]
      rfl
    have h2 := congrArg (List.map valInt) hkeys
    simp only [List.map_map, Function.comp_def] at h2 ⊢
    rw [h1, h2]
    rfl
  have hperm : (intKeys (.map ((es.toList.map (WideElems.rg Try.prog 3 R)).foldr DataW.insert []) : DataW Unit)).Perm (ns.map Int.ofNat) := by
    have := (WideShapes.sorted_perm (es.toList.map (WideElems.rg Try.prog 3 R))).map (fun p => _root_.Go.intOf p.1)
    rw [hE] at this
    exact this
  have hsz : Maps.size (.map ((es.toList.map (WideElems.rg Try.prog 3 R)).foldr DataW.insert []) : DataW Unit) = ns.length := by
    have := (WideShapes.sorted_perm (es.toList.map (WideElems.rg Try.prog 3 R))).length_eq
    rw [List.length_map, hlen'] at this
    exact this
  have hBm : Bm < w.heap.size := by
    rcases Nat.lt_or_ge Bm w.heap.size with h | h
    · exact h
    · simp [World.cell?, Array.getElem?_eq_none h] at hm
  have hseq : SeqGives Fence.wide 2 Try.prog 98 #[.pointer (some ⟨Bm, 0, none⟩)] encZ (fun ss => ss.Perm (intKeys (.map ((es.toList.map (WideElems.rg Try.prog 3 R)).foldr DataW.insert []) : DataW Unit))) (Maps.size (.map ((es.toList.map (WideElems.rg Try.prog 3 R)).foldr DataW.insert []) : DataW Unit)) w :=
    AnyZI.keys_gives (ρ := Try.keysP_ren) { Try.keysP with } Fence.wide _ trivial rfl (by omega) Bm b es.size _ w hBm hm hown
  have cS := AnyZI.sorted_in Try.sortedP Fence.wide 5 trivial trivial trivial trivial rfl (by omega) (Try.sortsP _) (enters_of Try.func91 (by kernel_rfl) rfl) 98 #[.pointer (some ⟨Bm, 0, none⟩)] trivial (enters_of Try.func98 (by kernel_rfl) rfl) _ _
    (by rw [hsz]; exact Nat.le_trans hlen (by decide)) (by rw [hsz]; omega) _ hseq
  change CallsIn _ _ Try.prog 60 _ _ _ at cS
  refine (callsIn_wide.1 cS).mono fun e w' he => ?_
  obtain ⟨v, ss, rfl, hp, hrow, hnil, hb⟩ := he
  have hp := hp.trans hperm
  have hl : ss.length = ns.length := by have := hp.length_eq; simpa using this
  rw [sortN_merge hp, hl, List.map_map] at hrow
  refine ⟨v, rfl, hrow, hnil.trans ⟨fun h => ?_, fun h => ?_⟩, hb⟩
  · subst h; exact List.eq_nil_of_length_eq_zero hl.symm
  · subst h; exact List.eq_nil_of_length_eq_zero hl
end Go.Proofs
