/- The library's sorted keys of a map with plain numbers for keys, at this program's numbers: the kit's contracts laid, and read as the executor's summary wants them. -/
import Derived.Shelf.SlIterI.Nil
import Derived.Shelf.SortM.Plain
import Derived.Shelf.SortM.SortNone
import Derived.Ground.GgzProg
import Derived.Ground.SlgmProg
import Derived.Test.YtdngbobaankjeaaRows
import Derived.Test.YtdngbobaankjeaaG3
namespace Go.Proofs
open Go.RowKit Go.Maps Go.Sort Go.Shelf
def Try.keysP_ren : Go.Shelf.Ren := ⟨fun | 7 => 19 | 10 => 34 | n => n, fun | 23 => 53 | 26 => 3 | 3 => 37 | 28 => 58 | 0 => 0 | 27 => 57 | 33 => 87 | 4 => 4 | n => n, fun | n => n⟩
theorem Try.keysP : Go.Proofs.SlLaysZI.n7 Try.prog Try.keysP_ren := {
  mixed := by kernel_rfl
  f7 := ⟨Try.f19.name, by decide, Try.func19.trans (congrArg some (by kernel_rfl))⟩
  f10 := ⟨Try.f34.name, by decide, Try.func34.trans (congrArg some (by kernel_rfl))⟩
  t0 := Try.underlying0
  a0 := Try.isAgg0
  z0 := Try.sizeOf0
  v0 := Try.zeroValue0
  t4 := Try.underlying4
  a4 := Try.isAgg4
  z4 := Try.sizeOf4
  v4 := Try.zeroValue4
  t23 := Try.underlying53
  a23 := Try.isAgg53
  z23 := Try.sizeOf53
  v23 := Try.zeroValue53
  t26 := Try.underlying3
  a26 := Try.isAgg3
  z26 := Try.sizeOf3
  v26 := Try.zeroValue3
  t27 := Try.underlying57
  a27 := Try.isAgg57
  z27 := Try.sizeOf57
  v27 := Try.zeroValue57
  t28 := Try.underlying58
  a28 := Try.isAgg58
  z28 := Try.sizeOf58
  v28 := Try.zeroValue58
  t33 := Try.underlying87
  a33 := Try.isAgg87
  z33 := Try.sizeOf87
  v33 := Try.zeroValue87 }
def Try.sortedP_ren : Go.Shelf.Ren := ⟨fun | 6 => 18 | 8 => 32 | 9 => 33 | 11 => 54 | 13 => 56 | 12 => 55 | 23 => 82 | 24 => 83 | 14 => 73 | 15 => 74 | 16 => 75 | 17 => 76 | 18 => 77 | 19 => 78 | 20 => 79 | 21 => 80 | 22 => 81 | 25 => 85 | 26 => 86 | 27 => 87 | 28 => 88 | 29 => 89 | 30 => 90 | 31 => 91 | n => n, fun | 26 => 3 | 28 => 58 | 24 => 22 | 0 => 0 | 3 => 3 | 37 => 112 | 48 => 138 | 50 => 41 | 4 => 4 | 40 => 130 | 39 => 129 | 45 => 135 | 5 => 5 | 9 => 9 | 51 => 140 | 55 => 143 | 57 => 145 | 58 => 146 | 33 => 87 | n => n, fun | n => n⟩
theorem Try.sortedP : Go.Proofs.SlLaysZI.n6 Try.prog Try.sortedP_ren := {
  mixed := by kernel_rfl
  f6 := ⟨Try.f18.name, by decide, Try.func18.trans (congrArg some (by kernel_rfl))⟩
  f8 := ⟨Try.f32.name, by decide, Try.func32.trans (congrArg some (by kernel_rfl))⟩
  f11 := ⟨Try.f54.name, by decide, Try.func54.trans (congrArg some (by kernel_rfl))⟩
  t0 := Try.underlying0
  a0 := Try.isAgg0
  z0 := Try.sizeOf0
  v0 := Try.zeroValue0
  t24 := Try.underlying22
  a24 := Try.isAgg22
  z24 := Try.sizeOf22
  v24 := Try.zeroValue22
  t26 := Try.underlying3
  a26 := Try.isAgg3
  z26 := Try.sizeOf3
  v26 := Try.zeroValue3
  t28 := Try.underlying58
  a28 := Try.isAgg58
  z28 := Try.sizeOf58
  v28 := Try.zeroValue58
  i26 := by kernel_rfl }
def Try.sortP_ren : Go.Shelf.Ren := ⟨fun | 5 => 33 | 8 => 56 | 7 => 55 | 19 => 82 | 20 => 83 | 10 => 73 | 11 => 74 | 12 => 75 | 13 => 76 | 14 => 77 | 15 => 78 | 16 => 79 | 17 => 80 | 18 => 81 | 30 => 85 | 31 => 86 | 32 => 87 | 33 => 88 | 34 => 89 | 35 => 90 | 40 => 91 | n => n, fun | 23 => 22 | 25 => 3 | 3 => 3 | 32 => 112 | 22 => 22 | 0 => 0 | 44 => 138 | 46 => 41 | 4 => 4 | 36 => 130 | 35 => 129 | 41 => 135 | 5 => 5 | 9 => 9 | 53 => 140 | 57 => 143 | 63 => 145 | 64 => 146 | n => n, fun | n => n⟩
theorem Try.sortP : Go.Proofs.SlLaysM.n5 Try.prog Try.sortP_ren := {
  mixed := by kernel_rfl
  f5 := ⟨Try.f33.name, by decide, Try.func33.trans (congrArg some (by kernel_rfl))⟩
  f7 := ⟨Try.f55.name, by decide, Try.func55.trans (congrArg some (by kernel_rfl))⟩
  f8 := Try.func56.trans (congrArg some (by kernel_rfl))
  f10 := ⟨Try.f73.name, by decide, Try.func73.trans (congrArg some (by kernel_rfl))⟩
  f11 := ⟨Try.f74.name, by decide, Try.func74.trans (congrArg some (by kernel_rfl))⟩
  f12 := ⟨Try.f75.name, by decide, Try.func75.trans (congrArg some (by kernel_rfl))⟩
  f13 := ⟨Try.f76.name, by decide, Try.func76.trans (congrArg some (by kernel_rfl))⟩
  f14 := ⟨Try.f77.name, by decide, Try.func77.trans (congrArg some (by kernel_rfl))⟩
  f15 := ⟨Try.f78.name, by decide, Try.func78.trans (congrArg some (by kernel_rfl))⟩
  f16 := ⟨Try.f79.name, by decide, Try.func79.trans (congrArg some (by kernel_rfl))⟩
  f17 := ⟨Try.f80.name, by decide, Try.func80.trans (congrArg some (by kernel_rfl))⟩
  f18 := ⟨Try.f81.name, by decide, Try.func81.trans (congrArg some (by kernel_rfl))⟩
  f19 := Try.func82.trans (congrArg some (by kernel_rfl))
  f20 := Try.func83.trans (congrArg some (by kernel_rfl))
  f30 := ⟨Try.f85.name, by decide, Try.func85.trans (congrArg some (by kernel_rfl))⟩
  f31 := Try.func86.trans (congrArg some (by kernel_rfl))
  f32 := Try.func87.trans (congrArg some (by kernel_rfl))
  f33 := ⟨Try.f88.name, by decide, Try.func88.trans (congrArg some (by kernel_rfl))⟩
  f34 := ⟨Try.f89.name, by decide, Try.func89.trans (congrArg some (by kernel_rfl))⟩
  f35 := ⟨Try.f90.name, by decide, Try.func90.trans (congrArg some (by kernel_rfl))⟩
  f40 := ⟨Try.f91.name, by decide, Try.func91.trans (congrArg some (by kernel_rfl))⟩
  t0 := Try.underlying0
  a0 := Try.isAgg0
  z0 := Try.sizeOf0
  v0 := Try.zeroValue0
  t3 := Try.underlying3
  a3 := Try.isAgg3
  z3 := Try.sizeOf3
  v3 := Try.zeroValue3
  t4 := Try.underlying4
  a4 := Try.isAgg4
  z4 := Try.sizeOf4
  v4 := Try.zeroValue4
  t5 := Try.underlying5
  a5 := Try.isAgg5
  z5 := Try.sizeOf5
  v5 := Try.zeroValue5
  t9 := Try.underlying9
  a9 := Try.isAgg9
  z9 := Try.sizeOf9
  v9 := Try.zeroValue9
  t22 := Try.underlying22
  a22 := Try.isAgg22
  z22 := Try.sizeOf22
  v22 := Try.zeroValue22
  t23 := Try.underlying22
  a23 := Try.isAgg22
  z23 := Try.sizeOf22
  v23 := Try.zeroValue22
  t25 := Try.underlying3
  a25 := Try.isAgg3
  z25 := Try.sizeOf3
  v25 := Try.zeroValue3
  t32 := Try.underlying112
  a32 := Try.isAgg112
  z32 := Try.sizeOf112
  v32 := Try.zeroValue112
  t35 := Try.underlying129
  a35 := Try.isAgg129
  z35 := Try.sizeOf129
  v35 := Try.zeroValue129
  t36 := Try.underlying130
  a36 := Try.isAgg130
  z36 := Try.sizeOf130
  v36 := Try.zeroValue130
  t41 := Try.underlying135
  a41 := Try.isAgg135
  z41 := Try.sizeOf135
  v41 := Try.zeroValue135
  t44 := Try.underlying138
  a44 := Try.isAgg138
  z44 := Try.sizeOf138
  v44 := Try.zeroValue138
  t46 := Try.underlying41
  a46 := Try.isAgg41
  z46 := Try.sizeOf41
  v46 := Try.zeroValue41
  t53 := Try.underlying140
  a53 := Try.isAgg140
  z53 := Try.sizeOf140
  v53 := Try.zeroValue140
  t57 := Try.underlying143
  a57 := Try.isAgg143
  z57 := Try.sizeOf143
  v57 := Try.zeroValue143
  t63 := Try.underlying145
  a63 := Try.isAgg145
  z63 := Try.sizeOf145
  v63 := Try.zeroValue145
  t64 := Try.underlying146
  a64 := Try.isAgg146
  z64 := Try.sizeOf146
  v64 := Try.zeroValue146 }
theorem Try.sortsP (m : Nat) : AnyZI.SortsIn Try.prog Try.sortedP_ren Fence.wide m :=
  ⟨fun blk off cap ss W hH hblk hsz => callsIn_wide.2 (AnyM.slices_Sort_int Try.sortP blk off cap ss W hH hblk hsz),
   fun p cap W => callsIn_wide.2 (AnyM.slices_Sort_int_none Try.sortP p cap W)⟩

/-- PERMUTATIONS OF PLAIN NUMBERS SORT TO ONE LIST. -/
theorem sortN_merge {ss : List Int} {ns : List Nat} (h : ss.Perm (ns.map Int.ofNat)) : ss.mergeSort leI = (Ab.sortN ns).map Int.ofNat := by
  have tr : ∀ a b c : Int, leI a b = true → leI b c = true → leI a c = true := fun a b c h1 h2 => by simp only [leI, decide_eq_true_eq] at *; exact Int.le_trans h1 h2
  have to : ∀ a b : Int, (leI a b || leI b a) = true := fun a b => by simp only [leI, Bool.or_eq_true, decide_eq_true_eq]; exact Int.le_total a b
  refine List.Perm.eq_of_pairwise (le := fun a b => leI a b = true) (fun a b _ _ h1 h2 => ?_) (List.pairwise_mergeSort tr to ss) ?_ (((List.mergeSort_perm ss leI).trans h).trans ((Ab.sortN_perm ns).symm.map _))
  · simp only [leI, decide_eq_true_eq] at h1 h2
    exact Int.le_antisymm h1 h2
  · refine List.pairwise_map.2 ((Ab.sortN_sorted ns).imp fun {a b} hab => ?_)
    simp only [leI, decide_eq_true_eq]
    exact Int.ofNat_le.2 hab
def valInt : Value → Int
  | .int _ a => a
  | _ => 0
theorem Try.keysSorted : Ab.KeysSorted Try.prog 18 34 3 := by
  intro Bm b es ck ns w hm hmap hkeys hwf hst hlen
  let R : Value → Option (DataW Unit × List MemPlace) := fun _ => some (.nil, [])
  have hlen' : es.toList.length = ns.length := by have := congrArg List.length hkeys; simpa using this
  have hrd : ∀ x ∈ es.toList, ∃ n : Nat, n ∈ ns ∧ x.key = .int .i64 (Int.ofNat n) ∧ WideElems.rd Try.prog 3 R x = some (.int .i64 (Int.ofNat n), .nil) := by
    intro x hx
    have : x.key ∈ es.toList.map (·.key) := List.mem_map_of_mem hx
    rw [hkeys] at this
    obtain ⟨n, hn, he⟩ := List.mem_map.1 this
    refine ⟨n, hn, he.symm, ?_⟩
    unfold WideElems.rd
    rw [← he, Maps.keyOf_int_mk (q := .i64) (by kernel_rfl) (by have := hwf n hn; simp [Lit.wf, IntKind.min, IntKind.max, IntKind.signed, IntKind.bits]; omega)]
    rfl
  have hown : w.ownsMap Try.prog 3 R b es.size (.map ((es.toList.map (WideElems.rg Try.prog 3 R)).foldr DataW.insert [])) :=
    ⟨es, ck, hmap, ⟨by rw [← Array.length_toList, hlen']; exact Nat.le_trans hlen (by decide), hst, fun x hx => by obtain ⟨n, _, _, h⟩ := hrd x hx; exact ⟨_, h⟩⟩, Nat.le_refl _, rfl⟩
  have hE : (es.toList.map (WideElems.rg Try.prog 3 R)).map (fun p => _root_.Go.intOf p.1) = ns.map Int.ofNat := by
    have h1 : es.toList.map (fun x => _root_.Go.intOf (WideElems.rg Try.prog 3 R x).1) = es.toList.map (fun x => valInt x.key) := by
      refine List.map_congr_left fun x hx => ?_
      obtain ⟨n, _, h1, h2⟩ := hrd x hx
      rw [WideElems.rg_of h2, h1]
      rfl
    have h2 := congrArg (List.map valInt) hkeys
    simp only [List.map_map, Function.comp_def] at h2 ⊢
    rw [h1, h2]
    rfl
  have hperm : (intKeys (.map ((es.toList.map (WideElems.rg Try.prog 3 R)).foldr DataW.insert []) : DataW Unit)).Perm (ns.map Int.ofNat) := by
    have := (WideShapes.sorted_perm (es.toList.map (WideElems.rg Try.prog 3 R))).map (fun p => _root_.Go.intOf p.1)
    rw [hE] at this
    exact this
  have hsz : Maps.size (.map ((es.toList.map (WideElems.rg Try.prog 3 R)).foldr DataW.insert []) : DataW Unit) = ns.length := by
    have := (WideShapes.sorted_perm (es.toList.map (WideElems.rg Try.prog 3 R))).length_eq
    rw [List.length_map, hlen'] at this
    exact this
  have hBm : Bm < w.heap.size := by
    rcases Nat.lt_or_ge Bm w.heap.size with h | h
    · exact h
    · simp [World.cell?, Array.getElem?_eq_none h] at hm
  have hseq : SeqGives Fence.wide 2 Try.prog 34 #[.pointer (some ⟨Bm, 0, none⟩)] encZ (fun ss => ss.Perm (intKeys (.map ((es.toList.map (WideElems.rg Try.prog 3 R)).foldr DataW.insert []) : DataW Unit))) (Maps.size (.map ((es.toList.map (WideElems.rg Try.prog 3 R)).foldr DataW.insert []) : DataW Unit)) w :=
    AnyZI.keys_gives (ρ := Try.keysP_ren) { Try.keysP with } Fence.wide _ trivial rfl (by omega) Bm b es.size _ w hBm hm hown
  have cS := AnyZI.sorted_in Try.sortedP Fence.wide 5 trivial trivial trivial trivial rfl (by omega) (Try.sortsP _) (enters_of Try.func33 (by kernel_rfl) rfl) 34 #[.pointer (some ⟨Bm, 0, none⟩)] trivial (enters_of Try.func34 (by kernel_rfl) rfl) _ _
    (by rw [hsz]; exact Nat.le_trans hlen (by decide)) (by rw [hsz]; omega) _ hseq
  change CallsIn _ _ Try.prog 18 _ _ _ at cS
  refine (callsIn_wide.1 cS).mono fun e w' he => ?_
  obtain ⟨v, ss, rfl, hp, hrow, hnil, hb⟩ := he
  have hp := hp.trans hperm
  have hl : ss.length = ns.length := by have := hp.length_eq; simpa using this
  rw [sortN_merge hp, hl, List.map_map] at hrow
  refine ⟨v, rfl, hrow, hnil.trans ⟨fun h => ?_, fun h => ?_⟩, hb⟩
  · subst h; exact List.eq_nil_of_length_eq_zero hl.symm
  · subst h; exact List.eq_nil_of_length_eq_zero hl
end Go.Proofs
