/- The library's sorted keys of a map with plain numbers for keys, at this program's numbers: the kit's contracts laid, and read as the executor's summary wants them. -/
import Derived.Shelf.SlIterI.Nil
import Derived.Shelf.SortM.Plain
import Derived.Shelf.SortM.SortNone
import Derived.Ground.GgzProg
import Derived.Ground.SlgmProg
import Derived.Test.YtfakidohjmjbbaaGreatDoorProg
import Derived.Test.YtfakidohjmjbbaaGreatDoorE43
namespace Go.Proofs
open Go.RowKit Go.Maps Go.Sort Go.Shelf
def Tryz.keysP_ren : Go.Shelf.Ren := ⟨fun | 7 => 75 | 10 => 123 | n => n, fun | 23 => 64 | 26 => 3 | 3 => 71 | 28 => 178 | 0 => 0 | 27 => 177 | 33 => 117 | 4 => 4 | n => n, fun | n => n⟩
theorem Tryz.keysP : Go.Proofs.SlLaysZI.n7 Tryz.prog Tryz.keysP_ren := {
  mixed := by kernel_rfl
  f7 := ⟨Tryz.f75.name, by decide, Tryz.func75.trans (congrArg some (by kernel_rfl))⟩
  f10 := ⟨Tryz.f123.name, by decide, Tryz.func123.trans (congrArg some (by kernel_rfl))⟩
  t0 := Tryz.underlying0
  a0 := Tryz.isAgg0
  z0 := Tryz.sizeOf0
  v0 := Tryz.zeroValue0
  t4 := Tryz.underlying4
  a4 := Tryz.isAgg4
  z4 := Tryz.sizeOf4
  v4 := Tryz.zeroValue4
  t23 := Tryz.underlying64
  a23 := Tryz.isAgg64
  z23 := Tryz.sizeOf64
  v23 := Tryz.zeroValue64
  t26 := Tryz.underlying3
  a26 := Tryz.isAgg3
  z26 := Tryz.sizeOf3
  v26 := Tryz.zeroValue3
  t27 := Tryz.underlying177
  a27 := Tryz.isAgg177
  z27 := Tryz.sizeOf177
  v27 := Tryz.zeroValue177
  t28 := Tryz.underlying178
  a28 := Tryz.isAgg178
  z28 := Tryz.sizeOf178
  v28 := Tryz.zeroValue178
  t33 := Tryz.underlying117
  a33 := Tryz.isAgg117
  z33 := Tryz.sizeOf117
  v33 := Tryz.zeroValue117 }
def Tryz.sortedP_ren : Go.Shelf.Ren := ⟨fun | 6 => 74 | 8 => 121 | 9 => 122 | 11 => 181 | 13 => 87 | 12 => 182 | 23 => 144 | 24 => 145 | 14 => 208 | 15 => 209 | 16 => 210 | 17 => 211 | 18 => 212 | 19 => 213 | 20 => 214 | 21 => 215 | 22 => 216 | 25 => 227 | 26 => 184 | 27 => 185 | 28 => 228 | 29 => 229 | 30 => 230 | 31 => 239 | n => n, fun | 26 => 3 | 28 => 178 | 24 => 83 | 0 => 0 | 3 => 3 | 37 => 187 | 48 => 251 | 50 => 29 | 4 => 4 | 40 => 245 | 39 => 244 | 45 => 169 | 5 => 5 | 9 => 9 | 51 => 288 | 55 => 291 | 57 => 325 | 58 => 239 | 33 => 117 | n => n, fun | n => n⟩
theorem Tryz.sortedP : Go.Proofs.SlLaysZI.n6 Tryz.prog Tryz.sortedP_ren := {
  mixed := by kernel_rfl
  f6 := ⟨Tryz.f74.name, by decide, Tryz.func74.trans (congrArg some (by kernel_rfl))⟩
  f8 := ⟨Tryz.f121.name, by decide, Tryz.func121.trans (congrArg some (by kernel_rfl))⟩
  f11 := ⟨Tryz.f181.name, by decide, Tryz.func181.trans (congrArg some (by kernel_rfl))⟩
  t0 := Tryz.underlying0
  a0 := Tryz.isAgg0
  z0 := Tryz.sizeOf0
  v0 := Tryz.zeroValue0
  t24 := Tryz.underlying83
  a24 := Tryz.isAgg83
  z24 := Tryz.sizeOf83
  v24 := Tryz.zeroValue83
  t26 := Tryz.underlying3
  a26 := Tryz.isAgg3
  z26 := Tryz.sizeOf3
  v26 := Tryz.zeroValue3
  t28 := Tryz.underlying178
  a28 := Tryz.isAgg178
  z28 := Tryz.sizeOf178
  v28 := Tryz.zeroValue178
  i26 := by kernel_rfl }
def Tryz.sortP_ren : Go.Shelf.Ren := ⟨fun | 5 => 122 | 8 => 87 | 7 => 182 | 19 => 144 | 20 => 145 | 10 => 208 | 11 => 209 | 12 => 210 | 13 => 211 | 14 => 212 | 15 => 213 | 16 => 214 | 17 => 215 | 18 => 216 | 30 => 227 | 31 => 184 | 32 => 185 | 33 => 228 | 34 => 229 | 35 => 230 | 40 => 239 | n => n, fun | 23 => 83 | 25 => 3 | 3 => 3 | 32 => 187 | 22 => 83 | 0 => 0 | 44 => 251 | 46 => 29 | 4 => 4 | 36 => 245 | 35 => 244 | 41 => 169 | 5 => 5 | 9 => 9 | 53 => 288 | 57 => 291 | 63 => 325 | 64 => 239 | n => n, fun | n => n⟩
theorem Tryz.sortP : Go.Proofs.SlLaysM.n5 Tryz.prog Tryz.sortP_ren := {
  mixed := by kernel_rfl
  f5 := ⟨Tryz.f122.name, by decide, Tryz.func122.trans (congrArg some (by kernel_rfl))⟩
  f7 := ⟨Tryz.f182.name, by decide, Tryz.func182.trans (congrArg some (by kernel_rfl))⟩
  f8 := Tryz.func87.trans (congrArg some (by kernel_rfl))
  f10 := ⟨Tryz.f208.name, by decide, Tryz.func208.trans (congrArg some (by kernel_rfl))⟩
  f11 := ⟨Tryz.f209.name, by decide, Tryz.func209.trans (congrArg some (by kernel_rfl))⟩
  f12 := ⟨Tryz.f210.name, by decide, Tryz.func210.trans (congrArg some (by kernel_rfl))⟩
  f13 := ⟨Tryz.f211.name, by decide, Tryz.func211.trans (congrArg some (by kernel_rfl))⟩
  f14 := ⟨Tryz.f212.name, by decide, Tryz.func212.trans (congrArg some (by kernel_rfl))⟩
  f15 := ⟨Tryz.f213.name, by decide, Tryz.func213.trans (congrArg some (by kernel_rfl))⟩
  f16 := ⟨Tryz.f214.name, by decide, Tryz.func214.trans (congrArg some (by kernel_rfl))⟩
  f17 := ⟨Tryz.f215.name, by decide, Tryz.func215.trans (congrArg some (by kernel_rfl))⟩
  f18 := ⟨Tryz.f216.name, by decide, Tryz.func216.trans (congrArg some (by kernel_rfl))⟩
  f19 := Tryz.func144.trans (congrArg some (by kernel_rfl))
  f20 := Tryz.func145.trans (congrArg some (by kernel_rfl))
  f30 := ⟨Tryz.f227.name, by decide, Tryz.func227.trans (congrArg some (by kernel_rfl))⟩
  f31 := Tryz.func184.trans (congrArg some (by kernel_rfl))
  f32 := Tryz.func185.trans (congrArg some (by kernel_rfl))
  f33 := ⟨Tryz.f228.name, by decide, Tryz.func228.trans (congrArg some (by kernel_rfl))⟩
  f34 := ⟨Tryz.f229.name, by decide, Tryz.func229.trans (congrArg some (by kernel_rfl))⟩
  f35 := ⟨Tryz.f230.name, by decide, Tryz.func230.trans (congrArg some (by kernel_rfl))⟩
  f40 := ⟨Tryz.f239.name, by decide, Tryz.func239.trans (congrArg some (by kernel_rfl))⟩
  t0 := Tryz.underlying0
  a0 := Tryz.isAgg0
  z0 := Tryz.sizeOf0
  v0 := Tryz.zeroValue0
  t3 := Tryz.underlying3
  a3 := Tryz.isAgg3
  z3 := Tryz.sizeOf3
  v3 := Tryz.zeroValue3
  t4 := Tryz.underlying4
  a4 := Tryz.isAgg4
  z4 := Tryz.sizeOf4
  v4 := Tryz.zeroValue4
  t5 := Tryz.underlying5
  a5 := Tryz.isAgg5
  z5 := Tryz.sizeOf5
  v5 := Tryz.zeroValue5
  t9 := Tryz.underlying9
  a9 := Tryz.isAgg9
  z9 := Tryz.sizeOf9
  v9 := Tryz.zeroValue9
  t22 := Tryz.underlying83
  a22 := Tryz.isAgg83
  z22 := Tryz.sizeOf83
  v22 := Tryz.zeroValue83
  t23 := Tryz.underlying83
  a23 := Tryz.isAgg83
  z23 := Tryz.sizeOf83
  v23 := Tryz.zeroValue83
  t25 := Tryz.underlying3
  a25 := Tryz.isAgg3
  z25 := Tryz.sizeOf3
  v25 := Tryz.zeroValue3
  t32 := Tryz.underlying187
  a32 := Tryz.isAgg187
  z32 := Tryz.sizeOf187
  v32 := Tryz.zeroValue187
  t35 := Tryz.underlying244
  a35 := Tryz.isAgg244
  z35 := Tryz.sizeOf244
  v35 := Tryz.zeroValue244
  t36 := Tryz.underlying245
  a36 := Tryz.isAgg245
  z36 := Tryz.sizeOf245
  v36 := Tryz.zeroValue245
  t41 := Tryz.underlying169
  a41 := Tryz.isAgg169
  z41 := Tryz.sizeOf169
  v41 := Tryz.zeroValue169
  t44 := Tryz.underlying251
  a44 := Tryz.isAgg251
  z44 := Tryz.sizeOf251
  v44 := Tryz.zeroValue251
  t46 := Tryz.underlying29
  a46 := Tryz.isAgg29
  z46 := Tryz.sizeOf29
  v46 := Tryz.zeroValue29
  t53 := Tryz.underlying288
  a53 := Tryz.isAgg288
  z53 := Tryz.sizeOf288
  v53 := Tryz.zeroValue288
  t57 := Tryz.underlying291
  a57 := Tryz.isAgg291
  z57 := Tryz.sizeOf291
  v57 := Tryz.zeroValue291
  t63 := Tryz.underlying325
  a63 := Tryz.isAgg325
  z63 := Tryz.sizeOf325
  v63 := Tryz.zeroValue325
  t64 := Tryz.underlying239
  a64 := Tryz.isAgg239
  z64 := Tryz.sizeOf239
  v64 := Tryz.zeroValue239 }
theorem Tryz.sortsP (m : Nat) : AnyZI.SortsIn Tryz.prog Tryz.sortedP_ren Fence.wide m :=
  ⟨fun blk off cap ss W hH hblk hsz => callsIn_wide.2 (AnyM.slices_Sort_int Tryz.sortP blk off cap ss W hH hblk hsz),
   fun p cap W => callsIn_wide.2 (AnyM.slices_Sort_int_none Tryz.sortP p cap W)⟩

/-- PERMUTATIONS OF PLAIN NUMBERS SORT TO ONE LIST. -/
theorem sortN_merge {ss : List Int} {ns : List Nat} (h : ss.Perm (ns.map Int.ofNat)) : ss.mergeSort leI = (Ab.sortN ns).map Int.ofNat := by
  have tr : ∀ a b c : Int, leI a b = true → leI b c = true → leI a c = true := fun a b c h1 h2 => by simp only [leI, decide_eq_true_eq] at *; exact Int.le_trans h1 h2
  have to : ∀ a b : Int, (leI a b || leI b a) = true := fun a b => by simp only [leI, Bool.or_eq_true, decide_eq_true_eq]; exact Int.le_total a b
  refine List.Perm.eq_of_pairwise (le := fun a b => leI a b = true) (fun a b _ _ h1 h2 => ?_) (List.pairwise_mergeSort tr to ss) ?_ (((List.mergeSort_perm ss leI).trans h).trans ((Ab.sortN_perm ns).symm.map _))
  · simp only [leI, decide_eq_true_eq] at h1 h2
    exact Int.le_antisymm h1 h2
  · refine List.pairwise_map.2 ((Ab.sortN_sorted ns).imp fun {a b} hab => ?_)
    simp only [leI, decide_eq_true_eq]
    exact Int.ofNat_le.2 hab
def valInt : Value → Int
  | .int _ a => a
  | _ => 0
theorem Tryz.keysSorted : Ab.KeysSorted Tryz.prog 74 123 3 := by
  intro Bm b es ck ns w hm hmap hkeys hwf hst hlen
  let R : Value → Option (DataW Unit × List MemPlace) := fun _ => some (.nil, [])
  have hlen' : es.toList.length = ns.length := by have := congrArg List.length hkeys; simpa using this
  have hrd : ∀ x ∈ es.toList, ∃ n : Nat, n ∈ ns ∧ x.key = .int .i64 (Int.ofNat n) ∧ WideElems.rd Tryz.prog 3 R x = some (.int .i64 (Int.ofNat n), .nil) := by
    intro x hx
    have : x.key ∈ es.toList.map (·.key) := List.mem_map_of_mem hx
    rw [hkeys] at this
    obtain ⟨n, hn, he⟩ := List.mem_map.1 this
    refine ⟨n, hn, he.symm, ?_⟩
    unfold WideElems.rd
    rw [← he, Maps.keyOf_int_mk (q := .i64) (by kernel_rfl) (by have := hwf n hn; simp [Lit.wf, IntKind.min, IntKind.max, IntKind.signed, IntKind.bits]; omega)]
    rfl
  have hown : w.ownsMap Tryz.prog 3 R b es.size (.map ((es.toList.map (WideElems.rg Tryz.prog 3 R)).foldr DataW.insert [])) :=
    ⟨es, ck, hmap, ⟨by rw [← Array.length_toList, hlen']; exact Nat.le_trans hlen (by decide), hst, fun x hx => by obtain ⟨n, _, _, h⟩ := hrd x hx; exact ⟨_, h⟩⟩, Nat.le_refl _, rfl⟩
  have hE : (es.toList.map (WideElems.rg Tryz.prog 3 R)).map (fun p => _root_.Go.intOf p.1) = ns.map Int.ofNat := by
    have h1 : es.toList.map (fun x => _root_.Go.intOf (WideElems.rg Tryz.prog 3 R x).1) = es.toList.map (fun x => valInt x.key) := by
      refine List.map_congr_left fun x hx => ?_
      obtain ⟨n, _, h1, h2⟩ := hrd x hx
      rw [WideElems.rg_of h2, h1]
      rfl
    have h2 := congrArg (List.map valInt) hkeys
    simp only [List.map_map, Function.comp_def] at h2 ⊢
    rw [h1, h2]
    rfl
  have hperm : (intKeys (.map ((es.toList.map (WideElems.rg Tryz.prog 3 R)).foldr DataW.insert []) : DataW Unit)).Perm (ns.map Int.ofNat) := by
    have := (WideShapes.sorted_perm (es.toList.map (WideElems.rg Tryz.prog 3 R))).map (fun p => _root_.Go.intOf p.1)
    rw [hE] at this
    exact this
  have hsz : Maps.size (.map ((es.toList.map (WideElems.rg Tryz.prog 3 R)).foldr DataW.insert []) : DataW Unit) = ns.length := by
    have := (WideShapes.sorted_perm (es.toList.map (WideElems.rg Tryz.prog 3 R))).length_eq
    rw [List.length_map, hlen'] at this
    exact this
  have hBm : Bm < w.heap.size := by
    rcases Nat.lt_or_ge Bm w.heap.size with h | h
    · exact h
    · simp [World.cell?, Array.getElem?_eq_none h] at hm
  have hseq : SeqGives Fence.wide 2 Tryz.prog 123 #[.pointer (some ⟨Bm, 0, none⟩)] encZ (fun ss => ss.Perm (intKeys (.map ((es.toList.map (WideElems.rg Tryz.prog 3 R)).foldr DataW.insert []) : DataW Unit))) (Maps.size (.map ((es.toList.map (WideElems.rg Tryz.prog 3 R)).foldr DataW.insert []) : DataW Unit)) w :=
    AnyZI.keys_gives (ρ := Tryz.keysP_ren) { Tryz.keysP with } Fence.wide _ trivial rfl (by omega) Bm b es.size _ w hBm hm hown
  have cS := AnyZI.sorted_in Tryz.sortedP Fence.wide 5 trivial trivial trivial trivial rfl (by omega) (Tryz.sortsP _) (enters_of Tryz.func122 (by kernel_rfl) rfl) 123 #[.pointer (some ⟨Bm, 0, none⟩)] trivial (enters_of Tryz.func123 (by kernel_rfl) rfl) _ _
    (by rw [hsz]; exact Nat.le_trans hlen (by decide)) (by rw [hsz]; omega) _ hseq
  change CallsIn _ _ Tryz.prog 74 _ _ _ at cS
  refine (callsIn_wide.1 cS).mono fun e w' he => ?_
  obtain ⟨v, ss, rfl, hp, hrow, hnil, hb⟩ := he
  have hp := hp.trans hperm
  have hl : ss.length = ns.length := by have := hp.length_eq; simpa using this
  rw [sortN_merge hp, hl, List.map_map] at hrow
  refine ⟨v, rfl, hrow, hnil.trans ⟨fun h => ?_, fun h => ?_⟩, hb⟩
  · subst h; exact List.eq_nil_of_length_eq_zero hl.symm
  · subst h; exact List.eq_nil_of_length_eq_zero hl
end Go.Proofs
