/- The library's sorted keys of a map with plain numbers for keys, at this program's numbers: the kit's contracts laid, and read as the executor's summary wants them. -/
import Derived.Shelf.SlIterI.Nil
import Derived.Shelf.SortM.Plain
import Derived.Shelf.SortM.SortNone
import Derived.Ground.GgzProg
import Derived.Ground.SlgmProg
import Derived.Test.YtdngbobaankjeaaRows
import Derived.Test.YtdngbobaankjeaaG3
namespace Go.Proofs
open Go.RowKit Go.Maps Go.Sort Go.Shelf
shelf_lay_g SlLaysZI.n7 Ggz 7 at Try 19 as Try.keysP
shelf_lay_g SlLaysZI.n6 Ggz 6 at Try 18 as Try.sortedP
shelf_lay_g SlLaysM.n5 Slgm 5 at Try 33 as Try.sortP
theorem Try.sortsP (m : Nat) : AnyZI.SortsIn Try.prog Try.sortedP_ren Fence.wide m :=
  ⟨fun blk off cap ss W hH hblk hsz => callsIn_wide.2 (AnyM.slices_Sort_int Try.sortP blk off cap ss W hH hblk hsz),
   fun p cap W => callsIn_wide.2 (AnyM.slices_Sort_int_none Try.sortP p cap W)⟩

/-- PERMUTATIONS OF PLAIN NUMBERS SORT TO ONE LIST. -/
theorem sortN_merge {ss : List Int} {ns : List Nat} (h : ss.Perm (ns.map Int.ofNat)) : ss.mergeSort leI = (Ab.sortN ns).map Int.ofNat := by
  have tr : ∀ a b c : Int, leI a b = true → leI b c = true → leI a c = true := fun a b c h1 h2 => by simp only [leI, decide_eq_true_eq] at *; exact Int.le_trans h1 h2
  have to : ∀ a b : Int, (leI a b || leI b a) = true := fun a b => by simp only [leI, Bool.or_eq_true, decide_eq_true_eq]; exact Int.le_total a b
  refine List.Perm.eq_of_pairwise (le := fun a b => leI a b = true) (fun a b _ _ h1 h2 => ?_) (List.pairwise_mergeSort tr to ss) ?_ (((List.mergeSort_perm ss leI).trans h).trans ((Ab.sortN_perm ns).symm.map _))
  · simp only [leI, decide_eq_true_eq] at h1 h2
    exact Int.le_antisymm h1 h2
  · refine List.pairwise_map.2 ((Ab.sortN_sorted ns).imp fun {a b} hab => ?_)
    simp only [leI, decide_eq_true_eq]
    exact Int.ofNat_le.2 hab
def valInt : Value → Int
  | .int _ a => a
  | _ => 0
theorem Try.keysSorted : Ab.KeysSorted Try.prog 18 34 3 := by
  intro Bm b es ck ns w hm hmap hkeys hwf hst hlen
  let R : Value → Option (DataW Unit × List MemPlace) := fun _ => some (.nil, [])
  have hlen' : es.toList.length = ns.length := by have := congrArg List.length hkeys; simpa using this
  have hrd : ∀ x ∈ es.toList, ∃ n : Nat, n ∈ ns ∧ x.key = .int .i64 (Int.ofNat n) ∧ WideElems.rd Try.prog 3 R x = some (.int .i64 (Int.ofNat n), .nil) := by
    intro x hx
    have : x.key ∈ es.toList.map (·.key) := List.mem_map_of_mem hx
    rw [hkeys] at this
    obtain ⟨n, hn, he⟩ := List.mem_map.1 this
    refine ⟨n, hn, he.symm, ?_⟩
    unfold WideElems.rd
    rw [← he, Maps.keyOf_int_mk (q := .i64) (by kernel_rfl) (by have := hwf n hn; simp [Lit.wf, IntKind.min, IntKind.max, IntKind.signed, IntKind.bits]; omega)]
    rfl
  have hown : w.ownsMap Try.prog 3 R b es.size (.map ((es.toList.map (WideElems.rg Try.prog 3 R)).foldr DataW.insert [])) :=
    ⟨es, ck, hmap, ⟨by rw [← Array.length_toList, hlen']; exact Nat.le_trans hlen (by decide), hst, fun x hx => by obtain ⟨n, _, _, h⟩ := hrd x hx; exact ⟨_, h⟩⟩, Nat.le_refl _, rfl⟩
  have hE : (es.toList.map (WideElems.rg Try.prog 3 R)).map (fun p => _root_.Go.intOf p.1) = ns.map Int.ofNat := by
    have h1 : es.toList.map (fun x => _root_.Go.intOf (WideElems.rg Try.prog 3 R x).1) = es.toList.map (fun x => valInt x.key) := by
      refine List.map_congr_left fun x hx => ?_
      obtain ⟨n, _, h1, h2⟩ := hrd x hx
      rw [WideElems.rg_of h2, h1]
      rfl
    have h2 := congrArg (List.map valInt) hkeys
    simp only [List.map_map, Function.comp_def] at h2 ⊢
    rw [h1, h2]
    rfl
  have hperm : (intKeys (.map ((es.toList.map (WideElems.rg Try.prog 3 R)).foldr DataW.insert []) : DataW Unit)).Perm (ns.map Int.ofNat) := by
    have := (WideShapes.sorted_perm (es.toList.map (WideElems.rg Try.prog 3 R))).map (fun p => _root_.Go.intOf p.1)
    rw [hE] at this
    exact this
  have hsz : Maps.size (.map ((es.toList.map (WideElems.rg Try.prog 3 R)).foldr DataW.insert []) : DataW Unit) = ns.length := by
    have := (WideShapes.sorted_perm (es.toList.map (WideElems.rg Try.prog 3 R))).length_eq
    rw [List.length_map, hlen'] at this
    exact this
  have hBm : Bm < w.heap.size := by
    rcases Nat.lt_or_ge Bm w.heap.size with h | h
    · exact h
    · simp [World.cell?, Array.getElem?_eq_none h] at hm
  have hseq : SeqGives Fence.wide 2 Try.prog 34 #[.pointer (some ⟨Bm, 0, none⟩)] encZ (fun ss => ss.Perm (intKeys (.map ((es.toList.map (WideElems.rg Try.prog 3 R)).foldr DataW.insert []) : DataW Unit))) (Maps.size (.map ((es.toList.map (WideElems.rg Try.prog 3 R)).foldr DataW.insert []) : DataW Unit)) w :=
    AnyZI.keys_gives (ρ := Try.keysP_ren) { Try.keysP with } Fence.wide _ trivial rfl (by omega) Bm b es.size _ w hBm hm hown
  have cS := AnyZI.sorted_in Try.sortedP Fence.wide 5 trivial trivial trivial trivial rfl (by omega) (Try.sortsP _) (enters_of Try.func33 (by kernel_rfl) rfl) 34 #[.pointer (some ⟨Bm, 0, none⟩)] trivial (enters_of Try.func34 (by kernel_rfl) rfl) _ _
    (by rw [hsz]; exact Nat.le_trans hlen (by decide)) (by rw [hsz]; omega) _ hseq
  change CallsIn _ _ Try.prog 18 _ _ _ at cS
  refine (callsIn_wide.1 cS).mono fun e w' he => ?_
  obtain ⟨v, ss, rfl, hp, hrow, hnil, hb⟩ := he
  have hp := hp.trans hperm
  have hl : ss.length = ns.length := by have := hp.length_eq; simpa using this
  rw [sortN_merge hp, hl, List.map_map] at hrow
  refine ⟨v, rfl, hrow, hnil.trans ⟨fun h => ?_, fun h => ?_⟩, hb⟩
  · subst h; exact List.eq_nil_of_length_eq_zero hl.symm
  · subst h; exact List.eq_nil_of_length_eq_zero hl
end Go.Proofs
