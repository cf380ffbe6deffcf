/- script.Line, walked: strings.Join: printed by gen_sline.py. -/
import Derived.Test.YtcdpepaffpboeaaDoorScBitsL
import Derived.Test.YtcdpepaffpboeaaDoorScReadsP
import Derived.Shelf.Strings.OnBuilder
namespace Go.Proofs.YtcdpepaffpboeaaDoor
open Go.RowKit Go.Shelf
open Go.Proofs
theorem Tryd.Builder_Extra_156 : Builder.Extra Tryd.prog Tryd.laysJoin_ren := {
  sizeBuilder := by kernel_rfl
  liesBuilder := by kernel_rfl
  t5 := Tryd.underlying5
  a5 := Tryd.isAgg5
  z5 := Tryd.sizeOf5
  v5 := Tryd.zeroValue5
  infoByte := by kernel_rfl
  cellsByte := by kernel_rfl
  sizeByte := by kernel_rfl
  neB5 := by decide }
theorem Tryd.Join5 (x0 x1 x2 x3 x4 : List UInt8) (bk c : Nat) (w : World) (hh : w.heap[bk]? = some (.cells #[.string ⟨x0.toArray⟩, .string ⟨x1.toArray⟩, .string ⟨x2.toArray⟩, .string ⟨x3.toArray⟩, .string ⟨x4.toArray⟩] 9 (0, 0))) (hc : 5 ≤ c) (hl : (joinL 32 [x0, x1, x2, x3, x4]).length ≤ 100000) :
    Calls Tryd.prog 30 #[.slice (some ⟨bk, 0, none⟩) 5 c, .string ⟨#[32]⟩] w fun e w' => e = .returned (.string ⟨(joinL 32 [x0, x1, x2, x3, x4]).toArray⟩) ∧ Below w.heap.size w w' := by
  have hj : Lib.join (([⟨x0.toArray⟩, ⟨x1.toArray⟩, ⟨x2.toArray⟩, ⟨x3.toArray⟩, ⟨x4.toArray⟩] : List ByteArray).map (·.data.toList)) (⟨#[32]⟩ : ByteArray).data.toList = joinL 32 [x0, x1, x2, x3, x4] := by
    simp only [List.map_cons, List.map_nil, Lib.join_cons, Lib.joinTail, List.flatten_cons, List.flatten_nil, joinL]
    simp
  have := Any.strings_Join Tryd.laysJoin Tryd.Builder_Extra_156 bk 0 c [⟨x0.toArray⟩, ⟨x1.toArray⟩, ⟨x2.toArray⟩, ⟨x3.toArray⟩, ⟨x4.toArray⟩] ⟨#[32]⟩ w (fun j x hx => by
    rw [Lib.cell_of_heap hh]
    match j, hx with
    | 0, hx => cases hx; rfl
    | 1, hx => cases hx; rfl
    | 2, hx => cases hx; rfl
    | 3, hx => cases hx; rfl
    | 4, hx => cases hx; rfl
    | j + 5, hx => cases hx) (lt_of_block hh) (by simp) hc (by rw [hj]; omega)
  rw [hj] at this
  exact this
theorem Tryd.Join7 (x0 x1 x2 x3 x4 x5 x6 : List UInt8) (bk c : Nat) (w : World) (hh : w.heap[bk]? = some (.cells #[.string ⟨x0.toArray⟩, .string ⟨x1.toArray⟩, .string ⟨x2.toArray⟩, .string ⟨x3.toArray⟩, .string ⟨x4.toArray⟩, .string ⟨x5.toArray⟩, .string ⟨x6.toArray⟩] 9 (0, 0))) (hc : 7 ≤ c) (hl : (joinL 32 [x0, x1, x2, x3, x4, x5, x6]).length ≤ 100000) :
    Calls Tryd.prog 30 #[.slice (some ⟨bk, 0, none⟩) 7 c, .string ⟨#[32]⟩] w fun e w' => e = .returned (.string ⟨(joinL 32 [x0, x1, x2, x3, x4, x5, x6]).toArray⟩) ∧ Below w.heap.size w w' := by
  have hj : Lib.join (([⟨x0.toArray⟩, ⟨x1.toArray⟩, ⟨x2.toArray⟩, ⟨x3.toArray⟩, ⟨x4.toArray⟩, ⟨x5.toArray⟩, ⟨x6.toArray⟩] : List ByteArray).map (·.data.toList)) (⟨#[32]⟩ : ByteArray).data.toList = joinL 32 [x0, x1, x2, x3, x4, x5, x6] := by
    simp only [List.map_cons, List.map_nil, Lib.join_cons, Lib.joinTail, List.flatten_cons, List.flatten_nil, joinL]
    simp
  have := Any.strings_Join Tryd.laysJoin Tryd.Builder_Extra_156 bk 0 c [⟨x0.toArray⟩, ⟨x1.toArray⟩, ⟨x2.toArray⟩, ⟨x3.toArray⟩, ⟨x4.toArray⟩, ⟨x5.toArray⟩, ⟨x6.toArray⟩] ⟨#[32]⟩ w (fun j x hx => by
    rw [Lib.cell_of_heap hh]
    match j, hx with
    | 0, hx => cases hx; rfl
    | 1, hx => cases hx; rfl
    | 2, hx => cases hx; rfl
    | 3, hx => cases hx; rfl
    | 4, hx => cases hx; rfl
    | 5, hx => cases hx; rfl
    | 6, hx => cases hx; rfl
    | j + 7, hx => cases hx) (lt_of_block hh) (by simp) hc (by rw [hj]; omega)
  rw [hj] at this
  exact this
end Go.Proofs.YtcdpepaffpboeaaDoor
