/- script.bits, the law's fit, walked; strings.Join of a blank. -/
import Derived.Test.YtcdpepaffpboeaaDoorScLineAll
import Derived.Test.YtcdpepaffpboeaaDoorScLays2
import Derived.Test.YtcdpepaffpboeaaDoorScBuild
namespace Go.Proofs.YtcdpepaffpboeaaDoor
open Go.RowKit Go.Shelf
def bitB (b : Bool) : UInt8 := if b then 49 else 48
set_option maxHeartbeats 4000000 in
set_option maxRecDepth 1000000 in
theorem Tryd.bits_walk (o : Option Addr) (bs : List Bool) (c : Nat) (w : World) (hs : bs.length ≤ 2000) (hin : BoolsIn w o bs) :
    Calls Tryd.prog 31 #[.slice o bs.length c] w fun e w' => e = .returned (.string ⟨(bitD bs).toArray⟩) ∧ Below w.heap.size w w' := by
  by_cases h0 : bs.length = 0
  · have hb0 : bs = [] := List.length_eq_zero_iff.1 h0
    have hspec : bitD bs = [45] := by rw [hb0]; rfl
    replace hb0 := Keep.mk hb0
    replace hspec := Keep.mk hspec
    have h1 : ((bs.length : Int) == 0) = true := by rw [h0]; rfl
    clear hin
    replace h0 := Keep.mk h0
    go_enter Tryd.func31, Tryd.ntmps31
    go_wp2
    go_ret
    exact ⟨by rw [hspec.out]; rfl, Below.refl _ _⟩
  · have hb0 : bs ≠ [] := fun e => h0 (by rw [e]; rfl)
    have hspec : bitD bs = bitL bs := by unfold bitD; rw [if_neg hb0]
    replace hspec := Keep.mk hspec
    have h1 : ((bs.length : Int) == 0) = false := by simpa using h0
    obtain ⟨g, f, rfl, hg, hq⟩ := hin.get (by omega)
    replace hq := Keep.mk hq
    clear hb0 hin
    replace h0 := Keep.mk h0
    go_enter Tryd.func31, Tryd.ntmps31
    go_wp2
    go_loopw [11] (fun v wr => ∃ k : Nat, v = .int .i64 k ∧ k ≤ bs.length ∧ Lib.IsBuilderF 62 5 w.heap.size w.heap.size (Lib.byteCells (bitL (bs.take k))) wr ∧ Below w.heap.size w wr) (fun v _ => bs.length - (intOf v).toNat)
    case atStart =>
      exact ⟨0, rfl, Nat.zero_le _, (Lib.IsBuilderF.of (Lib.fresh_isBuilder 62 5 w)), ((Below.refl _ w).alloc (Nat.le_refl _) _)⟩
    case round =>
      obtain ⟨k, rfl, hk, hI, hb⟩ := hrel
      have hB := hb.size
      have hl : (Lib.byteCells (bitL (bs.take k))).length + 1 ≤ 140737488355328 := by
        rw [Lib.byteCells_length]
        simp only [bitL, List.length_map, List.length_take]
        omega
      by_cases hp : k < bs.length
      · obtain ⟨x, hx⟩ : ∃ x, bs[k]? = some x := ⟨bs[k], List.getElem?_eq_getElem hp⟩
        have y : wr.cell? ⟨g, f + k, none⟩ = some (.bool x) := by rw [hb.cell (p := ⟨g, f + k, none⟩) hg]; exact hq.out k x hx
        have hstep : bitL (bs.take (k + 1)) = bitL (bs.take k) ++ [bitB x] := by
          rw [List.take_add_one, hx]
          simp [bitL, bitB]
        replace hstep := Keep.mk hstep
        replace hx := Keep.mk hx
        cases x
        · go_wp2_with (go_at_call 27; refine (Tryd.WriteByte_k w.heap.size w.heap.size _ _ _ hI hl hB).mono ?_)
          first | rintro e W1 rfl h1 b1 k1 | rintro e W1 ⟨rfl, h1, b1, k1⟩
          go_wp2
          go_roundw
          case rel =>
            have R : ((k : Int) + 1 = ((k + 1 : Nat) : Int)) ∧ k + 1 ≤ bs.length ∧ Lib.IsBuilderF 62 5 w.heap.size w.heap.size (Lib.byteCells (bitL (bs.take (k + 1)))) W1 ∧ Below w.heap.size w W1 :=
              ⟨by omega, by omega, by rw [hstep.out, show Lib.byteCells (bitL (bs.take k) ++ [bitB false]) = Lib.byteCells (bitL (bs.take k)) ++ [.int .u8 48] from by simp [Lib.byteCells, bitB]]; exact Or.inr h1, hb.trans b1⟩
            first
              | exact ⟨k + 1, by rw [← R.1], R.2⟩
              | ((repeat apply Exists.intro); exact ⟨⟨k + 1, by rw [← R.1], R.2⟩, rfl⟩)
          case measure =>
            simp [intOf]
            omega
        · go_wp2_with (go_at_call 27; refine (Tryd.WriteByte_k w.heap.size w.heap.size _ _ _ hI hl hB).mono ?_)
          first | rintro e W1 rfl h1 b1 k1 | rintro e W1 ⟨rfl, h1, b1, k1⟩
          go_wp2
          go_roundw
          case rel =>
            have R : ((k : Int) + 1 = ((k + 1 : Nat) : Int)) ∧ k + 1 ≤ bs.length ∧ Lib.IsBuilderF 62 5 w.heap.size w.heap.size (Lib.byteCells (bitL (bs.take (k + 1)))) W1 ∧ Below w.heap.size w W1 :=
              ⟨by omega, by omega, by rw [hstep.out, show Lib.byteCells (bitL (bs.take k) ++ [bitB true]) = Lib.byteCells (bitL (bs.take k)) ++ [.int .u8 49] from by simp [Lib.byteCells, bitB]]; exact Or.inr h1, hb.trans b1⟩
            first
              | exact ⟨k + 1, by rw [← R.1], R.2⟩
              | ((repeat apply Exists.intro); exact ⟨⟨k + 1, by rw [← R.1], R.2⟩, rfl⟩)
          case measure =>
            simp [intOf]
            omega
      · have hk : k = bs.length := by omega
        subst hk
        rw [List.take_length] at hI
        go_wp2_with (go_at_call 28; refine (Tryd.String_k w.heap.size w.heap.size _ _ hI hB).mono ?_)
        rintro e W1 ⟨rfl, _, b1, _⟩
        go_wp2
        go_ret
        exact ⟨by rw [hspec.out]; rfl, hb.trans b1⟩
/-- The law's fit. -/
def fitS (r : StepR) : Bool := decide (r.key.size ≤ 60) && decide (r.val.size ≤ 60) && decide (r.keep.length ≤ 60)
set_option maxHeartbeats 4000000 in
set_option maxRecDepth 1000000 in
theorem Tryd.fit_walk (r : StepR) (v : Value) (w : World) (h : StepIn w r v) :
    Calls Tryd.prog 16 #[v] w fun e w' => e = .returned (.bool (fitS r)) ∧ Below w.heap.size w w' := by
  obtain ⟨a, c, rfl, own⟩ := h
  clear own
  simp only [StepR.cells]
  by_cases h1 : r.key.size ≤ 60
  · have h1' : (r.key.size : Int) ≤ 60 := by omega
    by_cases h2 : r.val.size ≤ 60
    · have h2' : (r.val.size : Int) ≤ 60 := by omega
      by_cases h3 : r.keep.length ≤ 60
      · have h3' : (r.keep.length : Int) ≤ 60 := by omega
        have hf : fitS r = true := by simp [fitS, h1, h2, h3]
        replace hf := Keep.mk hf
        go_enter Tryd.func16, Tryd.ntmps16
        go_wp2
        go_ret
        exact ⟨by rw [hf.out]; rfl, by go_grown⟩
      · have h3' : ¬ (r.keep.length : Int) ≤ 60 := by omega
        have hf : fitS r = false := by simp [fitS, h1, h2, h3]
        replace hf := Keep.mk hf
        go_enter Tryd.func16, Tryd.ntmps16
        go_wp2
        go_ret
        exact ⟨by rw [hf.out]; rfl, by go_grown⟩
    · have h2' : ¬ (r.val.size : Int) ≤ 60 := by omega
      have hf : fitS r = false := by simp [fitS, h1, h2]
      replace hf := Keep.mk hf
      go_enter Tryd.func16, Tryd.ntmps16
      go_wp2
      go_ret
      exact ⟨by rw [hf.out]; rfl, by go_grown⟩
  · have h1' : ¬ (r.key.size : Int) ≤ 60 := by omega
    have hf : fitS r = false := by simp [fitS, h1]
    replace hf := Keep.mk hf
    go_enter Tryd.func16, Tryd.ntmps16
    go_wp2
    go_ret
    exact ⟨by rw [hf.out]; rfl, by go_grown⟩
end Go.Proofs.YtcdpepaffpboeaaDoor
