/- script.Step, walked: for every line. -/
import Derived.Test.YtcdpepaffpboeaaDoorScStep0
import Derived.Test.YtcdpepaffpboeaaDoorScStepA
import Derived.Test.YtcdpepaffpboeaaDoorScStepB
import Derived.Test.YtcdpepaffpboeaaDoorScStep7
import Derived.Test.YtcdpepaffpboeaaDoorScStep9
import Derived.Test.YtcdpepaffpboeaaDoorScStep1
namespace Go.Proofs.YtcdpepaffpboeaaDoor
open Go.RowKit Go.Shelf
theorem kindF_lt : ∀ (ls : List (List UInt8)) (i : Nat) (x : List UInt8), kindF i ls x = 0 ∨ (i ≤ kindF i ls x ∧ kindF i ls x < i + ls.length)
  | [], _, _ => Or.inl rfl
  | l :: r, i, x => by
    unfold kindF
    split
    · exact Or.inr ⟨Nat.le_refl _, by simp⟩
    · rcases kindF_lt r (i + 1) x with h | ⟨h1, h2⟩
      · exact Or.inl h
      · exact Or.inr ⟨by omega, by simp; omega⟩
theorem kindS_lt (ls : List (List UInt8)) (x : List UInt8) (h : 0 < ls.length) : kindS ls x < ls.length := by
  rcases kindF_lt ls 0 x with h1 | ⟨_, h2⟩
  · unfold kindS; omega
  · unfold kindS; omega
theorem Tryd.Step_walk (s : ByteArray) (w : World) (hS : SV w) (hs : s.size ≤ 100000) :
    Calls Tryd.prog 9 #[.string s] w fun e w' => ∃ v b, e = .returned (.tuple #[v, .bool b]) ∧ b = (stepS s).isSome ∧ StepAt w' w.heap.size ((stepS s).getD StepR.zero) v ∧ Below w.heap.size w w' := by
  have hk : kindS stepW ((spl 32 s).getD 0 ⟨#[]⟩).data.toList < 10 := kindS_lt stepW _ (by decide)
  obtain ⟨k, hkd⟩ : ∃ k, kindS stepW ((spl 32 s).getD 0 ⟨#[]⟩).data.toList = k := ⟨_, rfl⟩
  rw [hkd] at hk
  rcases (by omega : k = 0 ∨ k = 1 ∨ k = 2 ∨ k = 3 ∨ k = 4 ∨ k = 5 ∨ k = 6 ∨ k = 7 ∨ k = 8 ∨ k = 9) with rfl | rfl | rfl | rfl | rfl | rfl | rfl | rfl | rfl | rfl
  · exact Tryd.Step_0 s w hS hs hkd
  · exact Tryd.Step_1 s w hS hs hkd
  · exact Tryd.Step_2 s w hS hs hkd
  · exact Tryd.Step_3 s w hS hs hkd
  · exact Tryd.Step_4 s w hS hs hkd
  · exact Tryd.Step_5 s w hS hs hkd
  · exact Tryd.Step_6 s w hS hs hkd
  · exact Tryd.Step_7 s w hS hs hkd
  · exact Tryd.Step_8 s w hS hs hkd
  · exact Tryd.Step_9 s w hS hs hkd
end Go.Proofs.YtcdpepaffpboeaaDoor
