/- script.kind, walked: the place of a word. -/
import Derived.Test.YtcdpepaffpboeaaDoorScVars
import Derived.Deep.Quiet
import Derived.Deep.QuietTactic
namespace Go.Proofs.YtcdpepaffpboeaaDoor
open Go.RowKit Go.Shelf
/-- The place of a word among some, the first of them being number i; 0 if it is none, or empty. -/
def kindF : Nat → List (List UInt8) → List UInt8 → Nat
  | _, [], _ => 0
  | i, l :: r, x => if l ≠ [] ∧ l = x then i else kindF (i + 1) r x
def kindS (ls : List (List UInt8)) (x : List UInt8) : Nat := kindF 0 ls x
theorem kindF_drop (ls : List (List UInt8)) (x : List UInt8) (k : Nat) (h : k < ls.length) : kindF k (ls.drop k) x = if ls[k] ≠ [] ∧ ls[k] = x then k else kindF (k + 1) (ls.drop (k + 1)) x := by
  rw [List.drop_eq_getElem_cons h]
  rfl
set_option maxHeartbeats 2000000 in
set_option maxRecDepth 1000000 in
theorem Tryd.kind_walk (g : Nat) (ls : List (List UInt8)) (cap : Nat) (x : ByteArray) (w : World) (hn : ls.length ≤ 1000) (hc : ∀ (i : Nat) (h : i < ls.length), w.cell? ⟨g, i, none⟩ = some (strV ls[i])) :
    Calls Tryd.prog 21 #[.slice (some ⟨g, 0, none⟩) ls.length cap, .string x] w fun e w' => e = .returned (.int .i64 (kindS ls x.data.toList)) ∧ w' = w := by
  go_enter Tryd.func21, Tryd.ntmps21
  go_wp2
  go_loopw [9] (fun v wr => wr = w ∧ ∃ k : Nat, v = .int .i64 (k : Int) ∧ k ≤ ls.length ∧ kindS ls x.data.toList = kindF k (ls.drop k) x.data.toList) (fun v _ => ls.length - (intOf v).toNat)
  case atStart =>
    exact ⟨rfl, 0, rfl, Nat.zero_le _, rfl⟩
  case round =>
    obtain ⟨rfl, k, rfl, hk, hr⟩ := hrel
    by_cases hp : k < ls.length
    · have hck := hc k hp
      have hd := kindF_drop ls x.data.toList k hp
      rw [← hr] at hd
      clear hr hc
      unfold strV at hck
      generalize hl : ls[k] = l at hck hd
      clear hl
      go_wp2
      · rename_i h0
        refine ⟨⟨trivial, k + 1, congrArg (Value.int .i64) (by omega), by omega, ?_⟩, by simp [intOf]; omega⟩
        rw [hd, if_neg (fun h => h.1 h0)]
      · go_ret
        rename_i h0 h1
        refine ⟨?_, rfl⟩
        rw [hd, if_pos ⟨h0, by rw [← toL]; exact eq_of_beq h1.2⟩]
        rfl
      · rename_i h0 h1
        refine ⟨⟨trivial, k + 1, congrArg (Value.int .i64) (by omega), by omega, ?_⟩, by simp [intOf]; omega⟩
        rw [hd, if_neg (fun h => ?_)]
        rcases h1 with h1 | h1
        · simp at h1
          exact h.1 h1
        · rw [toL, h.2] at h1
          simp at h1
    · have hk : k = ls.length := by omega
      go_wp2
      go_ret
      refine ⟨?_, rfl⟩
      rw [hr, hk, List.drop_length]
      rfl
end Go.Proofs.YtcdpepaffpboeaaDoor
