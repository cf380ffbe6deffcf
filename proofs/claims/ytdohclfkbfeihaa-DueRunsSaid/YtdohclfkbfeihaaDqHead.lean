/- The law's head, walked. -/
import Derived.Test.YtdohclfkbfeihaaDqSet
namespace Go.Proofs.Ytdohclfkbfeihaa
open Go.RowKit Go.Maps
theorem SetEnd.nil {base q l m : Nat} {v : Value} {y : Ent} {w : World} {x : Ending} {w' : World} (h : SetEnd base q l m v [] y w x w') : ∃ v' es', x = .returned (.tuple #[]) ∧ QAt w' base q l m v' es' ∧ Turn l m v v' w w' ∧ es'.Perm [y] := by
  obtain ⟨v', es', hx, hQ, hT, ⟨e, he, _⟩ | ⟨_, hP⟩⟩ := h
  · cases he
  · exact ⟨v', es', hx, hQ, hT, hP⟩
set_option maxHeartbeats 1000000 in
set_option maxRecDepth 1000000 in
theorem Try.head_walk (w : World) : Calls Try.prog 8 #[] w fun x w' => x = .returned (.bool true) ∧ Below w.heap.size w w' := by
  have hN := Keep.mk (Try.New_walk w w.heap.size (Nat.le_refl _))
  go_enter Try.func8, Try.ntmps8
  go_wp2_with (go_at_call 9; refine hN.out.mono ?_)
  rintro x w1 ⟨q, l, m, v, rfl, hQ1, hB1⟩
  have hS1 := Try.Set_walk hQ1 (by decide) hB1.size (y := ⟨5, 1, 1, 0⟩) ⟨by decide, by decide, by decide, by decide⟩
  unfold TidV at hS1
  replace hS1 := Keep.mk hS1
  replace hQ1 := Keep.mk hQ1
  replace hB1 := Keep.mk hB1
  clear hN
  go_wp2_with (go_at_call 10; refine hS1.out.mono ?_)
  rintro x w2 hE
  obtain ⟨v2, es2, rfl, hQ2, hT2, hP2⟩ := hE.nil
  have hB2 := Keep.mk (hB1.out.trans (hQ1.out.keeps hT2 (Nat.le_refl _) hB1.out.size))
  have hl2 := hP2.length_eq
  have hS2 := Try.Set_walk hQ2 (by rw [hl2]; decide) hB2.out.size (y := ⟨3, 1, 2, 0⟩) ⟨by decide, by decide, by decide, by decide⟩
  unfold TidV at hS2
  replace hS2 := Keep.mk hS2
  replace hQ2 := Keep.mk hQ2
  replace hP2 := Keep.mk hP2
  clear hS1 hE hT2 hQ1 hB1
  go_wp2_with (go_at_call 10; refine hS2.out.mono ?_)
  rintro x w3 ⟨v3, es3, rfl, hQ3, hT3, hor⟩
  have hP3 : es3.Perm [⟨3, 1, 2, 0⟩, ⟨5, 1, 1, 0⟩] := by
    rcases hor with ⟨e, he, hn, _⟩ | ⟨_, hP⟩
    · have := hP2.out.mem_iff.1 he
      rw [List.mem_singleton] at this
      subst this
      cases hn
    · exact hP.trans (hP2.out.cons _)
  have hB3 := Keep.mk (hB2.out.trans (hQ2.out.keeps hT3 (Nat.le_refl _) hB2.out.size))
  have hl3 := hP3.length_eq
  have hX := Keep.mk (Try.Next_walk hQ3 (by rw [hl3]; decide) 4)
  replace hQ3 := Keep.mk hQ3
  clear hS2 hT3 hor hQ2 hB2 hP2
  replace hP3 := Keep.mk hP3
  go_wp2_with (go_at_call 11; refine hX.out.mono ?_)
  rintro x w4 ⟨e, b, v4, es4, rfl, hQ4, hT4, hy, hn⟩
  have hB4 := Keep.mk (hB3.out.trans (hQ3.out.keeps hT4 (Nat.le_refl _) hB3.out.size))
  have hb : b = true := by
    cases b
    · have := (hn rfl).2.2 ⟨3, 1, 2, 0⟩ (hP3.out.mem_iff.2 (by simp))
      exact absurd this (by decide)
    · rfl
  subst hb
  have he : e = ⟨3, 1, 2, 0⟩ := by
    obtain ⟨h1, h2, _⟩ := hy rfl
    have h3 := (h2.trans hP3.out).mem_iff.1 (List.mem_cons_self (a := e) (l := es4))
    simp only [List.mem_cons, List.not_mem_nil, or_false] at h3
    rcases h3 with rfl | rfl
    · rfl
    · exact absurd h1 (by decide)
  subst he
  have hs4 := hB4.out.size
  have hfin : Below w.heap.size w (w4.alloc (.cells #[.int .i64 3, .int .i64 1, .int .u64 2, .int .i64 0] 32 (0, 0))) := hB4.out.alloc (by omega) _
  replace hfin := Keep.mk hfin
  clear hX hQ4 hT4 hy hn hB4 hQ3 hP3 hB3
  unfold Ent.val Ent.cells
  go_wp2
  go_ret
  exact ⟨rfl, hfin.out⟩
end Go.Proofs.Ytdohclfkbfeihaa
