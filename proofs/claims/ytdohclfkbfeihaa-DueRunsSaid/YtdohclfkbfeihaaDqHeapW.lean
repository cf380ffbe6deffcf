/- container/heap's up and down, walked. -/
import Derived.Test.YtdohclfkbfeihaaDqPush
namespace Go.Proofs.Ytdohclfkbfeihaa
open Go.RowKit Go.Maps
set_option maxHeartbeats 1000000 in
set_option maxRecDepth 1000000 in
theorem Try.up_walk {w : World} {base l m : Nat} {v : Value} {es : List Ent} (h : LAt w base l m v es) (hsm : es.length ≤ 1000) {n j : Nat} (hn : n ≤ es.length) (hj : j < n) (hU : UpInv es n j) :
    Calls Try.prog 21 #[.iface 49 (.pointer (some ⟨l, 0, none⟩)), .int .i64 j] w fun x w' => ∃ es', x = .returned (.tuple #[]) ∧ LAt w' base l m v es' ∧ Turn l m v v w w' ∧ es'.Perm es ∧ HeapN es' n ∧ ∀ k, n ≤ k → es'[k]? = es[k]? := by
  replace h := Keep.mk h
  replace hU := Keep.mk hU
  go_enter Try.func21, Try.ntmps21
  go_wp2
  go_loopw [1] (fun v1 wr => ∃ (j' : Nat) (es' : List Ent), v1 = .int .i64 (j' : Int) ∧ j' < n ∧ LAt wr base l m v es' ∧ Turn l m v v w wr ∧ es'.Perm es ∧ UpInv es' n j' ∧ ∀ k, n ≤ k → es'[k]? = es[k]?) (fun v1 _ => (intOf v1).toNat)
  case atStart => exact ⟨j, es, rfl, hj, h.out, Turn.refl _ _ _ _, List.Perm.refl _, hU.out, fun _ _ => rfl⟩
  case round =>
    clear h hU
    obtain ⟨j', es', rfl, hj', hA, hT, hP, hU, hS⟩ := hrel
    have hlen := hP.length_eq
    replace hA := Keep.mk hA
    replace hT := Keep.mk hT
    replace hP := Keep.mk hP
    replace hU := Keep.mk hU
    replace hS := Keep.mk hS
    by_cases h0 : j' = 0
    · subst h0
      go_wp2
      go_returns
      exact ⟨es', rfl, hA.out, hT.out, hP.out, up_done0 hU.out, hS.out⟩
    · have hpj := par_lt (i := j') (by omega)
      obtain ⟨x, hx⟩ : ∃ x, es'[j']? = some x := ⟨_, List.getElem?_eq_getElem (by omega)⟩
      obtain ⟨y, hy⟩ : ∃ y, es'[par j']? = some y := ⟨_, List.getElem?_eq_getElem (by omega)⟩
      have hL := Keep.mk (Try.Less_walk hA.out hx hy)
      have q1 : Int.tdiv ((j' : Int) - 1) 2 = (par j' : Int) := by
        unfold par
        rw [Int.tdiv_eq_ediv_of_nonneg (by omega)]
        omega
      have q2 : ((par j' : Nat) : Int) ≠ (j' : Int) := by omega
      have q3 : ((par j' : Int) == (j' : Int)) = false := by rw [beq_eq_false_iff_ne]; exact q2
      generalize hpe : par j' = i at *
      replace hpe := Keep.mk hpe
      replace hx := Keep.mk hx
      replace hy := Keep.mk hy
      go_wp2_with (go_at_call 41; refine hL.out.mono ?_)
      rintro e w1 ⟨rfl, b1⟩
      have A1 := hA.out.below b1
      have T1 := Keep.mk (hT.out.trans (Turn.of_below b1))
      clear hL b1 hA hT
      cases hq : lt x y with
      | false =>
        replace A1 := Keep.mk A1
        have hd := Keep.mk (up_done hU.out hx.out (by rw [hpe.out]; exact hy.out) hq)
        replace hq := Keep.mk hq
        go_wp2
        go_returns
        exact ⟨es', rfl, A1.out, T1.out, hP.out, hd.out, hS.out⟩
      | true =>
        have hW := Keep.mk (Try.Swap_walk A1 (by omega) hpj hy.out hx.out)
        have hU2 := up_step hU.out (by omega) hj' hx.out (by rw [hpe.out]; exact hy.out) hq
        rw [hpe.out] at hU2
        replace hU2 := Keep.mk hU2
        have hP2 := Keep.mk ((swap_perm hy.out hx.out).trans hP.out)
        have hS2 : ∀ k, n ≤ k → ((es'.set i x).set j' y)[k]? = es[k]? := fun k hk => by
          rw [List.getElem?_set_ne (by omega), List.getElem?_set_ne (by omega)]
          exact hS.out k hk
        replace hS2 := Keep.mk hS2
        replace hq := Keep.mk hq
        clear A1 hU hP hS
        go_wp2_with (go_at_call 44; refine hW.out.mono ?_)
        rintro e w2 ⟨rfl, A2, t2⟩
        have T2 := Keep.mk (T1.out.trans t2)
        replace A2 := Keep.mk A2
        clear hW t2 T1
        go_wp2
        go_roundw
        case rel =>
          first
            | exact ⟨i, _, rfl, by omega, A2.out, T2.out, hP2.out, hU2.out, hS2.out⟩
            | ((repeat apply Exists.intro); exact ⟨⟨i, _, rfl, by omega, A2.out, T2.out, hP2.out, hU2.out, hS2.out⟩, rfl⟩)
        case measure =>
          simp [intOf]
          omega
end Go.Proofs.Ytdohclfkbfeihaa
