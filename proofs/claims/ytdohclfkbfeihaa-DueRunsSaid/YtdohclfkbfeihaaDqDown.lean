/- container/heap's down, walked. -/
import Derived.Test.YtdohclfkbfeihaaDqHeapW
namespace Go.Proofs.Ytdohclfkbfeihaa
open Go.RowKit Go.Maps
structure DownEnd (base l m : Nat) (v : Value) (es : List Ent) (n i0 : Nat) (w : World) (x : Ending) (w' : World) : Prop where
  out : ∃ es' b, x = .returned (.bool b) ∧ LAt w' base l m v es' ∧ Turn l m v v w w' ∧ es'.Perm es ∧ (b = true → HeapN es' n) ∧ (b = false → UpInv es' n i0) ∧ ∀ k, n ≤ k → es'[k]? = es[k]?
set_option maxHeartbeats 1000000 in
set_option maxRecDepth 1000000 in
theorem Try.down_walk {w : World} {base l m : Nat} {v : Value} {es : List Ent} (h : LAt w base l m v es) (hsm : es.length ≤ 1000) {n i0 : Nat} (hn : n ≤ es.length) (hin : i0 ≤ n) (hD : DownInv es n i0 i0) :
    Calls Try.prog 20 #[.iface 49 (.pointer (some ⟨l, 0, none⟩)), .int .i64 i0, .int .i64 n] w fun x w' => DownEnd base l m v es n i0 w x w' := by
  replace h := Keep.mk h
  replace hD := Keep.mk hD
  go_enter Try.func20, Try.ntmps20
  go_wp2
  go_loopw [7] (fun v7 wr => ∃ (i : Nat) (es' : List Ent), v7 = .int .i64 (i : Int) ∧ i ≤ n ∧ i0 ≤ i ∧ LAt wr base l m v es' ∧ Turn l m v v w wr ∧ es'.Perm es ∧ DownInv es' n i0 i ∧ ∀ k, n ≤ k → es'[k]? = es[k]?) (fun v7 _ => n - (intOf v7).toNat)
  case atStart => exact ⟨i0, es, rfl, hin, Nat.le_refl _, h.out, Turn.refl _ _ _ _, List.Perm.refl _, hD.out, fun _ _ => rfl⟩
  case round =>
    clear h hD
    obtain ⟨i, es', rfl, hi, hi0, hA, hT, hP, hD, hS⟩ := hrel
    have hlen := hP.length_eq
    replace hA := Keep.mk hA
    replace hT := Keep.mk hT
    replace hP := Keep.mk hP
    replace hD := Keep.mk hD
    replace hS := Keep.mk hS
    have p0 : ¬ 2 * (i : Int) + 1 < 0 := by omega
    by_cases h1 : 2 * i + 1 < n
    · have p1 : 2 * (i : Int) + 1 < (n : Int) := by omega
      obtain ⟨x, hx⟩ : ∃ x, es'[i]? = some x := ⟨_, List.getElem?_eq_getElem (by omega)⟩
      obtain ⟨a, ha⟩ : ∃ a, es'[2 * i + 1]? = some a := ⟨_, List.getElem?_eq_getElem (by omega)⟩
      replace hx := Keep.mk hx
      replace ha := Keep.mk ha
      by_cases h2 : 2 * i + 2 < n
      · have p2 : 2 * (i : Int) + 1 + 1 < (n : Int) := by omega
        obtain ⟨b, hb⟩ : ∃ b, es'[2 * i + 2]? = some b := ⟨_, List.getElem?_eq_getElem (by omega)⟩
        replace hb := Keep.mk hb
        have hL1 := Try.Less_walk hA.out hb.out ha.out
        rw [show (((2 * i + 2 : Nat) : Int)) = 2 * (i : Int) + 1 + 1 by omega, show (((2 * i + 1 : Nat) : Int)) = 2 * (i : Int) + 1 by omega] at hL1
        replace hL1 := Keep.mk hL1
        go_wp2_with (go_at_call 41; refine hL1.out.mono ?_)
        first | rintro e w1 rfl b1 | rintro e w1 ⟨rfl, b1⟩
        have A1 := Keep.mk (hA.out.below b1)
        have T1 := Keep.mk (hT.out.trans (Turn.of_below b1))
        clear hL1 b1 hA hT
        cases hab : lt b a with
        | true =>
          replace hab := Keep.mk hab
          have hL2 := Try.Less_walk A1.out hb.out hx.out
          rw [show (((2 * i + 2 : Nat) : Int)) = 2 * (i : Int) + 1 + 1 by omega] at hL2
          replace hL2 := Keep.mk hL2
          go_wp2_with (go_at_call 41; refine hL2.out.mono ?_)
          first | rintro e w3 rfl b3 | rintro e w3 ⟨rfl, b3⟩
          have A3 := A1.out.below b3
          have T3 := Keep.mk (T1.out.trans (Turn.of_below b3))
          clear hL2 b3 A1 T1
          cases hq : lt b x with
          | false =>
            replace A3 := Keep.mk A3
            have hd := Keep.mk (down_done hD.out (fun k hk hkn hp => by
              intro u z hu hz
              rw [hp, hx.out] at hu
              cases hu
              have hk2 : k = 2 * i + 1 ∨ k = 2 * i + 2 := by unfold par at hp; omega
              rcases hk2 with rfl | rfl
              · rw [ha.out] at hz
                cases hz
                exact le_trans hq (lt_asymm hab.out)
              · rw [hb.out] at hz
                cases hz
                exact hq))
            replace hq := Keep.mk hq
            by_cases hii : i = i0
            · subst hii
              go_wp2
              go_returns
              exact ⟨⟨es', false, rfl, A3.out, T3.out, hP.out, (fun h => by cases h), (fun _ => by first | exact hd.out.2 rfl | exact hd.out.2 trivial | exact hd.out.2), hS.out⟩⟩
            · have hgt : (i0 : Int) < (i : Int) := by omega
              go_wp2
              go_returns
              exact ⟨⟨es', true, rfl, A3.out, T3.out, hP.out, (fun _ => hd.out.1 hii), (fun h => by cases h), hS.out⟩⟩
          | true =>
            have hW := Try.Swap_walk A3 (by omega) (i := i) (j := 2 * i + 2) (by omega) hx.out hb.out
            rw [show (((2 * i + 2 : Nat) : Int)) = 2 * (i : Int) + 1 + 1 by omega] at hW
            replace hW := Keep.mk hW
            have hD2 := Keep.mk (down_step hD.out hi0 (c := 2 * i + 2) (by omega) (by omega) (by unfold par; omega) hx.out hb.out hq (fun s hs0 hsn hsp hsc z hz => by
              have hs2 : s = 2 * i + 1 ∨ s = 2 * i + 2 := by unfold par at hsp; omega
              have hs3 : s = 2 * i + 1 := by omega
              subst hs3
              rw [ha.out] at hz
              cases hz
              exact lt_asymm hab.out))
            have hP2 := Keep.mk ((swap_perm hx.out hb.out).trans hP.out)
            have hS2 : ∀ k, n ≤ k → ((es'.set i b).set (2 * i + 2) x)[k]? = es[k]? := fun k hk => by
              rw [List.getElem?_set_ne (by omega), List.getElem?_set_ne (by omega)]
              exact hS.out k hk
            replace hS2 := Keep.mk hS2
            replace hq := Keep.mk hq
            clear A3 hD hP hS
            go_wp2_with (go_at_call 44; refine hW.out.mono ?_)
            first | rintro e w4 rfl A4 t4 | rintro e w4 ⟨rfl, A4, t4⟩
            have T4 := Keep.mk (T3.out.trans t4)
            replace A4 := Keep.mk A4
            clear hW t4 T3
            go_wp2
            go_roundw
            case rel =>
              have hcast : (2 * (i : Int) + 1 + 1) = ((2 * i + 2 : Nat) : Int) := by omega
              have R : (2 * i + 2) ≤ n ∧ i0 ≤ 2 * i + 2 ∧ LAt w4 base l m v ((es'.set i b).set (2 * i + 2) x) ∧ Turn l m v v w w4 ∧ ((es'.set i b).set (2 * i + 2) x).Perm es ∧ DownInv ((es'.set i b).set (2 * i + 2) x) n i0 (2 * i + 2) ∧ ∀ k, n ≤ k → ((es'.set i b).set (2 * i + 2) x)[k]? = es[k]? := ⟨by omega, by omega, A4.out, T4.out, hP2.out, hD2.out, hS2.out⟩
              first
                | exact ⟨2 * i + 2, _, by rw [← hcast], R⟩
                | ((repeat apply Exists.intro); exact ⟨⟨2 * i + 2, _, by rw [← hcast], R⟩, rfl⟩)
            case measure =>
              simp [intOf]
              omega
        | false =>
          replace hab := Keep.mk hab
          have hL2 := Try.Less_walk A1.out ha.out hx.out
          rw [show (((2 * i + 1 : Nat) : Int)) = 2 * (i : Int) + 1 by omega] at hL2
          replace hL2 := Keep.mk hL2
          go_wp2_with (go_at_call 41; refine hL2.out.mono ?_)
          first | rintro e w3 rfl b3 | rintro e w3 ⟨rfl, b3⟩
          have A3 := A1.out.below b3
          have T3 := Keep.mk (T1.out.trans (Turn.of_below b3))
          clear hL2 b3 A1 T1
          cases hq : lt a x with
          | false =>
            replace A3 := Keep.mk A3
            have hd := Keep.mk (down_done hD.out (fun k hk hkn hp => by
              intro u z hu hz
              rw [hp, hx.out] at hu
              cases hu
              have hk2 : k = 2 * i + 1 ∨ k = 2 * i + 2 := by unfold par at hp; omega
              rcases hk2 with rfl | rfl
              · rw [ha.out] at hz
                cases hz
                exact hq
              · rw [hb.out] at hz
                cases hz
                exact le_trans hq hab.out))
            replace hq := Keep.mk hq
            by_cases hii : i = i0
            · subst hii
              go_wp2
              go_returns
              exact ⟨⟨es', false, rfl, A3.out, T3.out, hP.out, (fun h => by cases h), (fun _ => by first | exact hd.out.2 rfl | exact hd.out.2 trivial | exact hd.out.2), hS.out⟩⟩
            · have hgt : (i0 : Int) < (i : Int) := by omega
              go_wp2
              go_returns
              exact ⟨⟨es', true, rfl, A3.out, T3.out, hP.out, (fun _ => hd.out.1 hii), (fun h => by cases h), hS.out⟩⟩
          | true =>
            have hW := Try.Swap_walk A3 (by omega) (i := i) (j := 2 * i + 1) (by omega) hx.out ha.out
            rw [show (((2 * i + 1 : Nat) : Int)) = 2 * (i : Int) + 1 by omega] at hW
            replace hW := Keep.mk hW
            have hD2 := Keep.mk (down_step hD.out hi0 (c := 2 * i + 1) (by omega) (by omega) (by unfold par; omega) hx.out ha.out hq (fun s hs0 hsn hsp hsc z hz => by
              have hs2 : s = 2 * i + 1 ∨ s = 2 * i + 2 := by unfold par at hsp; omega
              have hs3 : s = 2 * i + 2 := by omega
              subst hs3
              rw [hb.out] at hz
              cases hz
              exact hab.out))
            have hP2 := Keep.mk ((swap_perm hx.out ha.out).trans hP.out)
            have hS2 : ∀ k, n ≤ k → ((es'.set i a).set (2 * i + 1) x)[k]? = es[k]? := fun k hk => by
              rw [List.getElem?_set_ne (by omega), List.getElem?_set_ne (by omega)]
              exact hS.out k hk
            replace hS2 := Keep.mk hS2
            replace hq := Keep.mk hq
            clear A3 hD hP hS
            go_wp2_with (go_at_call 44; refine hW.out.mono ?_)
            first | rintro e w4 rfl A4 t4 | rintro e w4 ⟨rfl, A4, t4⟩
            have T4 := Keep.mk (T3.out.trans t4)
            replace A4 := Keep.mk A4
            clear hW t4 T3
            go_wp2
            go_roundw
            case rel =>
              have hcast : (2 * (i : Int) + 1) = ((2 * i + 1 : Nat) : Int) := by omega
              have R : (2 * i + 1) ≤ n ∧ i0 ≤ 2 * i + 1 ∧ LAt w4 base l m v ((es'.set i a).set (2 * i + 1) x) ∧ Turn l m v v w w4 ∧ ((es'.set i a).set (2 * i + 1) x).Perm es ∧ DownInv ((es'.set i a).set (2 * i + 1) x) n i0 (2 * i + 1) ∧ ∀ k, n ≤ k → ((es'.set i a).set (2 * i + 1) x)[k]? = es[k]? := ⟨by omega, by omega, A4.out, T4.out, hP2.out, hD2.out, hS2.out⟩
              first
                | exact ⟨2 * i + 1, _, by rw [← hcast], R⟩
                | ((repeat apply Exists.intro); exact ⟨⟨2 * i + 1, _, by rw [← hcast], R⟩, rfl⟩)
            case measure =>
              simp [intOf]
              omega
      · have p2 : ¬ 2 * (i : Int) + 1 + 1 < (n : Int) := by omega
        have hL2 := Try.Less_walk hA.out ha.out hx.out
        rw [show (((2 * i + 1 : Nat) : Int)) = 2 * (i : Int) + 1 by omega] at hL2
        replace hL2 := Keep.mk hL2
        go_wp2_with (go_at_call 41; refine hL2.out.mono ?_)
        first | rintro e w3 rfl b3 | rintro e w3 ⟨rfl, b3⟩
        have A3 := hA.out.below b3
        have T3 := Keep.mk (hT.out.trans (Turn.of_below b3))
        clear hL2 b3 hA hT
        cases hq : lt a x with
        | false =>
          replace A3 := Keep.mk A3
          have hd := Keep.mk (down_done hD.out (fun k hk hkn hp => by
            intro u z hu hz
            rw [hp, hx.out] at hu
            cases hu
            have hk2 : k = 2 * i + 1 := by unfold par at hp; omega
            subst hk2
            rw [ha.out] at hz
            cases hz
            exact hq))
          replace hq := Keep.mk hq
          by_cases hii : i = i0
          · subst hii
            go_wp2
            go_returns
            exact ⟨⟨es', false, rfl, A3.out, T3.out, hP.out, (fun h => by cases h), (fun _ => by first | exact hd.out.2 rfl | exact hd.out.2 trivial | exact hd.out.2), hS.out⟩⟩
          · have hgt : (i0 : Int) < (i : Int) := by omega
            go_wp2
            go_returns
            exact ⟨⟨es', true, rfl, A3.out, T3.out, hP.out, (fun _ => hd.out.1 hii), (fun h => by cases h), hS.out⟩⟩
        | true =>
          have hW := Try.Swap_walk A3 (by omega) (i := i) (j := 2 * i + 1) (by omega) hx.out ha.out
          rw [show (((2 * i + 1 : Nat) : Int)) = 2 * (i : Int) + 1 by omega] at hW
          replace hW := Keep.mk hW
          have hD2 := Keep.mk (down_step hD.out hi0 (c := 2 * i + 1) (by omega) (by omega) (by unfold par; omega) hx.out ha.out hq (fun s hs0 hsn hsp hsc z hz => by
            have hs2 : s = 2 * i + 1 ∨ s = 2 * i + 2 := by unfold par at hsp; omega
            omega))
          have hP2 := Keep.mk ((swap_perm hx.out ha.out).trans hP.out)
          have hS2 : ∀ k, n ≤ k → ((es'.set i a).set (2 * i + 1) x)[k]? = es[k]? := fun k hk => by
            rw [List.getElem?_set_ne (by omega), List.getElem?_set_ne (by omega)]
            exact hS.out k hk
          replace hS2 := Keep.mk hS2
          replace hq := Keep.mk hq
          clear A3 hD hP hS
          go_wp2_with (go_at_call 44; refine hW.out.mono ?_)
          first | rintro e w4 rfl A4 t4 | rintro e w4 ⟨rfl, A4, t4⟩
          have T4 := Keep.mk (T3.out.trans t4)
          replace A4 := Keep.mk A4
          clear hW t4 T3
          go_wp2
          go_roundw
          case rel =>
            have hcast : (2 * (i : Int) + 1) = ((2 * i + 1 : Nat) : Int) := by omega
            have R : (2 * i + 1) ≤ n ∧ i0 ≤ 2 * i + 1 ∧ LAt w4 base l m v ((es'.set i a).set (2 * i + 1) x) ∧ Turn l m v v w w4 ∧ ((es'.set i a).set (2 * i + 1) x).Perm es ∧ DownInv ((es'.set i a).set (2 * i + 1) x) n i0 (2 * i + 1) ∧ ∀ k, n ≤ k → ((es'.set i a).set (2 * i + 1) x)[k]? = es[k]? := ⟨by omega, by omega, A4.out, T4.out, hP2.out, hD2.out, hS2.out⟩
            first
              | exact ⟨2 * i + 1, _, by rw [← hcast], R⟩
              | ((repeat apply Exists.intro); exact ⟨⟨2 * i + 1, _, by rw [← hcast], R⟩, rfl⟩)
          case measure =>
            simp [intOf]
            omega
    · have p1 : ¬ 2 * (i : Int) + 1 < (n : Int) := by omega
      have hd := Keep.mk (down_done hD.out (fun k hk hkn hp => by unfold par at hp; omega))
      by_cases hii : i = i0
      · subst hii
        go_wp2
        go_returns
        exact ⟨⟨es', false, rfl, hA.out, hT.out, hP.out, (fun h => by cases h), (fun _ => by first | exact hd.out.2 rfl | exact hd.out.2 trivial | exact hd.out.2), hS.out⟩⟩
      · have hgt : (i0 : Int) < (i : Int) := by omega
        go_wp2
        go_returns
        exact ⟨⟨es', true, rfl, hA.out, hT.out, hP.out, (fun _ => hd.out.1 hii), (fun h => by cases h), hS.out⟩⟩
end Go.Proofs.Ytdohclfkbfeihaa
