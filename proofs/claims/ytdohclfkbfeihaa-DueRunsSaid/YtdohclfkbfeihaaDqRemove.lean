/- container/heap's Remove, walked. -/
import Derived.Test.YtdohclfkbfeihaaDqOps
namespace Go.Proofs.Ytdohclfkbfeihaa
open Go.RowKit Go.Maps
set_option maxHeartbeats 1000000 in
set_option maxRecDepth 1000000 in
theorem Try.hRemove_walk {w : World} {base l m : Nat} {v : Value} {es : List Ent} {e : Ent} (h : HAt w base l m v es) (hsm : es.length ≤ 1000) {i : Nat} (he : es[i]? = some e) :
    Calls Try.prog 19 #[.iface 49 (.pointer (some ⟨l, 0, none⟩)), .int .i64 i] w fun r w' => ∃ rv, r = .returned rv ∧ Took base l m v e es w w' := by
  have hi : i < es.length := (List.getElem?_eq_some_iff.1 he).1
  obtain ⟨n, hn⟩ : ∃ n, es.length = n + 1 := ⟨es.length - 1, by omega⟩
  obtain ⟨y, hy⟩ : ∃ y, es[n]? = some y := ⟨_, List.getElem?_eq_getElem (by omega)⟩
  have hl := Try.Len_walk h.at_
  rw [hn, show (((n + 1 : Nat) : Int)) = (n : Int) + 1 by omega] at hl
  replace hl := Keep.mk hl
  have hA := h.at_
  have hH := h.heap
  rw [hn] at hH
  replace hH := Keep.mk hH
  clear h
  by_cases hni : n = i
  · subst hni
    go_enter Try.func19, Try.ntmps19
    go_upto_region 3 with (go_at_call 40; refine hl.out.mono ?_; rintro x w2 ⟨rfl, hw2⟩; replace hw2 := hw2.symm; subst hw2)
    have hsp : es = es.take n ++ [e] := split_last (by omega) he
    have A2' := hA
    rw [hsp] at A2'
    have hpp := Keep.mk (Try.Pop_walk A2' (by have := List.length_take_le n es; omega))
    have hPf := Keep.mk (took_perm (List.Perm.refl _) (List.Perm.refl _) hsp)
    have hHf := Keep.mk (heap_take (heap_less hH.out (Nat.le_succ n)))
    have T2' := Keep.mk (Turn.refl l m v w)
    clear A2' hsp hA
    go_wp2_with (go_at_call 42; refine hpp.out.mono ?_)
    first | rintro r w5 v5 rfl A5 T5 | rintro r w5 ⟨v5, rfl, A5, T5⟩
    have hfin : Took base l m v e es w w5 := ⟨v5, _, ⟨A5, hHf.out⟩, T2'.out.trans T5, hPf.out⟩
    replace hfin := Keep.mk hfin
    clear A5 T5 hpp
    go_wp2
    go_ret
    exact ⟨_, rfl, hfin.out⟩
  · have hin : i < n := by omega
    have hni' : ¬ (n : Int) = (i : Int) := by omega
    have hsw := Try.Swap_walk hA hsm hin he hy
    have hP1 : ((es.set i y).set n e).Perm es := swap_perm he hy
    have hx1 : ((es.set i y).set n e)[n]? = some e := List.getElem?_set_self (by simp; omega)
    have hD1 : DownInv ((es.set i y).set n e) n i i := by
      have hd := down_of_set (heap_less hH.out (Nat.le_succ n)) hin (by omega) y
      exact down_alike hd hin (fun k hk => by rw [List.getElem?_set_ne (by omega)])
    generalize (es.set i y).set n e = es1 at *
    have hlen1 := hP1.length_eq
    replace hsw := Keep.mk hsw
    replace hD1 := Keep.mk hD1
    replace hx1 := Keep.mk hx1
    replace he := Keep.mk he
    replace hy := Keep.mk hy
    clear hA
    go_enter Try.func19, Try.ntmps19
    go_wp2_with (first | (go_at_call 40; refine hl.out.mono ?_; rintro x w2 ⟨rfl, hw2⟩; replace hw2 := hw2.symm; subst hw2) | (go_at_call 44; refine hsw.out.mono ?_))
    first | rintro r w1 rfl A1 T1 | rintro r w1 ⟨rfl, A1, T1⟩
    have hdn := Keep.mk (Try.down_walk A1 (by omega) (n := n) (i0 := i) (by omega) (by omega) hD1.out)
    replace T1 := Keep.mk T1
    replace hP1 := Keep.mk hP1
    clear A1 hsw hl hD1
    go_wp2_with (go_at_call 20; refine hdn.out.mono ?_)
    rintro r w2 ⟨es2, b2, rfl, A2, T2, P2, hb1, hb2, hS⟩
    have hlen2 := P2.length_eq
    have P2e := P2.trans hP1.out
    have hx2 : es2[n]? = some e := by rw [hS n (Nat.le_refl _)]; exact hx1.out
    clear hdn P2
    cases b2 with
    | true =>
      have hH2 := hb1 rfl
      clear hb1 hb2 hS
      have hsp : es2 = es2.take n ++ [e] := split_last (by omega) hx2
      have A2' := A2
      rw [hsp] at A2'
      have hpp := Keep.mk (Try.Pop_walk A2' (by have := List.length_take_le n es2; omega))
      have hPf := Keep.mk (took_perm P2e (List.Perm.refl _) hsp)
      have hHf := Keep.mk (heap_take hH2)
      have T2' := Keep.mk (T1.out.trans T2)
      clear A2' hsp A2
      go_wp2_with (go_at_call 42; refine hpp.out.mono ?_)
      first | rintro r w5 v5 rfl A5 T5 | rintro r w5 ⟨v5, rfl, A5, T5⟩
      have hfin : Took base l m v e es w w5 := ⟨v5, _, ⟨A5, hHf.out⟩, T2'.out.trans T5, hPf.out⟩
      replace hfin := Keep.mk hfin
      clear A5 T5 hpp
      go_wp2
      go_ret
      exact ⟨_, rfl, hfin.out⟩
    | false =>
      have hup := Keep.mk (Try.up_walk A2 (by omega) (n := n) (j := i) (by omega) hin (hb2 rfl))
      have T2 := Keep.mk (T1.out.trans T2)
      replace P2e := Keep.mk P2e
      replace hx2 := Keep.mk hx2
      clear A2 hb1 hb2 hS
      go_wp2_with (go_at_call 21; refine hup.out.mono ?_)
      first | rintro r w3 es3 rfl A3 T3 P3 H3 hS3 | rintro r w3 ⟨es3, rfl, A3, T3, P3, H3, hS3⟩
      have hlen3 := P3.length_eq
      have P3e := P3.trans P2e.out
      have hx3 : es3[n]? = some e := by rw [hS3 n (Nat.le_refl _)]; exact hx2.out
      clear hup P3 hS3
      have hsp : es3 = es3.take n ++ [e] := split_last (by omega) hx3
      have A2' := A3
      rw [hsp] at A2'
      have hpp := Keep.mk (Try.Pop_walk A2' (by have := List.length_take_le n es3; omega))
      have hPf := Keep.mk (took_perm P3e (List.Perm.refl _) hsp)
      have hHf := Keep.mk (heap_take H3)
      have T2' := Keep.mk (T2.out.trans T3)
      clear A2' hsp A3
      go_wp2_with (go_at_call 42; refine hpp.out.mono ?_)
      first | rintro r w5 v5 rfl A5 T5 | rintro r w5 ⟨v5, rfl, A5, T5⟩
      have hfin : Took base l m v e es w w5 := ⟨v5, _, ⟨A5, hHf.out⟩, T2'.out.trans T5, hPf.out⟩
      replace hfin := Keep.mk hfin
      clear A5 T5 hpp
      go_wp2
      go_ret
      exact ⟨_, rfl, hfin.out⟩
end Go.Proofs.Ytdohclfkbfeihaa
