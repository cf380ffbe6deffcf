/- container/heap's four functions, walked. -/
import Derived.Test.YtdohclfkbfeihaaDqDown
import Derived.Test.YtdohclfkbfeihaaDqSelf
namespace Go.Proofs.Ytdohclfkbfeihaa
open Go.RowKit Go.Maps
/-- A list that is a heap. -/
structure HAt (w : World) (base l m : Nat) (v : Value) (es : List Ent) : Prop where
  at_ : LAt w base l m v es
  heap : HeapN es es.length
theorem HAt.below {w w' : World} {base l m : Nat} {v : Value} {es : List Ent} (h : HAt w base l m v es) (hb : Below w.heap.size w w') : HAt w' base l m v es := ⟨h.at_.below hb, h.heap⟩
/-- What a call leaves: a heap of those entries. -/
structure Left_ (base l m : Nat) (v : Value) (es : List Ent) (w w' : World) : Prop where
  out : ∃ v' es', HAt w' base l m v' es' ∧ Turn l m v v' w w' ∧ es'.Perm es
set_option maxHeartbeats 1000000 in
set_option maxRecDepth 1000000 in
theorem Try.hPush_walk {w : World} {base l m : Nat} {v : Value} {es : List Ent} {e : Ent} (h : HAt w base l m v es) (hsm : es.length < 1000) (hbs : base ≤ w.heap.size) (we : e.wf) (hne : ∀ x ∈ es, x.nm ≠ e.nm) :
    Calls Try.prog 17 #[.iface 49 (.pointer (some ⟨l, 0, none⟩)), .iface 32 e.val] w fun x w' => x = .returned (.tuple #[]) ∧ Left_ base l m v (es ++ [e]) w w' := by
  have hP := Keep.mk (Try.Push_walk h.at_ (by omega) hbs we hne)
  have hU := Keep.mk (up_of_push h.heap e)
  replace h := Keep.mk h
  replace hne := Keep.mk hne
  go_enter Try.func17, Try.ntmps17
  go_wp2_with (go_at_call 43; refine hP.out.mono ?_)
  first | rintro x w1 v1 rfl A1 T1 | rintro x w1 ⟨v1, rfl, A1, T1⟩
  have hl := Keep.mk (Try.Len_walk A1)
  have hlen : (es ++ [e]).length = es.length + 1 := by simp
  have hup := Try.up_walk A1 (by omega) (n := es.length + 1) (j := es.length) (by omega) (by omega) hU.out
  rw [show ((es.length : Nat) : Int) = ((es ++ [e]).length : Int) - 1 by omega] at hup
  replace hup := Keep.mk hup
  replace T1 := Keep.mk T1
  clear A1 hP
  have hz : (es ++ [e]).length ≤ 1000 := by omega
  replace hlen := Keep.mk hlen
  generalize hnn : (es ++ [e]).length = nn at *
  go_wp2_with (first | (go_at_call 40; refine hl.out.mono ?_; rintro x w2 ⟨rfl, rfl⟩) | (go_at_call 21; refine hup.out.mono ?_))
  first | rintro x w3 es' rfl A3 T3 P3 H3 _ | rintro x w3 ⟨es', rfl, A3, T3, P3, H3, _⟩
  have hlen3 := P3.length_eq
  have hfin : Left_ base l m v (es ++ [e]) w w3 := ⟨_, es', ⟨A3, heap_less H3 (by have := hlen.out; omega)⟩, T1.out.trans T3, P3⟩
  replace hfin := Keep.mk hfin
  clear hl hup A3 T3 P3 H3
  go_wp2
  go_returns
  exact ⟨rfl, hfin.out⟩
/-- What a call that takes one leaves. -/
structure Took (base l m : Nat) (v : Value) (x : Ent) (es : List Ent) (w w' : World) : Prop where
  out : ∃ v' es', HAt w' base l m v' es' ∧ Turn l m v v' w w' ∧ (x :: es').Perm es
theorem split_last {es : List Ent} {n : Nat} {x : Ent} (hn : es.length = n + 1) (hx : es[n]? = some x) : es = es.take n ++ [x] := by
  obtain ⟨h, rfl⟩ := List.getElem?_eq_some_iff.1 hx
  rw [List.take_append_getElem h, List.take_of_length_le (by omega)]
theorem took_perm {es es1 es2 : List Ent} {x : Ent} {n : Nat} (h1 : es1.Perm es) (h2 : es2.Perm es1) (hs : es2 = es2.take n ++ [x]) : (x :: es2.take n).Perm es := by
  have h3 : (es2.take n ++ [x]).Perm es := by rw [← hs]; exact h2.trans h1
  exact (List.perm_append_comm (l₁ := [x]) (l₂ := es2.take n)).trans h3
theorem heap_take {es : List Ent} {n : Nat} (h : HeapN es n) : HeapN (es.take n) (es.take n).length := by
  intro k hk hn a b ha hb
  have hl : k < n := by have := List.length_take_le n es; omega
  have := par_lt hk
  rw [List.getElem?_take, if_pos (by omega)] at ha hb
  exact h k hk hl a b ha hb
set_option maxHeartbeats 1000000 in
set_option maxRecDepth 1000000 in
theorem Try.hPop_walk {w : World} {base l m : Nat} {v : Value} {es : List Ent} {x : Ent} (h : HAt w base l m v es) (hsm : es.length ≤ 1000) (hx : es[0]? = some x) :
    Calls Try.prog 18 #[.iface 49 (.pointer (some ⟨l, 0, none⟩))] w fun r w' => r = .returned (.iface 32 x.val) ∧ Took base l m v x es w w' := by
  have hpos : 0 < es.length := (List.getElem?_eq_some_iff.1 hx).1
  obtain ⟨n, hn⟩ : ∃ n, es.length = n + 1 := ⟨es.length - 1, by omega⟩
  obtain ⟨y, hy⟩ : ∃ y, es[n]? = some y := ⟨_, List.getElem?_eq_getElem (by omega)⟩
  have hl := Try.Len_walk h.at_
  rw [hn, show (((n + 1 : Nat) : Int)) = (n : Int) + 1 by omega] at hl
  replace hl := Keep.mk hl
  -- the first and the last change places
  have hsw : Calls Try.prog 44 #[.pointer (some ⟨l, 0, none⟩), .int .i64 0, .int .i64 n] w fun e w' => e = .returned (.tuple #[]) ∧ ∃ es1, LAt w' base l m v es1 ∧ Turn l m v v w w' ∧ es1.Perm es ∧ es1[n]? = some x ∧ DownInv es1 n 0 0 := by
    by_cases h0 : n = 0
    · subst h0
      refine (Try.Swap_self h.at_ hsm hx).mono ?_
      rintro e w' ⟨rfl, A, T⟩
      exact ⟨rfl, es, A, T, List.Perm.refl _, hx, fun k hk hkn => by omega, fun k hk => by omega⟩
    · refine (Try.Swap_walk h.at_ hsm (i := 0) (j := n) (by omega) hx hy).mono ?_
      rintro e w' ⟨rfl, A, T⟩
      refine ⟨rfl, _, A, T, swap_perm hx hy, List.getElem?_set_self (by simp; omega), fun k hk hkn hp _ a b ha hb => ?_, fun k hk => by omega⟩
      have G := swap_get (i := 0) (j := n) (by omega) hx hy
      have hpk := par_lt hk
      rw [G, if_neg hp, if_neg (by omega)] at ha
      rw [G, if_neg (by omega), if_neg (by omega)] at hb
      exact h.heap k hk (by omega) a b ha hb
  replace hsw := Keep.mk hsw
  replace h := Keep.mk h
  replace hx := Keep.mk hx
  replace hy := Keep.mk hy
  replace hn := Keep.mk hn
  have hn1 : n ≤ 1000 := by have := hn.out; omega
  go_enter Try.func18, Try.ntmps18
  go_wp2_with (first | (go_at_call 40; refine hl.out.mono ?_; rintro x w2 ⟨rfl, hw2⟩; replace hw2 := hw2.symm; subst hw2) | (go_at_call 44; refine hsw.out.mono ?_))
  first | rintro e w1 rfl es1 A1 T1 P1 hx1 hD1 | rintro e w1 ⟨rfl, es1, A1, T1, P1, hx1, hD1⟩
  have hlen1 := P1.length_eq
  have hdn := Keep.mk (Try.down_walk A1 (by have := hn.out; omega) (n := n) (i0 := 0) (by have := hn.out; omega) (by omega) hD1)
  replace T1 := Keep.mk T1
  replace P1 := Keep.mk P1
  replace hx1 := Keep.mk hx1
  clear hsw hl A1 hD1
  go_wp2_with (go_at_call 20; refine hdn.out.mono ?_)
  rintro e w2 ⟨es2, b2, rfl, A2, T2, P2, hb1, hb2, hS⟩
  have hH : HeapN es2 n := by
    cases b2
    · exact up_done0 (hb2 rfl)
    · exact hb1 rfl
  have hlen2 := P2.length_eq
  have hsp : es2 = es2.take n ++ [x] := split_last (by have := hn.out; omega) (by rw [hS n (Nat.le_refl _)]; exact hx1.out)
  have A2' := A2
  rw [hsp] at A2'
  have hpp := Keep.mk (Try.Pop_walk A2' (by have := List.length_take_le n es2; omega))
  have hPf := Keep.mk (took_perm P1.out P2 hsp)
  have hHf := Keep.mk (heap_take hH)
  have T2' := Keep.mk (T1.out.trans T2)
  clear A2 A2' T2 P2 hb1 hb2 hS hH hsp hdn T1
  go_wp2_with (go_at_call 42; refine hpp.out.mono ?_)
  first | rintro e w3 v3 rfl A3 T3 | rintro e w3 ⟨v3, rfl, A3, T3⟩
  have hfin : Took base l m v x es w w3 := ⟨v3, _, ⟨A3, hHf.out⟩, T2'.out.trans T3, hPf.out⟩
  replace hfin := Keep.mk hfin
  clear A3 T3 hpp
  go_wp2
  go_ret
  exact ⟨rfl, hfin.out⟩
set_option maxHeartbeats 1000000 in
set_option maxRecDepth 1000000 in
theorem Try.hFix_walk {w : World} {base l m : Nat} {v : Value} {es : List Ent} (h : LAt w base l m v es) (hsm : es.length ≤ 1000) {i : Nat} (hi : i < es.length) (hD : DownInv es es.length i i) :
    Calls Try.prog 16 #[.iface 49 (.pointer (some ⟨l, 0, none⟩)), .int .i64 i] w fun r w' => r = .returned (.tuple #[]) ∧ Left_ base l m v es w w' := by
  have hl := Keep.mk (Try.Len_walk h)
  have hdn := Keep.mk (Try.down_walk h hsm (Nat.le_refl _) (Nat.le_of_lt hi) hD)
  replace h := Keep.mk h
  replace hD := Keep.mk hD
  generalize hn : es.length = n at *
  go_enter Try.func16, Try.ntmps16
  go_wp2_with (first | (go_at_call 40; refine hl.out.mono ?_; rintro x w2 ⟨rfl, hw2⟩; replace hw2 := hw2.symm; subst hw2) | (go_at_call 20; refine hdn.out.mono ?_))
  rintro e w2 ⟨es2, b2, rfl, A2, T2, P2, hb1, hb2, _⟩
  have hlen2 := P2.length_eq
  clear hl hdn
  cases b2 with
  | true =>
    have hfin : Left_ base l m v es w w2 := ⟨v, es2, ⟨A2, by rw [hlen2, hn]; exact hb1 rfl⟩, T2, P2⟩
    replace hfin := Keep.mk hfin
    clear A2 T2 P2 hb1 hb2
    go_wp2
    go_returns
    exact ⟨rfl, hfin.out⟩
  | false =>
    have hup := Keep.mk (Try.up_walk A2 (by omega) (n := n) (j := i) (by omega) hi (hb2 rfl))
    replace T2 := Keep.mk T2
    replace P2 := Keep.mk P2
    clear A2 hb1 hb2
    go_wp2_with (go_at_call 21; refine hup.out.mono ?_)
    first | rintro e w3 es3 rfl A3 T3 P3 H3 _ | rintro e w3 ⟨es3, rfl, A3, T3, P3, H3, _⟩
    have hlen3 := P3.length_eq
    have hfin : Left_ base l m v es w w3 := ⟨v, es3, ⟨A3, by rw [hlen3, hlen2, hn]; exact H3⟩, T2.out.trans T3, P3.trans P2.out⟩
    replace hfin := Keep.mk hfin
    clear A3 T3 P3 H3 hup
    go_wp2
    go_returns
    exact ⟨rfl, hfin.out⟩
end Go.Proofs.Ytdohclfkbfeihaa
