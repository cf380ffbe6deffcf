/- script.number, walked: a number in its one form. -/
import Derived.Test.YtcdpepaffpboeaaDoorScUnhex
import Derived.Shelf.Strconv.AtoiAll
import Derived.Shelf.Strconv.Itoa3
import Derived.Lib.AppendIntMem
import Derived.Shelf.Lay
namespace Go.Proofs
open Go.RowKit Go.Shelf
theorem Tryd.Itoa_small (i : Nat) (hi : i < 100) (w : World) : Calls Tryd.prog 18 #[.int .i64 i] w fun e w' => e = .returned (.string ⟨(Lib.decDigits i).toArray⟩) ∧ w' = w :=
  Any.strconv_Itoa_small { Tryd.laysItoa with } i hi w
theorem Tryd.Itoa (n : Int) (h0 : -9223372036854775808 ≤ n) (h1 : n ≤ 9223372036854775807) (w : World) (htab : Lib.TabIs Tryd.prog w "internal/strconv.uint64pow10" .u64 Lib.pow10Tab) :
    Calls Tryd.prog 18 #[.int .i64 n] w fun e w' => e = .returned (.string ⟨(Lib.itoa n).toArray⟩) ∧ Below w.heap.size w w' :=
  (Any.strconv_Itoa Tryd.laysItoa n h0 h1 w htab).mono fun e w' ⟨he, k, os, hw⟩ => ⟨he, by rw [hw]; exact Lib.below_grow _ w (Nat.le_refl _) k os⟩
theorem Tryd.Atoi_ok (s : ByteArray) (hmax : s.size ≤ 9223372036854775806) (v : Int) (h : Lib.atoiAll s.data.toList = .ok v) (w : World) :
    Calls Tryd.prog 42 #[.string s] w fun e w' => e = .returned (.tuple #[.int .i64 v, .nilIface]) ∧ Below w.heap.size w w' :=
  (Any.strconv_Atoi_ok Tryd.laysAtoi s hmax v h w).mono fun e w' ⟨he, hw⟩ => ⟨he, by
    rcases hw with rfl | ⟨t, rfl⟩
    · exact Below.refl _ _
    · exact Lib.bytesWorld_below _ _ _⟩
/-- Atoi of a text that is no number: some number and an error that is none of nil. -/
theorem Tryd.Atoi_bad (s : ByteArray) (hlim : s.size ≤ 281474976710656) (h : ∀ v, Lib.atoiAll s.data.toList ≠ .ok v) (w : World) (hv : ∃ tp p, w.cell? ⟨6, 0, none⟩ = some (.iface tp p)) (hr : ∃ tp p, w.cell? ⟨7, 0, none⟩ = some (.iface tp p)) :
    Calls Tryd.prog 42 #[.string s] w fun e w' => ∃ m x, e = .returned (.tuple #[.int .i64 m, .iface (Tryd.laysAtoi_ren.t 168) x]) ∧ Below w.heap.size w w' := by
  obtain ⟨tp, p, hv⟩ := hv
  obtain ⟨tp', p', hr⟩ := hr
  cases hx : Lib.atoiAll s.data.toList
  · exact absurd hx (h _)
  · exact (Any.strconv_Atoi_syntax Tryd.laysAtoi s hlim hx _ w hv (Or.inr ⟨tp, p, rfl⟩)).mono fun e w' ⟨N, he, _, _, hb⟩ => ⟨_, _, he, hb⟩
  · exact (Any.strconv_Atoi_range Tryd.laysAtoi s hlim hx _ w hr (Or.inr ⟨tp', p', rfl⟩)).mono fun e w' ⟨N, he, _, _, hb⟩ => ⟨_, _, he, hb⟩
set_option maxHeartbeats 2000000 in
set_option maxRecDepth 1000000 in
theorem Tryd.number_small (s : ByteArray) (hmax : s.size ≤ 9223372036854775806) (i : Nat) (hi : i < 100) (h : Lib.atoiAll s.data.toList = .ok (i : Int)) (w : World) :
    Calls Tryd.prog 33 #[.string s] w fun e w' => e = .returned (.tuple #[.int .i64 i, .bool (Lib.decDigits i == s.data.toList)]) ∧ Below w.heap.size w w' := by
  go_enter Tryd.func33, Tryd.ntmps33
  go_wp2_with (go_at_call 42; refine (Tryd.Atoi_ok s hmax _ h _).mono ?_)
  rintro e w1 ⟨rfl, b1⟩
  go_wp2_with (go_at_call 18; refine (Tryd.Itoa_small i hi _).mono ?_)
  rintro e w2 ⟨rfl, rfl⟩
  go_wp2
  go_ret2
  refine ⟨?_, b1⟩
  rw [toL]
  rfl
/-- A number in its one form. -/
def numOk (l : List UInt8) : Option Int := match Lib.atoiAll l with
  | .ok v => if Lib.itoa v = l then some v else none
  | _ => none
theorem numOk_ok {l : List UInt8} {v : Int} (h : Lib.atoiAll l = .ok v) : numOk l = if Lib.itoa v = l then some v else none := by unfold numOk; rw [h]
theorem numOk_bad {l : List UInt8} (h : ∀ v, Lib.atoiAll l ≠ .ok v) : numOk l = none := by
  unfold numOk
  split
  · rename_i v hv
    exact absurd hv (h v)
  · rfl
theorem atoiAll_range {l : List UInt8} {v : Int} (h : Lib.atoiAll l = .ok v) : -9223372036854775808 ≤ v ∧ v ≤ 9223372036854775807 := by
  unfold Lib.atoiAll at h
  split at h
  · cases h
  · simp only at h
    split at h
    · cases h
    · cases h
    · rename_i u hu
      split at h
      · cases h
      · split at h
        · cases h
        · cases h
          split <;> omega
set_option maxHeartbeats 2000000 in
set_option maxRecDepth 1000000 in
theorem Tryd.number_walk (s : ByteArray) (hmax : s.size ≤ 281474976710656) (w : World) (hv : ∃ tp p, w.cell? ⟨6, 0, none⟩ = some (.iface tp p)) (hr : ∃ tp p, w.cell? ⟨7, 0, none⟩ = some (.iface tp p))
    (htb : ∀ w', Below w.heap.size w w' → Lib.TabIs Tryd.prog w' "internal/strconv.uint64pow10" .u64 Lib.pow10Tab) :
    Calls Tryd.prog 33 #[.string s] w fun e w' => (∃ m : Int, e = .returned (.tuple #[.int .i64 m, .bool (numOk s.data.toList).isSome]) ∧ ∀ v, numOk s.data.toList = some v → m = v) ∧ Below w.heap.size w w' := by
  by_cases hx : ∃ v, Lib.atoiAll s.data.toList = .ok v
  · obtain ⟨v, hx⟩ := hx
    have hrg := atoiAll_range hx
    have hn := numOk_ok hx
    go_enter Tryd.func33, Tryd.ntmps33
    go_wp2_with (go_at_call 42; refine (Tryd.Atoi_ok s (by omega) _ hx _).mono ?_)
    rintro e w1 ⟨rfl, b1⟩
    have htb1 := htb w1 b1
    go_wp2_with (go_at_call 18; refine (Tryd.Itoa v hrg.1 hrg.2 w1 htb1).mono ?_)
    rintro e w2 ⟨rfl, b2⟩
    clear htb htb1
    go_wp2
    go_ret2
    refine ⟨⟨v, ?_, fun v' h => ?_⟩, below_next b1 b2⟩
    · have e : (numOk s.data.toList).isSome = (Lib.itoa v == s.toList) := by
        rw [hn, toL]
        by_cases hq : Lib.itoa v = s.data.toList
        · rw [if_pos hq, hq]; simp
        · rw [if_neg hq, beq_false_of_ne hq]; rfl
      rw [e]
      rfl
    · rw [hn] at h
      split at h
      · exact Option.some.inj h
      · cases h
  · have hx : ∀ v, Lib.atoiAll s.data.toList ≠ .ok v := fun v h => hx ⟨v, h⟩
    have hn := numOk_bad hx
    clear htb
    go_enter Tryd.func33, Tryd.ntmps33
    go_wp2_with (go_at_call 42; refine (Tryd.Atoi_bad s hmax hx _ hv hr).mono ?_)
    rintro e w1 ⟨m, x, rfl, b1⟩
    go_wp2
    go_ret2
    rw [hn]
    exact ⟨⟨m, rfl, fun v h => by cases h⟩, b1⟩
end Go.Proofs
