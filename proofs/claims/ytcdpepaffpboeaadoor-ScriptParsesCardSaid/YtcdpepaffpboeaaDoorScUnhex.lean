/- script.Unhex, walked. -/
import Derived.Test.YtcdpepaffpboeaaDoorScHex
import Derived.Shelf.Small.Strs
import Derived.Shelf.Lay
import Derived.Deep.Quiet
import Derived.Deep.QuietTactic
namespace Go.Proofs
open Go.RowKit Go.Shelf
/-- The place of a byte among the digits; -1 if it is none. -/
def digv (c : UInt8) : Int := Lib.indexByte digs.data.toList c
theorem Tryd.IndexByte (c : Int) (w : World) : Calls Tryd.prog 26 #[.string ⟨#[48, 49, 50, 51, 52, 53, 54, 55, 56, 57, 97, 98, 99, 100, 101, 102]⟩, .int .u8 c] w fun e w' => e = .returned (.int .i64 (digv c.toNat.toUInt8)) ∧ w' = w :=
  Any.strings_IndexByte Tryd.lays137 digs c w
theorem toL (s : ByteArray) : s.toList = s.data.toList := by
  obtain ⟨⟨l⟩⟩ := s
  simp
theorem digv_all : ∀ n : Fin 256, -1 ≤ digv (UInt8.ofNat n.1) ∧ digv (UInt8.ofNat n.1) < 16 := by decide +kernel
theorem digv_bound (c : UInt8) : -1 ≤ digv c ∧ digv c < 16 := by
  have := digv_all ⟨c.toNat, c.toNat_lt⟩
  simpa using this
def nibs (x y : Int) : UInt8 := UInt8.ofNat (16 * x.toNat + y.toNat)
theorem bits_all : ∀ n : Fin 16, ∀ m : Fin 16, bits BinOp.or IntKind.i64 ((n.1 : Int) * 16) (m.1 : Int) % 256 = ((nibs n.1 m.1).toNat : Int) := by decide +kernel
theorem bits_nibs (x y : Int) (h0 : 0 ≤ x) (h1 : x < 16) (g0 : 0 ≤ y) (g1 : y < 16) : bits BinOp.or IntKind.i64 (x * 16) y % 256 = ((nibs x y).toNat : Int) := by
  have := bits_all ⟨x.toNat, by omega⟩ ⟨y.toNat, by omega⟩
  simp only [Int.toNat_of_nonneg h0, Int.toNat_of_nonneg g0] at this
  exact this
def unhexL : List UInt8 → Option (List UInt8)
  | [] => some []
  | [_] => none
  | a :: b :: l => if digv a < 0 ∨ digv b < 0 then none else (unhexL l).map (nibs (digv a) (digv b) :: ·)
theorem unhexL_app : ∀ (l m : List UInt8), l.length % 2 = 0 → unhexL (l ++ m) = (unhexL l).bind fun a => (unhexL m).map (a ++ ·)
  | [], m, _ => by simp [unhexL]
  | [_], m, h => by simp at h
  | a :: b :: l, m, h => by
    have ih := unhexL_app l m (by simp at h; omega)
    simp only [List.cons_append, unhexL]
    split
    · rfl
    · rw [ih]
      cases unhexL l <;> cases unhexL m <;> rfl
theorem unhexL_odd : ∀ (l : List UInt8), l.length % 2 = 1 → unhexL l = none
  | [], h => by simp at h
  | [_], _ => rfl
  | a :: b :: l, h => by
    have ih := unhexL_odd l (by simp at h; omega)
    simp only [unhexL, ih]
    split <;> rfl
theorem take_two (s : ByteArray) (k : Nat) (h : k < s.size) (h1 : k + 1 < s.size) : s.data.toList.take (k + 2) = s.data.toList.take k ++ [s[k], s[k + 1]] := by
  rw [show k + 2 = (k + 1) + 1 from rfl, take_succ_byte s (k + 1) h1, take_succ_byte s k h, List.append_assoc]
  rfl
theorem take_even (s : ByteArray) (k : Nat) (h : k ≤ s.size) (e : k % 2 = 0) : (s.data.toList.take k).length % 2 = 0 := by
  rw [List.length_take_of_le (by simpa using h)]
  exact e
theorem unhex_step (s : ByteArray) (k : Nat) (h : k < s.size) (h1 : k + 1 < s.size) (e : k % 2 = 0) {acc : List UInt8} (ha : unhexL (s.data.toList.take k) = some acc) (x0 : 0 ≤ digv s[k]) (y0 : 0 ≤ digv s[k + 1]) :
    unhexL (s.data.toList.take (k + 2)) = some (acc ++ [nibs (digv s[k]) (digv s[k + 1])]) := by
  rw [take_two s k h h1, unhexL_app _ _ (take_even s k (Nat.le_of_lt h) e), ha]
  simp only [Option.bind_some, unhexL]
  rw [if_neg (by omega)]
  rfl
theorem unhex_bad (s : ByteArray) (k : Nat) (h : k < s.size) (h1 : k + 1 < s.size) (e : k % 2 = 0) (hb : digv s[k] < 0 ∨ digv s[k + 1] < 0) : unhexL s.data.toList = none := by
  have := List.take_append_drop (k + 2) s.data.toList
  rw [← this, take_two s k h h1, List.append_assoc, unhexL_app _ _ (take_even s k (Nat.le_of_lt h) e)]
  cases unhexL (s.data.toList.take k) with
  | none => rfl
  | some a =>
    simp only [Option.bind_some, List.cons_append, unhexL]
    rw [if_pos hb]
    rfl
/-- What Unhex says. -/
def unhexS (s : ByteArray) : Option (List UInt8) := if (s.toList == [45]) = true then some [] else if s.toList = [] then none else unhexL s.data.toList
def unhexV (s : ByteArray) : Value := match unhexS s with
  | some l => .tuple #[.string ⟨l.toArray⟩, .bool true]
  | none => .tuple #[.string ⟨#[]⟩, .bool false]
theorem unhexV_none {s : ByteArray} (h : unhexS s = none) : unhexV s = .tuple #[.string ⟨#[]⟩, .bool false] := by unfold unhexV; rw [h]
theorem unhexV_some {s : ByteArray} {l : List UInt8} (h : unhexS s = some l) : unhexV s = .tuple #[.string ⟨l.toArray⟩, .bool true] := by unfold unhexV; rw [h]
theorem unhexS_long {s : ByteArray} (h : (s.toList == [45]) = false) (h0 : ¬ s.toList = []) : unhexS s = unhexL s.data.toList := by
  unfold unhexS
  rw [if_neg (by rw [h]; exact Bool.false_ne_true), if_neg h0]
set_option maxHeartbeats 2000000 in
set_option maxRecDepth 1000000 in
theorem Tryd.Unhex_walk (s : ByteArray) (w : World) (hs : s.size ≤ 35184372088832) :
    Calls Tryd.prog 13 #[.string s] w fun e w' => e = .returned (unhexV s) ∧ Below w.heap.size w w' := by
  go_enter Tryd.func13, Tryd.ntmps13
  go_wp2
  · go_ret2
    rename_i h
    have he : unhexS s = some [] := by unfold unhexS; rw [if_pos h]
    exact ⟨by rw [unhexV_some he]; rfl, Below.refl _ _⟩
  · go_ret2
    have h : (s.toList == [45]) = false := by assumption
    have h0 : s.toList = [] := by assumption
    have he : unhexS s = none := by unfold unhexS; rw [if_neg (by rw [h]; exact Bool.false_ne_true), if_pos h0]
    exact ⟨by rw [unhexV_none he]; rfl, Below.refl _ _⟩
  · go_ret2
    have h : (s.toList == [45]) = false := by assumption
    have h0 : ¬ s.toList = [] := by assumption
    have h1 : s.toList.isEmpty = true ∨ ((s.size : Int) % 2 != 0) = true := by assumption
    have he : unhexS s = none := by
      rw [unhexS_long h h0]
      refine unhexL_odd _ ?_
      have hz : s.data.toList.length = s.size := Array.length_toList
      rw [hz]
      have hm : s.toList.isEmpty = false := by cases hl : s.toList with
        | nil => exact absurd hl h0
        | cons => rfl
      rw [hm] at h1
      simp at h1
      omega
    exact ⟨by rw [unhexV_none he]; rfl, Below.refl _ _⟩
  · have hne : (s.toList == [45]) = false := by assumption
    have hem : ¬ s.toList = [] := by assumption
    have hod : s.toList.isEmpty = false ∧ ((s.size : Int) % 2 != 0) = false := by assumption
    have hev : s.size % 2 = 0 := by
      have := hod.2
      simp at this
      omega
    have hlong := unhexS_long hne hem
    simp only [hod.1, hod.2, Bool.false_or]
    go_loopw [5] (fun v wr => ∃ k : Nat, v = .int .i64 (k : Int) ∧ k ≤ s.size ∧ k % 2 = 0 ∧ ∃ acc : List UInt8, unhexL (s.data.toList.take k) = some acc ∧ acc.length ≤ k ∧ Lib.IsBuilderF 62 5 w.heap.size w.heap.size (Lib.byteCells acc) wr ∧ Below w.heap.size w wr) (fun v _ => s.size - (intOf v).toNat)
    case atStart =>
      exact ⟨0, rfl, Nat.zero_le _, rfl, [], rfl, Nat.le_refl _, (Lib.IsBuilderF.of (Lib.fresh_isBuilder 62 5 w)), ((Below.refl _ w).alloc (Nat.le_refl _) _)⟩
    case round =>
      obtain ⟨k, rfl, hk, hk2, acc, hac, hal, hI, hb⟩ := hrel
      have hB := hb.size
      by_cases hp : k < s.size
      · have hp1 : k + 1 < s.size := by omega
        have x0 : IntKind.i64.wrap ((k : Int) + 1) = (k : Int) + 1 := by rw [IntKind.wrap_i64]; omega
        have x1 : ∀ w1, (Instr.index 9 (.string s) (.int .i64 (k : Int))).run Tryd.prog w1 = .ok (.int .u8 (s[k]).toNat) w1 := by
          intro w1
          rw [run_index_string w1 9 s .i64 _ Tryd.underlying9, dif_pos ⟨by omega, by omega⟩]
          simp only [Int.toNat_natCast]
        have x2 : ∀ w1, (Instr.index 9 (.string s) (.int .i64 ((k : Int) + 1))).run Tryd.prog w1 = .ok (.int .u8 (s[k + 1]).toNat) w1 := by
          intro w1
          rw [run_index_string w1 9 s .i64 _ Tryd.underlying9, dif_pos ⟨by omega, by omega⟩]
          rfl
        go_wp2
        go_quiet ((go_at_call 26; exact Calls.quiet_of_same (Tryd.IndexByte _ _)))
        rename_i nq
        have hI2 : Lib.IsBuilderF 62 5 w.heap.size w.heap.size (Lib.byteCells acc) (wr.drewN nq) := hI
        have hb2 : Below w.heap.size w (wr.drewN nq) := ⟨hb.os, hb.tape, hb.output, hb.size, hb.block⟩
        have hstep := unhex_step s k hp hp1 hk2 hac
        have hbad := unhex_bad s k hp hp1 hk2
        have bx := digv_bound s[k]
        have bY := digv_bound s[k + 1]
        generalize digv s[k] = x at *
        generalize digv s[k + 1] = y at *
        go_wp2_with (go_at_call 27; refine (Tryd.WriteByte_k w.heap.size w.heap.size _ _ _ hI2 (by rw [Lib.byteCells_length]; omega) hB).mono ?_)
        · go_ret2
          rename_i hxy
          have he : unhexS s = none := by rw [hlong]; exact hbad hxy
          exact ⟨by rw [unhexV_none he]; rfl, hb2⟩
        · rintro e W1 ⟨rfl, h1, b1, k1⟩
          have hx0 : 0 ≤ x ∧ 0 ≤ y := by assumption
          go_wp2
          go_roundw
          case rel =>
            have R : ((k : Int) + 2 = ((k + 2 : Nat) : Int)) ∧ k + 2 ≤ s.size ∧ (k + 2) % 2 = 0 ∧ ∃ acc : List UInt8, unhexL (s.data.toList.take (k + 2)) = some acc ∧ acc.length ≤ k + 2 ∧ Lib.IsBuilderF 62 5 w.heap.size w.heap.size (Lib.byteCells acc) W1 ∧ Below w.heap.size w W1 := by
              refine ⟨by omega, by omega, by omega, _, hstep hx0.1 hx0.2, by rw [List.length_append, List.length_singleton]; omega, ?_, hb2.trans b1⟩
              rw [Lib.byteCells_append]
              rw [bits_nibs x y hx0.1 bx.2 hx0.2 bY.2] at h1
              exact Or.inr h1
            first
              | exact ⟨k + 2, by rw [← R.1], R.2⟩
              | ((repeat apply Exists.intro); exact ⟨⟨k + 2, by rw [← R.1], R.2⟩, rfl⟩)
          case measure =>
            simp [intOf]
            omega
        · go_ret2
          rename_i hxy
          have he : unhexS s = none := by rw [hlong]; exact hbad (Or.inl hxy)
          exact ⟨by rw [unhexV_none he]; rfl, hb2⟩
      · have hk : k = s.size := by omega
        go_wp2_with (go_at_call 28; refine (Tryd.String_k w.heap.size w.heap.size _ _ hI hB).mono ?_)
        rintro e W1 ⟨rfl, _, b1, _⟩
        go_wp2
        go_ret2
        refine ⟨?_, hb.trans b1⟩
        have he : unhexS s = some acc := by rw [hlong, ← hac, hk, List.take_of_length_le (show s.data.toList.length ≤ s.size from Nat.le_of_eq Array.length_toList)]
        rw [unhexV_some he]
        rfl
end Go.Proofs
