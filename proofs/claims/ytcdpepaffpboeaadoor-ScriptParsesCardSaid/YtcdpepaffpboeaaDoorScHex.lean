/- script.Hex, walked. -/
import Derived.Test.YtcdpepaffpboeaaDoorScBuild
namespace Go.Proofs
open Go.RowKit
/-- The sign of a number below 16. -/
def dig (n : Nat) : UInt8 := if n < 10 then UInt8.ofNat (48 + n) else UInt8.ofNat (87 + n)
def hexL : List UInt8 → List UInt8
  | [] => []
  | b :: l => dig (b.toNat / 16) :: dig (b.toNat % 16) :: hexL l
def hexS (s : ByteArray) : ByteArray := if s.toList.isEmpty then ⟨#[45]⟩ else ⟨(hexL s.data.toList).toArray⟩
theorem hexL_append : ∀ (a b : List UInt8), hexL (a ++ b) = hexL a ++ hexL b
  | [], b => rfl
  | x :: a, b => by simp [hexL, hexL_append a b]
theorem hexL_length : ∀ (a : List UInt8), (hexL a).length = 2 * a.length
  | [] => rfl
  | x :: a => by simp only [hexL, List.length_cons, hexL_length a]; omega
abbrev digs : ByteArray := ⟨#[48, 49, 50, 51, 52, 53, 54, 55, 56, 57, 97, 98, 99, 100, 101, 102]⟩
theorem digs_get (n : Nat) (h : n < digs.size) : digs[n] = dig n := by
  have : ∀ m : Fin 16, digs[m.1]'m.2 = dig m.1 := by decide
  exact this ⟨n, h⟩
theorem Tryd.run_digs (w : World) (n : Nat) (h : n < 16) : (Instr.index 9 (.string ⟨#[48, 49, 50, 51, 52, 53, 54, 55, 56, 57, 97, 98, 99, 100, 101, 102]⟩) (.int .u8 (n : Int))).run Tryd.prog w = .ok (.int .u8 (dig n).toNat) w := by
  rw [run_index_string w 9 digs .u8 n Tryd.underlying9, dif_pos ⟨by omega, by show (n : Int) < (16 : Int); omega⟩]
  have := digs_get n h
  simp only [Int.toNat_natCast, this]
theorem take_succ_byte (s : ByteArray) (k : Nat) (h : k < s.size) : s.data.toList.take (k + 1) = s.data.toList.take k ++ [s[k]] := by
  have h' : k < s.data.toList.length := by simpa using h
  rw [← List.take_append_getElem h']
  rfl
theorem hex_step (s : ByteArray) (k : Nat) (h : k < s.size) (n1 : s[k].toNat / 16 < digs.size) (n2 : s[k].toNat % 16 < digs.size) :
    Lib.byteCells (hexL (s.data.toList.take (k + 1))) = (Lib.byteCells (hexL (s.data.toList.take k)) ++ [.int .u8 (digs[s[k].toNat / 16]).toNat]) ++ [.int .u8 (digs[s[k].toNat % 16]).toNat] := by
  rw [take_succ_byte s k h, hexL_append, digs_get _ n1, digs_get _ n2, Lib.byteCells_append, List.append_assoc]
  rfl
set_option maxHeartbeats 4000000 in
set_option maxRecDepth 1000000 in
theorem Tryd.Hex_walk (s : ByteArray) (w : World) (hs : s.size ≤ 35184372088832) :
    Calls Tryd.prog 14 #[.string s] w fun e w' => e = .returned (.string (hexS s)) ∧ Below w.heap.size w w' := by
  go_enter Tryd.func14, Tryd.ntmps14
  go_wp2
  · go_ret
    rename_i h
    exact ⟨by simp [hexS, h], Below.refl _ _⟩
  · have he : s.toList.isEmpty = false := by assumption
    rw [he]
    go_loopw [9] (fun v wr => ∃ k : Nat, v = .int .i64 k ∧ k ≤ s.size ∧ Lib.IsBuilderF 62 5 w.heap.size w.heap.size (Lib.byteCells (hexL (s.data.toList.take k))) wr ∧ Below w.heap.size w wr) (fun v _ => s.size - (intOf v).toNat)
    case atStart =>
      exact ⟨0, rfl, Nat.zero_le _, (Lib.IsBuilderF.of (Lib.fresh_isBuilder 62 5 w)), ((Below.refl _ w).alloc (Nat.le_refl _) _)⟩
    case round =>
      obtain ⟨k, rfl, hk, hI, hb⟩ := hrel
      have hB := hb.size
      have hl : (Lib.byteCells (hexL (s.data.toList.take k))).length + 1 ≤ 140737488355328 := by
        rw [Lib.byteCells_length, hexL_length]
        have : (s.data.toList.take k).length ≤ k := List.length_take_le _ _
        omega
      by_cases hp : k < s.size
      · have hq : s[k].toNat < 256 := s[k].toNat_lt
        have x1 := Tryd.run_digs wr (s[k].toNat / 16) (by omega)
        rw [Int.natCast_ediv] at x1
        go_wp2_with (go_at_call 27; refine (Tryd.WriteByte_k w.heap.size w.heap.size _ _ _ hI hl hB).mono ?_)
        rintro e W1 ⟨rfl, h1, b1, k1⟩
        have hl2 := hl
        go_wp2_with (go_at_call 27; refine (Tryd.WriteByte_k w.heap.size w.heap.size _ _ _ (Or.inr h1) (by rw [List.length_append, Lib.byteCells_length, hexL_length]; have : (s.data.toList.take k).length ≤ k := List.length_take_le _ _; simp only [List.length_singleton]; omega) (by have := b1.size; omega)).mono ?_)
        rintro e W2 ⟨rfl, h2, b2, k2⟩
        go_wp2
        go_roundw
        case rel =>
          have R : ((k : Int) + 1 = ((k + 1 : Nat) : Int)) ∧ k + 1 ≤ s.size ∧ Lib.IsBuilderF 62 5 w.heap.size w.heap.size (Lib.byteCells (hexL (s.data.toList.take (k + 1)))) W2 ∧ Below w.heap.size w W2 :=
            ⟨by omega, by omega, by rw [hex_step s k hp (by show _ < 16; omega) (by show _ < 16; omega)]; exact Or.inr h2, (hb.trans b1).trans b2⟩
          first
            | exact ⟨k + 1, by rw [← R.1], R.2⟩
            | ((repeat apply Exists.intro); exact ⟨⟨k + 1, by rw [← R.1], R.2⟩, rfl⟩)
        case measure =>
          simp [intOf]
          omega
      · have hk : k = s.size := by omega
        go_wp2_with (go_at_call 28; refine (Tryd.String_k w.heap.size w.heap.size _ _ hI hB).mono ?_)
        rintro e W1 ⟨rfl, _, b1, _⟩
        go_wp2
        go_ret
        refine ⟨?_, hb.trans b1⟩
        have e : hexS s = ⟨(hexL (List.take s.size s.data.toList)).toArray⟩ := by
          rename_i he
          have hne : s.toList.isEmpty = false := by assumption
          unfold hexS
          have h2 : List.take s.size s.data.toList = s.data.toList := List.take_of_length_le (Nat.le_of_eq (Array.length_toList))
          rw [hne, h2]
          rfl
        rw [e]
        subst hk
        rfl
end Go.Proofs
