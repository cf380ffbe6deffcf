/- the law's own hex, walked. -/
import Derived.Test.YtcdpepaffpboeaaDoorScUnhex
namespace Go.Proofs
open Go.RowKit Go.Shelf
theorem dig_slice_all : ∀ n : Fin 16, digs.extract n.1 (n.1 + 1) = ⟨#[dig n.1]⟩ := by decide +kernel
theorem Tryd.slice_digs (n : Nat) (h : n < 16) (w : World) : (Instr.slice 9 (.string ⟨#[48, 49, 50, 51, 52, 53, 54, 55, 56, 57, 97, 98, 99, 100, 101, 102]⟩) (some (.int .u8 (n : Int))) (some (.int .u8 ((n : Int) + 1))) none).run Tryd.prog w = .ok (.string ⟨#[dig n]⟩) w := by
  rw [run_slice_string w 9 digs .u8 .u8 (n : Int) ((n : Int) + 1) Tryd.underlying9 (by omega) (by omega) (by show (n : Int) + 1 ≤ (16 : Int); omega)]
  have := dig_slice_all ⟨n, h⟩
  simp only at this
  rw [← this]
  rfl
theorem add_lists {P : Program} (x y : List UInt8) (h : x.length + y.length ≤ 9223372036854775807) (w : World) : (Op.stringOp .add ⟨x.toArray⟩ ⟨y.toArray⟩).run P w = .ok (.string ⟨(x ++ y).toArray⟩) w := by
  rw [run_string_add_sum w _ _ (by simpa [ByteArray.size] using h), ByteArray.mk_append_mk]
theorem hexL_step (s : ByteArray) (k : Nat) (h : k < s.size) : hexL (s.data.toList.take (k + 1)) = (hexL (s.data.toList.take k) ++ [dig (s[k].toNat / 16)]) ++ [dig (s[k].toNat % 16)] := by
  rw [take_succ_byte s k h, hexL_append, List.append_assoc]
  rfl
set_option maxHeartbeats 2000000 in
set_option maxRecDepth 1000000 in
theorem Tryd.hex_walk (s : ByteArray) (w : World) (hs : s.size ≤ 140737488355328) :
    Calls Tryd.prog 15 #[.string s] w fun e w' => e = .returned (.string (hexS s)) ∧ Below w.heap.size w w' := by
  go_enter Tryd.func15, Tryd.ntmps15
  go_wp2
  · go_ret
    have hz : s.size = 0 := by
      have h0 : ((s.size : Int) == 0) = true := by assumption
      have := eq_of_beq h0
      omega
    refine ⟨?_, Below.refl _ _⟩
    have he : s.toList.isEmpty = true := by
      rw [toL]
      have : s.data.toList.length = 0 := hz ▸ Array.length_toList
      rw [List.isEmpty_iff, ← List.length_eq_zero_iff]
      exact this
    unfold hexS
    rw [he]
    rfl
  · have hz : ¬ s.size = 0 := by
      have h0 : ((s.size : Int) == 0) = false := by assumption
      have := ne_of_beq_false h0
      omega
    have he : s.toList.isEmpty = false := by
      rw [toL]
      have : s.data.toList.length ≠ 0 := fun h => hz (h ▸ Array.length_toList.symm)
      cases hl : s.data.toList with
      | nil => rw [hl] at this; exact absurd rfl this
      | cons => rfl
    go_loopw [3, 4] (fun v3 v4 wr => ∃ k : Nat, v4 = .int .i64 (k : Int) ∧ v3 = .string ⟨(hexL (s.data.toList.take k)).toArray⟩ ∧ k ≤ s.size ∧ Below w.heap.size w wr) (fun _ v _ => s.size - (intOf v).toNat)
    case atStart =>
      exact ⟨0, rfl, rfl, Nat.zero_le _, Below.refl _ _⟩
    case round =>
      obtain ⟨k, rfl, rfl, hk, hb⟩ := hrel
      by_cases hp : k < s.size
      · have x1 : ∀ w1, (Instr.index 9 (.string s) (.int .i64 (k : Int))).run Tryd.prog w1 = .ok (.int .u8 (s[k]).toNat) w1 := by
          intro w1
          rw [run_index_string w1 9 s .i64 _ Tryd.underlying9, dif_pos ⟨by omega, by omega⟩]
          simp only [Int.toNat_natCast]
        have hstep := hexL_step s k hp
        have hq : s[k].toNat < 256 := s[k].toNat_lt
        have hl : (hexL (s.data.toList.take k)).length ≤ 2 * k := by
          rw [hexL_length]
          have : (s.data.toList.take k).length ≤ k := List.length_take_le _ _
          omega
        generalize hc : s[k].toNat = c at *
        generalize hL : hexL (s.data.toList.take k) = L at *
        have d1 : ∀ w1, (Instr.slice 9 (.string ⟨#[48, 49, 50, 51, 52, 53, 54, 55, 56, 57, 97, 98, 99, 100, 101, 102]⟩) (some (.int .u8 ((c : Int) / 16))) (some (.int .u8 ((c : Int) / 16 + 1))) none).run Tryd.prog w1 = .ok (.string ⟨#[dig (c / 16)]⟩) w1 := Tryd.slice_digs (c / 16) (by omega)
        have d2 : ∀ w1, (Instr.slice 9 (.string ⟨#[48, 49, 50, 51, 52, 53, 54, 55, 56, 57, 97, 98, 99, 100, 101, 102]⟩) (some (.int .u8 ((c : Int) % 16))) (some (.int .u8 ((c : Int) % 16 + 1))) none).run Tryd.prog w1 = .ok (.string ⟨#[dig (c % 16)]⟩) w1 := Tryd.slice_digs (c % 16) (by omega)
        have a1 : ∀ w1, (Op.stringOp .add ⟨L.toArray⟩ ⟨#[dig (c / 16)]⟩).run Tryd.prog w1 = .ok (.string ⟨(L ++ [dig (c / 16)]).toArray⟩) w1 := add_lists L [dig (c / 16)] (by simp only [List.length_singleton]; omega)
        have a2 : ∀ w1, (Op.stringOp .add ⟨(L ++ [dig (c / 16)]).toArray⟩ ⟨#[dig (c % 16)]⟩).run Tryd.prog w1 = .ok (.string ⟨((L ++ [dig (c / 16)]) ++ [dig (c % 16)]).toArray⟩) w1 := add_lists (L ++ [dig (c / 16)]) [dig (c % 16)] (by simp only [List.length_append, List.length_singleton]; omega)
        generalize dig (c / 16) = g1 at *
        generalize dig (c % 16) = g2 at *
        generalize hM : L ++ [g1] = M at *
        generalize hN : M ++ [g2] = N at *
        go_wp2
        go_region
        go_wp2
        go_roundw
        case rel =>
          have R : ((k : Int) + 1 = ((k + 1 : Nat) : Int)) ∧ k + 1 ≤ s.size ∧ Below w.heap.size w wr.drew := ⟨by omega, by omega, hb.drew⟩
          first
            | exact ⟨k + 1, by rw [← R.1], by rw [hstep], R.2⟩
            | ((repeat apply Exists.intro); exact ⟨⟨k + 1, by rw [← R.1], by rw [hstep], R.2⟩, rfl⟩)
        case measure =>
          simp [intOf]
          omega
      · have hk : k = s.size := by omega
        go_wp2
        go_ret
        refine ⟨?_, hb⟩
        have e : hexS s = ⟨(hexL (List.take s.size s.data.toList)).toArray⟩ := by
          unfold hexS
          have h2 : List.take s.size s.data.toList = s.data.toList := List.take_of_length_le (Nat.le_of_eq (Array.length_toList))
          rw [he, h2]
          rfl
        rw [e]
        subst hk
        rfl
end Go.Proofs
