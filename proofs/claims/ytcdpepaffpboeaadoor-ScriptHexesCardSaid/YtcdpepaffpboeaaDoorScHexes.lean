/- ScriptHexes: the law, walked. -/
import Derived.Test.YtcdpepaffpboeaaDoorScPlain
namespace Go.Proofs
open Go.RowKit Go.Shelf
theorem hexS_size (s : ByteArray) : (hexS s).size ≤ 2 * s.size + 1 := by
  unfold hexS
  split
  · show 1 ≤ _
    omega
  · show (hexL s.data.toList).length ≤ _
    rw [hexL_length, size_list]
    omega
theorem Tryd.Unhex_hex (s : ByteArray) (w : World) (hs : s.size ≤ 200) : Calls Tryd.prog 13 #[.string (hexS s)] w fun e w' => e = .returned (.tuple #[.string s, .bool true]) ∧ Below w.heap.size w w' := by
  have := Tryd.Unhex_walk (hexS s) w (by have := hexS_size s; omega)
  rw [unhex_hex] at this
  exact this
set_option maxHeartbeats 4000000 in
set_option maxRecDepth 1000000 in
theorem Tryd.Hexes_walk (s t : ByteArray) (w : World) (hH : Calls Tryd.prog 8 #[] w fun e w' => e = .returned (.bool true) ∧ Below w.heap.size w w') :
    Calls Tryd.prog 4 #[.string s, .string t] w fun e w' => e = .returned (.bool true) ∧ Below w.heap.size w w' := by
  go_enter Tryd.func4, Tryd.ntmps4
  go_wp2_with (go_at_call 8; refine hH.mono ?_)
  rintro e w1 ⟨rfl, b1⟩
  by_cases hs : s.size ≤ 200
  · by_cases ht : t.size ≤ 200
    · obtain ⟨y, is, hv⟩ : ∃ y is, unhexV t = .tuple #[.string y, .bool is] := by
        obtain ⟨y, is, hv, _⟩ := unhex_says t
        exact ⟨y, is, hv⟩
      go_wp2_with (go_at_call 14; refine (Tryd.Hex_walk s w1 (by omega)).mono ?_)
      rintro e w2 ⟨rfl, b2⟩
      go_wp2_with (go_at_call 13; refine (Tryd.Unhex_hex s w2 hs).mono ?_)
      rintro e w3 ⟨rfl, b3⟩
      go_wp2_with (go_at_call 14; refine (Tryd.Hex_walk s w3 (by omega)).mono ?_)
      rintro e w4 ⟨rfl, b4⟩
      go_wp2_with (go_at_call 15; refine (Tryd.hex_walk s w4 (by omega)).mono ?_)
      rintro e w5 ⟨rfl, b5⟩
      have hU := Tryd.Unhex_walk t w5 (by omega)
      rw [hv] at hU
      go_wp2_with (go_at_call 13; refine hU.mono ?_)
      rintro e w6 ⟨rfl, b6⟩
      have b := below_next (below_next (below_next (below_next (below_next b1 b2) b3) b4) b5) b6
      clear b1 b2 b3 b4 b5 b6 hU hH
      cases h45 : (t.toList == [45])
      · by_cases h0 : 0 < t.size
        · have hR : rightS t = (((t.size : Int) % 2 == 0) && t.data.toList.all isDig) := by
            have e : ((t.size : Int) % 2 == 0) = (t.size % 2 == 0) := by
              rw [Bool.eq_iff_iff, beq_iff_eq, beq_iff_eq]
              omega
            unfold rightS right0
            rw [h45, decide_eq_true h0, e]
            simp
          have hR2 : Nonempty (PLift (rightS t = (((t.size : Int) % 2 == 0) && t.data.toList.all isDig))) := ⟨⟨hR⟩⟩
          clear hR
          go_wp2
          obtain ⟨⟨hR⟩⟩ := hR2
          generalize ((t.size : Int) % 2 == 0) = r0 at *
          have hR2 : Nonempty (PLift (rightS t = (r0 && t.data.toList.all isDig))) := ⟨⟨hR⟩⟩
          clear hR
          go_loopw [9, 10] (fun v9 v10 wr => ∃ k : Nat, v10 = .int .i64 (k : Int) ∧ v9 = .bool (r0 && (t.data.toList.take k).all isDig) ∧ k ≤ t.size ∧ Below w.heap.size w wr) (fun _ v _ => t.size - (intOf v).toNat)
          case atStart =>
            exact ⟨0, rfl, by simp, Nat.zero_le _, b⟩
          case round =>
            obtain ⟨k, rfl, rfl, hk, hb⟩ := hrel
            by_cases hp : k < t.size
            · have x1 : ∀ w1, (Instr.index 9 (.string t) (.int .i64 (k : Int))).run Tryd.prog w1 = .ok (.int .u8 (t[k]).toNat) w1 := by
                intro w1
                rw [run_index_string w1 9 t .i64 _ Tryd.underlying9, dif_pos ⟨by omega, by omega⟩]
                simp only [Int.toNat_natCast]
              have hstep : (r0 && (t.data.toList.take (k + 1)).all isDig) = ((r0 && (t.data.toList.take k).all isDig) && isDig t[k]) := by
                rw [take_succ_byte t k hp, List.all_append, Bool.and_assoc]
                simp
              have hD : isDig t[k] = ((decide (48 ≤ t[k].toNat) && decide (t[k].toNat ≤ 57)) || (decide (97 ≤ t[k].toNat) && decide (t[k].toNat ≤ 102))) := rfl
              have hqq : t[k].toNat < 256 := t[k].toNat_lt
              generalize hL : (r0 && (t.data.toList.take k).all isDig) = L at *
              generalize isDig t[k] = D at *
              generalize t[k].toNat = c at *
              cases L
              · go_wp2
                go_roundw
                case rel => exact ⟨k + 1, congrArg (Value.int .i64) (by omega), by rw [hstep]; rfl, by omega, hb⟩
                case measure =>
                  simp [intOf]
                  omega
              · go_wp2
                all_goals
                  refine ⟨⟨k + 1, congrArg (Value.int .i64) (by omega), ?_, by omega, hb⟩, by simp [intOf]; omega⟩
                  rw [hstep, hD]
                  exact congrArg Value.bool (by rw [Bool.eq_iff_iff]; simp; omega)
            · have hk : k = t.size := by omega
              have hz : (r0 && (t.data.toList.take k).all isDig) = (r0 && t.data.toList.all isDig) := by
                rw [List.take_of_length_le (by rw [size_list]; omega)]
              obtain ⟨⟨hR⟩⟩ := hR2
              obtain ⟨y', is', hv', hr, hy, hy0, hyz⟩ := unhex_says t
              rw [hv] at hv'
              simp only [Value.tuple.injEq, Array.mk.injEq, List.cons.injEq, Value.string.injEq, Value.bool.injEq, and_true] at hv'
              obtain ⟨rfl, rfl⟩ := hv'
              rw [hz, ← hR, ← hr]
              clear hz hR hr
              cases is
              · have hy1 := hy0 rfl
                rw [hy1]
                clear hy hy0 hy1 hyz
                go_wp2
                go_ret
                exact ⟨rfl, hb⟩
              · have hy1 := hy rfl
                clear hy hy0
                go_wp2_with (go_at_call 14; refine (Tryd.Hex_walk y wr (by omega)).mono ?_)
                rintro e w7 ⟨rfl, b7⟩
                rw [hy1]
                go_wp2
                go_ret
                exact ⟨by simp, hb.trans (b7.mono hb.size)⟩
        · have hR : rightS t = false := by
            unfold rightS right0
            rw [h45, decide_eq_false h0]
            rfl
          obtain ⟨y', is', hv', hr, hy, hy0, hyz⟩ := unhex_says t
          rw [hv] at hv'
          simp only [Value.tuple.injEq, Array.mk.injEq, List.cons.injEq, Value.string.injEq, Value.bool.injEq, and_true] at hv'
          obtain ⟨rfl, rfl⟩ := hv'
          rw [hR] at hr
          subst hr
          have hy1 := hy0 rfl
          rw [hy1]
          clear hy hy0 hy1 hyz hR
          go_wp2
          go_loopw [9, 10] (fun v9 v10 wr => v10 = .int .i64 0 ∧ v9 = .bool false ∧ wr = w6) (fun _ _ _ => 0)
          case atStart => exact ⟨rfl, rfl, rfl⟩
          case round =>
            obtain ⟨rfl, rfl, rfl⟩ := hrel
            go_wp2
            go_ret
            exact ⟨rfl, b⟩
      · have hR : rightS t = true := by
          unfold rightS right0
          rw [h45]
          rfl
        obtain ⟨y', is', hv', hr, hy, hy0, hyz⟩ := unhex_says t
        rw [hv] at hv'
        simp only [Value.tuple.injEq, Array.mk.injEq, List.cons.injEq, Value.string.injEq, Value.bool.injEq, and_true] at hv'
        obtain ⟨rfl, rfl⟩ := hv'
        rw [hR] at hr
        subst hr
        have hy1 := hy rfl
        have ht1 : t.size = 1 := by
          rw [← size_list, ← toL]
          rw [eq_of_beq h45]
          rfl
        clear hy hy0 hR
        go_wp2
        go_loopw [9, 10] (fun v9 v10 wr => v10 = .int .i64 0 ∧ v9 = .bool true ∧ wr = w6) (fun _ _ _ => 0)
        case atStart => exact ⟨rfl, rfl, rfl⟩
        case round =>
          obtain ⟨rfl, rfl, rfl⟩ := hrel
          go_wp2_with (go_at_call 14; refine (Tryd.Hex_walk y wr (by omega)).mono ?_)
          rintro e w7 ⟨rfl, b7⟩
          rw [hy1]
          go_wp2
          go_ret
          exact ⟨by simp, b.trans (b7.mono b.size)⟩
    · go_wp2
      go_ret
      exact ⟨rfl, b1⟩
  · go_wp2
    go_ret
    exact ⟨rfl, b1⟩
end Go.Proofs
