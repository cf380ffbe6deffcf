/- A step's line reads as that step: plain law. -/
import Derived.Test.YtcdpepaffpboeaaDoorScSLineAll
import Derived.Test.YtcdpepaffpboeaaDoorScReads
namespace Go.Proofs.YtcdpepaffpboeaaDoor
open Go.RowKit Go.Shelf
theorem splL_joinL (c : UInt8) : ∀ ws : List (List UInt8), ws ≠ [] → (∀ w, w ∈ ws → c ∉ w) → splL c (joinL c ws) = ws
  | [], h, _ => absurd rfl h
  | [x], _, hf => splL_free c x (hf x (by simp))
  | x :: y :: r, _, hf => by
    show splL c (x ++ c :: joinL c (y :: r)) = _
    rw [splL_sep c _ x (hf x (by simp)), splL_joinL c (y :: r) (by simp) (fun w hw => hf w (List.mem_cons_of_mem _ hw))]
theorem dig_free_all : ∀ n : Fin 16, 45 < (dig n.1).toNat := by decide +kernel
theorem hexL_free : ∀ (l : List UInt8) (c : UInt8), c ∈ hexL l → 45 < c.toNat
  | [], c, h => by cases h
  | b :: l, c, h => by
    have hb := b.toNat_lt
    rcases List.mem_cons.1 h with rfl | h
    · exact dig_free_all ⟨b.toNat / 16, by omega⟩
    · rcases List.mem_cons.1 h with rfl | h
      · exact dig_free_all ⟨b.toNat % 16, by omega⟩
      · exact hexL_free l c h
theorem hexT_free (s : ByteArray) (c : UInt8) (h : c.toNat < 45) : c ∉ hexT s := by
  intro hc
  unfold hexT hexS at hc
  split at hc
  · have : c = 45 := by simpa using hc
    rw [this] at h
    exact absurd h (by decide)
  · have := hexL_free _ c (by simpa using hc)
    omega
theorem bitD_free (l : List Bool) (c : UInt8) (h : c.toNat < 45) : c ∉ bitD l := by
  intro hc
  unfold bitD at hc
  split at hc
  · have : c = 45 := by simpa using hc
    rw [this] at h
    exact absurd h (by decide)
  · unfold bitL at hc
    obtain ⟨b, _, rfl⟩ := List.mem_map.1 hc
    cases b
    · exact absurd h (by decide)
    · exact absurd h (by decide)
theorem unhex_hexT (s : ByteArray) : unhexS (mkB (hexT s)) = some s.data.toList := by
  rw [show mkB (hexT s) = hexS s from mkB_self (hexS s)]
  have h := unhex_hex s
  cases hu : unhexS (hexS s) with
  | none => rw [unhexV_none hu] at h; cases h
  | some l =>
    rw [unhexV_some hu] at h
    have : (⟨l.toArray⟩ : ByteArray) = s := by simpa using h
    rw [← this]
theorem bitsL_bitL : ∀ l : List Bool, bitsL (bitL l) = some l
  | [] => rfl
  | b :: l => by
    have ih := bitsL_bitL l
    unfold bitL at ih ⊢
    rw [List.map_cons]
    unfold bitsL
    cases b
    · rw [if_pos (by decide), ih]; rfl
    · rw [if_neg (by decide), if_pos (by decide), ih]; rfl
theorem unbits_bitD (l : List Bool) : unbitsS (bitD l) = some l := by
  unfold bitD
  split
  · rename_i h
    rw [h]
    rfl
  · rename_i h
    cases l with
    | nil => exact absurd rfl h
    | cons b l =>
      unfold unbitsS
      rw [if_neg (by cases b <;> simp [bitL]), if_neg (by simp [bitL]), bitsL_bitL]
theorem nums_1 {a : Int} (ha : -9223372036854775808 ≤ a ∧ a ≤ 9223372036854775807) : numsF [mkB (Lib.itoa a)] = some [a] := by
  simp [numsF, mkB_data, numOk_itoa a ha.1 ha.2]
theorem nums_2 {a b : Int} (ha : -9223372036854775808 ≤ a ∧ a ≤ 9223372036854775807) (hb : -9223372036854775808 ≤ b ∧ b ≤ 9223372036854775807) : numsF [mkB (Lib.itoa a), mkB (Lib.itoa b)] = some [a, b] := by
  simp [numsF, mkB_data, numOk_itoa a ha.1 ha.2, numOk_itoa b hb.1 hb.2]
theorem nums_3 {a b c : Int} (ha : -9223372036854775808 ≤ a ∧ a ≤ 9223372036854775807) (hb : -9223372036854775808 ≤ b ∧ b ≤ 9223372036854775807) (hc : -9223372036854775808 ≤ c ∧ c ≤ 9223372036854775807) :
    numsF [mkB (Lib.itoa a), mkB (Lib.itoa b), mkB (Lib.itoa c)] = some [a, b, c] :=
  numsF_three _ _ _ (numOk_itoa a ha.1 ha.2) (numOk_itoa b hb.1 hb.2) (numOk_itoa c hc.1 hc.2)
theorem free_itoa (n : Int) : (32 : UInt8) ∉ Lib.itoa n := itoa_free n 32 (by decide)
theorem lines_back {r : StepR} {l : List UInt8} (hf : Fits64 r) (h : lineS r = some l) : stepS (mkB l) = some (onlyS r) := by
  rcases (by omega : r.kind = 1 ∨ r.kind = 2 ∨ r.kind = 3 ∨ r.kind = 4 ∨ r.kind = 5 ∨ r.kind = 6 ∨ r.kind = 7 ∨ r.kind = 8 ∨ r.kind = 9 ∨ (r.kind < 1 ∨ 9 < r.kind)) with hk | hk | hk | hk | hk | hk | hk | hk | hk | hk
  · by_cases hc : 1 ≤ r.ckind ∧ r.ckind ≤ 6
    · obtain ⟨ck, hck⟩ : ∃ ck : Nat, r.ckind = (ck : Int) := ⟨r.ckind.toNat, by omega⟩
      have ho : onlyS r = { kind := 1, node := r.node, sess := r.sess, req := r.req, ckind := (ck : Int), key := r.key, val := r.val } := by
        unfold onlyS
        rw [if_pos hk, hk, hck]
      have hl : joinL 32 [[99, 97, 108, 108], Lib.itoa r.node, Lib.itoa r.sess, Lib.itoa r.req, callW.getD ck [], hexT r.key, hexT r.val] = l := by
        have : lineS r = some (joinL 32 [[99, 97, 108, 108], Lib.itoa r.node, Lib.itoa r.sess, Lib.itoa r.req, callW.getD ck [], hexT r.key, hexT r.val]) := by
          unfold lineS
          rw [hk, hck]
          show (if _ then _ else _) = _
          rw [if_pos (by omega)]
          simp [joinL, spN]
        exact Option.some.inj (this.symm.trans h)
      have hcw : (32 : UInt8) ∉ callW.getD ck [] ∧ kindS callW (callW.getD ck []) = ck ∧ 0 < ck := by
        rcases (by omega : ck = 1 ∨ ck = 2 ∨ ck = 3 ∨ ck = 4 ∨ ck = 5 ∨ ck = 6) with rfl | rfl | rfl | rfl | rfl | rfl <;> decide
      obtain ⟨hc32, hkc, hc0⟩ := hcw
      subst hl
      rw [stepS_of (splL_joinL 32 _ (by simp) (fun w hw => by
        simp only [List.mem_cons, List.not_mem_nil, or_false] at hw
        rcases hw with rfl | rfl | rfl | rfl | rfl | rfl | rfl
        · decide
        · exact free_itoa _
        · exact free_itoa _
        · exact free_itoa _
        · exact hc32
        · exact hexT_free _ 32 (by decide)
        · exact hexT_free _ 32 (by decide))), ho]
      refine (stepW0_onee (List.map mkB [[99, 97, 108, 108], Lib.itoa r.node, Lib.itoa r.sess, Lib.itoa r.req, callW.getD ck [], hexT r.key, hexT r.val]) rfl rfl (nums_3 hf.node hf.sess hf.req)).trans ?_
      simp only [List.map_cons, List.map_nil, List.getD_cons_succ, List.getD_cons_zero, unhex_hexT, Option.bind_some, mkB_data, hkc, if_pos hc0]
    · rw [lineS_nocall hk hc] at h
      cases h
  · have ho : onlyS r = { kind := 2, dest := r.dest } := by
      unfold onlyS
      rw [if_neg (by omega), if_pos (by omega), hk]
    have hl : joinL 32 [[100, 101, 108, 105, 118, 101, 114], Lib.itoa r.dest] = l := by
      have : lineS r = some (joinL 32 [[100, 101, 108, 105, 118, 101, 114], Lib.itoa r.dest]) := by
        unfold lineS
        rw [hk]
        simp [joinL, spN]
      exact Option.some.inj (this.symm.trans h)
    subst hl
    rw [stepS_of (splL_joinL 32 _ (by simp) (fun w hw => by
      simp only [List.mem_cons, List.not_mem_nil, or_false] at hw
      rcases hw with rfl | rfl
      · decide
      · exact free_itoa _)), ho]
    exact stepW0_one7 _ 2 rfl (by decide) rfl (nums_1 hf.dest)
  · have ho : onlyS r = { kind := 3, dest := r.dest } := by
      unfold onlyS
      rw [if_neg (by omega), if_pos (by omega), hk]
    have hl : joinL 32 [[108, 111, 115, 101], Lib.itoa r.dest] = l := by
      have : lineS r = some (joinL 32 [[108, 111, 115, 101], Lib.itoa r.dest]) := by
        unfold lineS
        rw [hk]
        simp [joinL, spN]
      exact Option.some.inj (this.symm.trans h)
    subst hl
    rw [stepS_of (splL_joinL 32 _ (by simp) (fun w hw => by
      simp only [List.mem_cons, List.not_mem_nil, or_false] at hw
      rcases hw with rfl | rfl
      · decide
      · exact free_itoa _)), ho]
    exact stepW0_one7 _ 3 rfl (by decide) rfl (nums_1 hf.dest)
  · have ho : onlyS r = { kind := 4, dest := r.dest } := by
      unfold onlyS
      rw [if_neg (by omega), if_pos (by omega), hk]
    have hl : joinL 32 [[116, 119, 105, 99, 101], Lib.itoa r.dest] = l := by
      have : lineS r = some (joinL 32 [[116, 119, 105, 99, 101], Lib.itoa r.dest]) := by
        unfold lineS
        rw [hk]
        simp [joinL, spN]
      exact Option.some.inj (this.symm.trans h)
    subst hl
    rw [stepS_of (splL_joinL 32 _ (by simp) (fun w hw => by
      simp only [List.mem_cons, List.not_mem_nil, or_false] at hw
      rcases hw with rfl | rfl
      · decide
      · exact free_itoa _)), ho]
    exact stepW0_one7 _ 4 rfl (by decide) rfl (nums_1 hf.dest)
  · have ho : onlyS r = { kind := 5, dest := r.dest } := by
      unfold onlyS
      rw [if_neg (by omega), if_pos (by omega), hk]
    have hl : joinL 32 [[115, 112, 111, 105, 108], Lib.itoa r.dest] = l := by
      have : lineS r = some (joinL 32 [[115, 112, 111, 105, 108], Lib.itoa r.dest]) := by
        unfold lineS
        rw [hk]
        simp [joinL, spN]
      exact Option.some.inj (this.symm.trans h)
    subst hl
    rw [stepS_of (splL_joinL 32 _ (by simp) (fun w hw => by
      simp only [List.mem_cons, List.not_mem_nil, or_false] at hw
      rcases hw with rfl | rfl
      · decide
      · exact free_itoa _)), ho]
    exact stepW0_one7 _ 5 rfl (by decide) rfl (nums_1 hf.dest)
  · have ho : onlyS r = { kind := 6, node := r.node } := by
      unfold onlyS
      rw [if_neg (by omega), if_neg (by omega), if_neg (by omega), if_neg (by omega), hk]
    have hl : joinL 32 [[116, 105, 99, 107], Lib.itoa r.node] = l := by
      have : lineS r = some (joinL 32 [[116, 105, 99, 107], Lib.itoa r.node]) := by
        unfold lineS
        rw [hk]
        simp [joinL, spN]
      exact Option.some.inj (this.symm.trans h)
    subst hl
    rw [stepS_of (splL_joinL 32 _ (by simp) (fun w hw => by
      simp only [List.mem_cons, List.not_mem_nil, or_false] at hw
      rcases hw with rfl | rfl
      · decide
      · exact free_itoa _)), ho]
    exact stepW0_one1 _ 6 rfl (by decide) rfl (nums_1 hf.node)
  · have ho : onlyS r = { kind := 7, node := r.node, n := r.n } := by
      unfold onlyS
      rw [if_neg (by omega), if_neg (by omega), if_pos hk, hk]
    have hl : joinL 32 [[102, 117, 115, 101], Lib.itoa r.node, Lib.itoa r.n] = l := by
      have : lineS r = some (joinL 32 [[102, 117, 115, 101], Lib.itoa r.node, Lib.itoa r.n]) := by
        unfold lineS
        rw [hk]
        simp [joinL, spN]
      exact Option.some.inj (this.symm.trans h)
    subst hl
    rw [stepS_of (splL_joinL 32 _ (by simp) (fun w hw => by
      simp only [List.mem_cons, List.not_mem_nil, or_false] at hw
      rcases hw with rfl | rfl | rfl
      · decide
      · exact free_itoa _
      · exact free_itoa _)), ho]
    exact stepW0_seven _ rfl rfl (nums_2 hf.node hf.n)
  · have ho : onlyS r = { kind := 8, node := r.node } := by
      unfold onlyS
      rw [if_neg (by omega), if_neg (by omega), if_neg (by omega), if_neg (by omega), hk]
    have hl : joinL 32 [[111, 102, 102], Lib.itoa r.node] = l := by
      have : lineS r = some (joinL 32 [[111, 102, 102], Lib.itoa r.node]) := by
        unfold lineS
        rw [hk]
        simp [joinL, spN]
      exact Option.some.inj (this.symm.trans h)
    subst hl
    rw [stepS_of (splL_joinL 32 _ (by simp) (fun w hw => by
      simp only [List.mem_cons, List.not_mem_nil, or_false] at hw
      rcases hw with rfl | rfl
      · decide
      · exact free_itoa _)), ho]
    exact stepW0_one1 _ 8 rfl (by decide) rfl (nums_1 hf.node)
  · have ho : onlyS r = { kind := 9, node := r.node, n := r.n, tear := r.tear, keep := r.keep } := by
      unfold onlyS
      rw [if_neg (by omega), if_neg (by omega), if_neg (by omega), if_pos hk, hk]
    have hl : joinL 32 [[111, 110], Lib.itoa r.node, Lib.itoa r.n, Lib.itoa r.tear, bitD r.keep] = l := by
      have : lineS r = some (joinL 32 [[111, 110], Lib.itoa r.node, Lib.itoa r.n, Lib.itoa r.tear, bitD r.keep]) := by
        unfold lineS
        rw [hk]
        simp [joinL, spN]
      exact Option.some.inj (this.symm.trans h)
    subst hl
    rw [stepS_of (splL_joinL 32 _ (by simp) (fun w hw => by
      simp only [List.mem_cons, List.not_mem_nil, or_false] at hw
      rcases hw with rfl | rfl | rfl | rfl | rfl
      · decide
      · exact free_itoa _
      · exact free_itoa _
      · exact free_itoa _
      · exact bitD_free _ 32 (by decide))), ho]
    refine (stepW0_nine (List.map mkB [[111, 110], Lib.itoa r.node, Lib.itoa r.n, Lib.itoa r.tear, bitD r.keep]) rfl rfl (nums_3 hf.node hf.n hf.tear)).trans ?_
    simp only [List.map_cons, List.map_nil, List.getD_cons_succ, List.getD_cons_zero, unbits_bitD, mkB_data, Option.map_some]
  · rw [lineS_none (fun k h1 h9 e => by omega)] at h
    cases h
end Go.Proofs.YtcdpepaffpboeaaDoor
