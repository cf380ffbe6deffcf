/- What reads as a step, is that step's line: plain law. -/
import Derived.Test.YtcdpepaffpboeaaDoorScLineAll
namespace Go.Proofs.YtcdpepaffpboeaaDoor
open Go.RowKit Go.Shelf
def joinB (c : UInt8) : List ByteArray → List UInt8
  | [] => []
  | [x] => x.data.toList
  | x :: y :: r => x.data.toList ++ c :: joinB c (y :: r)
def joinL (c : UInt8) : List (List UInt8) → List UInt8
  | [] => []
  | [x] => x
  | x :: y :: r => x ++ c :: joinL c (y :: r)
theorem joinB_eq (c : UInt8) : ∀ ws : List ByteArray, joinB c ws = joinL c (ws.map (·.data.toList))
  | [] => rfl
  | [x] => rfl
  | x :: y :: r => by
    simp only [joinB, List.map_cons, joinL]
    rw [joinB_eq c (y :: r)]
    rfl
theorem joinL_splL (c : UInt8) : ∀ l : List UInt8, joinL c (splL c l) = l
  | [] => rfl
  | b :: l => by
    have ih := joinL_splL c l
    unfold splL
    split
    · rename_i h
      cases hs : splL c l with
      | nil => exact absurd hs (splL_ne c l)
      | cons x r =>
        rw [hs] at ih
        simp only [joinL, List.nil_append]
        rw [ih, h]
    · cases hs : splL c l with
      | nil => exact absurd hs (splL_ne c l)
      | cons x r =>
        rw [hs] at ih
        cases r with
        | nil => simp only [joinL] at ih ⊢; rw [ih]
        | cons y r => simp only [joinL, List.cons_append] at ih ⊢; rw [ih]
theorem join_spl (c : UInt8) (s : ByteArray) : joinB c (spl c s) = s.data.toList := by
  rw [joinB_eq, spl_data, joinL_splL]
theorem kindF_some : ∀ (ls : List (List UInt8)) (i k : Nat) (x : List UInt8), kindF i ls x = k → 0 < k → i ≤ k ∧ ls.getD (k - i) [] = x
  | [], i, k, x, h, h0 => by simp [kindF] at h; omega
  | l :: r, i, k, x, h, h0 => by
    unfold kindF at h
    split at h
    · rename_i hl
      subst h
      simp [hl.2]
    · have ⟨h1, h2⟩ := kindF_some r (i + 1) k x h h0
      refine ⟨by omega, ?_⟩
      rw [show k - i = (k - (i + 1)) + 1 from by omega]
      exact h2
theorem kindS_some {ls : List (List UInt8)} {k : Nat} {x : List UInt8} (h : kindS ls x = k) (h0 : 0 < k) : ls.getD k [] = x := (kindF_some ls 0 k x h h0).2
theorem numOk_some {l : List UInt8} {n : Int} (h : numOk l = some n) : Lib.itoa n = l ∧ -9223372036854775808 ≤ n ∧ n ≤ 9223372036854775807 := by
  unfold numOk at h
  split at h
  · rename_i v hv
    split at h
    · cases h
      exact ⟨by assumption, atoiAll_range hv⟩
    · cases h
  · cases h
theorem numsF_1 {b : ByteArray} {ns : List Int} (h : numsF [b] = some ns) : ∃ n, ns = [n] ∧ Lib.itoa n = b.data.toList ∧ -9223372036854775808 ≤ n ∧ n ≤ 9223372036854775807 := by
  simp only [numsF] at h
  cases hn : numOk b.data.toList with
  | none => rw [hn] at h; cases h
  | some n => rw [hn] at h; cases h; exact ⟨n, rfl, numOk_some hn⟩
theorem numsF_cons {b : ByteArray} {r : List ByteArray} {ns : List Int} (h : numsF (b :: r) = some ns) : ∃ n m, ns = n :: m ∧ numsF r = some m ∧ Lib.itoa n = b.data.toList ∧ -9223372036854775808 ≤ n ∧ n ≤ 9223372036854775807 := by
  simp only [numsF] at h
  cases hn : numOk b.data.toList with
  | none => rw [hn] at h; cases h
  | some n =>
    rw [hn] at h
    cases hm : numsF r with
    | none => rw [hm] at h; cases h
    | some m => rw [hm] at h; cases h; exact ⟨n, m, rfl, rfl, numOk_some hn⟩
theorem bitsL_back : ∀ (l : List UInt8) (bs : List Bool), bitsL l = some bs → bitL bs = l
  | [], bs, h => by cases h; rfl
  | c :: r, bs, h => by
    unfold bitsL at h
    split at h
    · cases hb : bitsL r with
      | none => rw [hb] at h; cases h
      | some x =>
        rw [hb] at h
        cases h
        have := bitsL_back r x hb
        simp only [bitL, List.map_cons] at this ⊢
        rw [this]
        simp
        symm
        assumption
    · split at h
      · cases hb : bitsL r with
        | none => rw [hb] at h; cases h
        | some x =>
          rw [hb] at h
          cases h
          have := bitsL_back r x hb
          simp only [bitL, List.map_cons] at this ⊢
          rw [this]
          simp
          symm
          assumption
      · cases h
theorem unbits_back {l : List UInt8} {bs : List Bool} (h : unbitsS l = some bs) : bitD bs = l ∧ bs.length ≤ l.length := by
  unfold unbitsS at h
  split at h
  · cases h
    rename_i e
    exact ⟨by rw [e]; rfl, Nat.zero_le _⟩
  · split at h
    · cases h
    · rename_i h0
      have hb := bitsL_back l bs h
      refine ⟨?_, by rw [← hb]; simp [bitL]⟩
      unfold bitD
      rw [if_neg (fun e => h0 (by rw [← hb, e]; rfl)), hb]
theorem unhex_size {t : ByteArray} {l : List UInt8} (h : unhexS t = some l) : l.length ≤ t.size := by
  unfold unhexS at h
  split at h
  · cases h; exact Nat.zero_le _
  · split at h
    · cases h
    · have := congrArg List.length (hexL_unhexL _ _ h)
      rw [hexL_length, size_list] at this
      omega
theorem hexT_back {t : ByteArray} {l : List UInt8} (h : unhexS t = some l) : hexT ⟨l.toArray⟩ = t.data.toList := by
  unfold hexT
  rw [hexS_back t l h]
/-- A step that a line of this size says. -/
structure Says (r : StepR) (m : Nat) : Prop extends Fits64 r where
  key : r.key.size ≤ m
  val : r.val.size ≤ m
  keep : r.keep.length ≤ m
  only : onlyS r = r
theorem zero_fits : -9223372036854775808 ≤ (0 : Int) ∧ (0 : Int) ≤ 9223372036854775807 := by omega
theorem len1 {ws : List ByteArray} {n : Nat} (h : ws.length = n + 1) : ∃ a r, ws = a :: r ∧ r.length = n := by
  cases ws with
  | nil => cases h
  | cons a r => exact ⟨a, r, rfl, by simpa using h⟩
theorem words_back {ws : List ByteArray} {r : StepR} {m : Nat} (hm : ∀ x, x ∈ ws → x.size ≤ m) (h : stepW0 ws = some r) : lineS r = some (joinB 32 ws) ∧ Says r m := by
  have hlt : kindS stepW (ws.getD 0 ⟨#[]⟩).data.toList < 10 := kindS_lt stepW _ (by decide)
  have hback := fun h0 => kindS_some (ls := stepW) (x := (ws.getD 0 ⟨#[]⟩).data.toList) rfl h0
  unfold stepW0 at h
  generalize kindS stepW (ws.getD 0 ⟨#[]⟩).data.toList = k at *
  simp only at h
  split at h
  · cases h
  rename_i hk
  split at h
  · cases h
  rename_i ns hns
  have hk0 : 0 < k := by omega
  have hlen : ws.length = wordCount k := by omega
  have hback := hback hk0
  clear hk
  rcases (by omega : k = 1 ∨ k = 2 ∨ k = 3 ∨ k = 4 ∨ k = 5 ∨ k = 6 ∨ k = 7 ∨ k = 8 ∨ k = 9) with rfl | rfl | rfl | rfl | rfl | rfl | rfl | rfl | rfl
  · obtain ⟨w0, ws, rfl, hq6⟩ := len1 (n := 6) hlen
    obtain ⟨w1, ws, rfl, hq5⟩ := len1 (n := 5) hq6
    obtain ⟨w2, ws, rfl, hq4⟩ := len1 (n := 4) hq5
    obtain ⟨w3, ws, rfl, hq3⟩ := len1 (n := 3) hq4
    obtain ⟨w4, ws, rfl, hq2⟩ := len1 (n := 2) hq3
    obtain ⟨w5, ws, rfl, hq1⟩ := len1 (n := 1) hq2
    obtain ⟨w6, ws, rfl, hq0⟩ := len1 (n := 0) hq1
    obtain rfl := List.length_eq_zero_iff.1 hq0
    obtain ⟨n1, m1, rfl, hns, e1, g1⟩ := numsF_cons (b := w1) (r := [w2, w3]) hns
    obtain ⟨n2, m2, rfl, hns, e2, g2⟩ := numsF_cons hns
    obtain ⟨n3, rfl, e3, g3⟩ := numsF_1 hns
    rw [if_pos rfl] at h
    simp only [List.getD_cons_succ, List.getD_cons_zero, Option.bind_eq_some_iff] at h hback
    obtain ⟨key, hkey, val, hval, h⟩ := h
    have hcb := fun h0 => kindS_some (ls := callW) (x := w4.data.toList) rfl h0
    have hcl : kindS callW w4.data.toList < 7 := kindS_lt callW _ (by decide)
    generalize kindS callW w4.data.toList = ck at *
    split at h
    · rename_i hc0
      cases h
      have hcb := hcb hc0
      refine ⟨?_, ⟨⟨g1, g2, g3, zero_fits, zero_fits, zero_fits⟩, ?_, ?_, Nat.zero_le _, rfl⟩⟩
      · show (if _ then _ else _) = _
        rw [if_pos (by dsimp only; omega)]
        simp only [Int.toNat_natCast]
        rw [hcb, hexT_back hkey, hexT_back hval]
        simp only [joinB, spN, e1, e2, e3, ← hback]
        simp [stepW]
      · exact Nat.le_trans (unhex_size hkey) (hm w5 (by simp))
      · exact Nat.le_trans (unhex_size hval) (hm w6 (by simp))
    · cases h
  · obtain ⟨w0, ws, rfl, hq1⟩ := len1 (n := 1) hlen
    obtain ⟨w1, ws, rfl, hq0⟩ := len1 (n := 0) hq1
    obtain rfl := List.length_eq_zero_iff.1 hq0
    obtain ⟨n1, rfl, e1, g1⟩ := numsF_1 (b := w1) hns
    simp only [List.getD_cons_zero] at hback
    cases h
    refine ⟨?_, ⟨⟨zero_fits, zero_fits, zero_fits, g1, zero_fits, zero_fits⟩, Nat.zero_le _, Nat.zero_le _, Nat.zero_le _, rfl⟩⟩
    show some (_ ++ spN n1) = _
    simp only [joinB, spN, e1, ← hback]
    simp [stepW]
  · obtain ⟨w0, ws, rfl, hq1⟩ := len1 (n := 1) hlen
    obtain ⟨w1, ws, rfl, hq0⟩ := len1 (n := 0) hq1
    obtain rfl := List.length_eq_zero_iff.1 hq0
    obtain ⟨n1, rfl, e1, g1⟩ := numsF_1 (b := w1) hns
    simp only [List.getD_cons_zero] at hback
    cases h
    refine ⟨?_, ⟨⟨zero_fits, zero_fits, zero_fits, g1, zero_fits, zero_fits⟩, Nat.zero_le _, Nat.zero_le _, Nat.zero_le _, rfl⟩⟩
    show some (_ ++ spN n1) = _
    simp only [joinB, spN, e1, ← hback]
    simp [stepW]
  · obtain ⟨w0, ws, rfl, hq1⟩ := len1 (n := 1) hlen
    obtain ⟨w1, ws, rfl, hq0⟩ := len1 (n := 0) hq1
    obtain rfl := List.length_eq_zero_iff.1 hq0
    obtain ⟨n1, rfl, e1, g1⟩ := numsF_1 (b := w1) hns
    simp only [List.getD_cons_zero] at hback
    cases h
    refine ⟨?_, ⟨⟨zero_fits, zero_fits, zero_fits, g1, zero_fits, zero_fits⟩, Nat.zero_le _, Nat.zero_le _, Nat.zero_le _, rfl⟩⟩
    show some (_ ++ spN n1) = _
    simp only [joinB, spN, e1, ← hback]
    simp [stepW]
  · obtain ⟨w0, ws, rfl, hq1⟩ := len1 (n := 1) hlen
    obtain ⟨w1, ws, rfl, hq0⟩ := len1 (n := 0) hq1
    obtain rfl := List.length_eq_zero_iff.1 hq0
    obtain ⟨n1, rfl, e1, g1⟩ := numsF_1 (b := w1) hns
    simp only [List.getD_cons_zero] at hback
    cases h
    refine ⟨?_, ⟨⟨zero_fits, zero_fits, zero_fits, g1, zero_fits, zero_fits⟩, Nat.zero_le _, Nat.zero_le _, Nat.zero_le _, rfl⟩⟩
    show some (_ ++ spN n1) = _
    simp only [joinB, spN, e1, ← hback]
    simp [stepW]
  · obtain ⟨w0, ws, rfl, hq1⟩ := len1 (n := 1) hlen
    obtain ⟨w1, ws, rfl, hq0⟩ := len1 (n := 0) hq1
    obtain rfl := List.length_eq_zero_iff.1 hq0
    obtain ⟨n1, rfl, e1, g1⟩ := numsF_1 (b := w1) hns
    simp only [List.getD_cons_zero] at hback
    cases h
    refine ⟨?_, ⟨⟨g1, zero_fits, zero_fits, zero_fits, zero_fits, zero_fits⟩, Nat.zero_le _, Nat.zero_le _, Nat.zero_le _, rfl⟩⟩
    show some (_ ++ spN n1) = _
    simp only [joinB, spN, e1, ← hback]
    simp [stepW]
  · obtain ⟨w0, ws, rfl, hq2⟩ := len1 (n := 2) hlen
    obtain ⟨w1, ws, rfl, hq1⟩ := len1 (n := 1) hq2
    obtain ⟨w2, ws, rfl, hq0⟩ := len1 (n := 0) hq1
    obtain rfl := List.length_eq_zero_iff.1 hq0
    obtain ⟨n1, m1, rfl, hns, e1, g1⟩ := numsF_cons (b := w1) (r := [w2]) hns
    obtain ⟨n2, rfl, e2, g2⟩ := numsF_1 hns
    simp only [List.getD_cons_zero] at hback
    cases h
    refine ⟨?_, ⟨⟨g1, zero_fits, zero_fits, zero_fits, g2, zero_fits⟩, Nat.zero_le _, Nat.zero_le _, Nat.zero_le _, rfl⟩⟩
    show some (_ ++ spN n1 ++ spN n2) = _
    simp only [joinB, spN, e1, e2, ← hback]
    simp [stepW]
  · obtain ⟨w0, ws, rfl, hq1⟩ := len1 (n := 1) hlen
    obtain ⟨w1, ws, rfl, hq0⟩ := len1 (n := 0) hq1
    obtain rfl := List.length_eq_zero_iff.1 hq0
    obtain ⟨n1, rfl, e1, g1⟩ := numsF_1 (b := w1) hns
    simp only [List.getD_cons_zero] at hback
    cases h
    refine ⟨?_, ⟨⟨g1, zero_fits, zero_fits, zero_fits, zero_fits, zero_fits⟩, Nat.zero_le _, Nat.zero_le _, Nat.zero_le _, rfl⟩⟩
    show some (_ ++ spN n1) = _
    simp only [joinB, spN, e1, ← hback]
    simp [stepW]
  · obtain ⟨w0, ws, rfl, hq4⟩ := len1 (n := 4) hlen
    obtain ⟨w1, ws, rfl, hq3⟩ := len1 (n := 3) hq4
    obtain ⟨w2, ws, rfl, hq2⟩ := len1 (n := 2) hq3
    obtain ⟨w3, ws, rfl, hq1⟩ := len1 (n := 1) hq2
    obtain ⟨w4, ws, rfl, hq0⟩ := len1 (n := 0) hq1
    obtain rfl := List.length_eq_zero_iff.1 hq0
    obtain ⟨n1, m1, rfl, hns, e1, g1⟩ := numsF_cons (b := w1) (r := [w2, w3]) hns
    obtain ⟨n2, m2, rfl, hns, e2, g2⟩ := numsF_cons hns
    obtain ⟨n3, rfl, e3, g3⟩ := numsF_1 hns
    rw [if_neg (by decide), if_pos rfl] at h
    simp only [List.getD_cons_succ, List.getD_cons_zero, Option.map_eq_some_iff] at h hback
    obtain ⟨keep, hkeep, rfl⟩ := h
    have ⟨hb1, hb2⟩ := unbits_back hkeep
    refine ⟨?_, ⟨⟨g1, zero_fits, zero_fits, zero_fits, g2, g3⟩, Nat.zero_le _, Nat.zero_le _, ?_, rfl⟩⟩
    · show some (_ ++ spN n1 ++ spN n2 ++ spN n3 ++ [32] ++ bitD keep) = _
      rw [hb1]
      simp only [joinB, spN, e1, e2, e3, ← hback]
      simp [stepW]
    · exact Nat.le_trans hb2 (by rw [size_list]; exact hm w4 (by simp))
theorem reads_back {s : ByteArray} {r : StepR} (h : stepS s = some r) : lineS r = some s.data.toList ∧ Says r s.size := by
  have := words_back (fun x hx => spl_size 32 s x hx) h
  rw [join_spl] at this
  exact this
end Go.Proofs.YtcdpepaffpboeaaDoor
