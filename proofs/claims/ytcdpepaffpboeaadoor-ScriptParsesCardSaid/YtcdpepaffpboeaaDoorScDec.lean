/- Plain facts: pieces between bytes; numbers as texts and back. -/
import Derived.Test.YtcdpepaffpboeaaDoorScSame
namespace Go.Proofs.YtcdpepaffpboeaaDoor
open Go.RowKit Go.Shelf
def splL (c : UInt8) : List UInt8 → List (List UInt8)
  | [] => [[]]
  | b :: l => if b = c then [] :: splL c l else match splL c l with
    | h :: t => (b :: h) :: t
    | [] => [[b]]
theorem splitK_one (c : UInt8) : ∀ l : List UInt8, Lib.splitK [c] 0 (Lib.count l [c]) l = splL c l
  | [] => by rw [Lib.count_miss (by simp [Lib.index])]; rfl
  | b :: l => by
    have ih := splitK_one c l
    by_cases h : b = c
    · subst h
      have hix : Lib.index (b :: l) [b] = 0 := by rw [Lib.index]; simp [List.isPrefixOf]
      rw [Lib.count_cons_eq, Nat.add_comm]
      unfold Lib.splitK splL
      rw [hix, if_neg (by decide), if_pos rfl]
      simp only [Int.toNat_zero, Nat.zero_add, List.take_zero, List.length_singleton]
      rw [← ih]
      rfl
    · have hp : ([c] : List UInt8).isPrefixOf (b :: l) = false := by simp [List.isPrefixOf, Ne.symm h]
      have hix : Lib.index (b :: l) [c] = if Lib.index l [c] == -1 then -1 else Lib.index l [c] + 1 := by rw [Lib.index, hp]; simp
      rw [Lib.count_cons_ne b c l h]
      unfold splL
      rw [if_neg h, ← ih]
      cases hk : Lib.count l [c] with
      | zero => rfl
      | succ k =>
        by_cases hm : Lib.index l [c] = -1
        · rw [Lib.count_miss hm] at hk; cases hk
        · have hge := Lib.index_ge l [c]
          obtain ⟨j, hj⟩ : ∃ j : Nat, Lib.index l [c] = j := ⟨(Lib.index l [c]).toNat, by omega⟩
          have hjn : ¬ (Lib.index l [c] == -1) = true := fun e => hm (beq_iff_eq.1 e)
          have hx : Lib.index (b :: l) [c] = ((j + 1 : Nat) : Int) := by rw [hix, if_neg hjn, hj]; omega
          simp only [Lib.splitK]
          rw [hx, hj, if_neg (by simp; omega), if_neg (by simp)]
          simp only [Int.toNat_natCast, Nat.add_zero, List.length_singleton]
          rfl
theorem spl_data (c : UInt8) (s : ByteArray) : (spl c s).map (·.data.toList) = splL c s.data.toList := by
  unfold spl
  rw [Lib.splitB_data]
  exact splitK_one c s.data.toList
theorem spl_eq (c : UInt8) (l : List UInt8) : spl c ⟨l.toArray⟩ = (splL c l).map fun x => ⟨x.toArray⟩ := by
  have h := spl_data c ⟨l.toArray⟩
  have h2 : ∀ L : List ByteArray, L.map (fun s => (⟨s.data.toList.toArray⟩ : ByteArray)) = L := fun L => by
    induction L with
    | nil => rfl
    | cons s r ih =>
      obtain ⟨⟨m⟩⟩ := s
      simp only [List.map_cons, ih]
  rw [← h2 (spl c ⟨l.toArray⟩), ← h, List.map_map]
  rfl
theorem splL_ne (c : UInt8) : ∀ l, splL c l ≠ []
  | [] => by simp [splL]
  | b :: l => by
    unfold splL
    split
    · simp
    · split <;> simp
theorem splL_free (c : UInt8) : ∀ x : List UInt8, c ∉ x → splL c x = [x]
  | [], _ => rfl
  | b :: x, h => by
    unfold splL
    rw [if_neg (fun e => h (by rw [e]; exact List.mem_cons_self)), splL_free c x (fun e => h (List.mem_cons_of_mem _ e))]
theorem splL_sep (c : UInt8) (y : List UInt8) : ∀ x : List UInt8, c ∉ x → splL c (x ++ c :: y) = x :: splL c y
  | [], _ => by simp [splL]
  | b :: x, h => by
    rw [List.cons_append, show splL c (b :: (x ++ c :: y)) = if b = c then [] :: splL c (x ++ c :: y) else match splL c (x ++ c :: y) with | h :: t => (b :: h) :: t | [] => [[b]] from rfl,
      if_neg (fun e => h (by rw [e]; exact List.mem_cons_self)), splL_sep c y x (fun e => h (List.mem_cons_of_mem _ e))]
/-! ### Numbers -/
theorem parse_app : ∀ (l : List UInt8) (acc u : Nat) (c : UInt8), Lib.parseUint10 acc l = .ok u → Lib.parseUint10 acc (l ++ [c]) = Lib.parseUint10 u [c]
  | [], acc, u, c, h => by
    simp only [Lib.parseUint10] at h
    injection h with h
    subst h
    rfl
  | b :: l, acc, u, c, h => by
    rw [List.cons_append]
    unfold Lib.parseUint10 at h ⊢
    split at h
    · rename_i hb
      rw [if_pos hb]
      split at h
      · cases h
      · rename_i h1
        rw [if_neg h1]
        split at h
        · cases h
        · rename_i h2
          rw [if_neg h2]
          exact parse_app l _ u c h
    · cases h
theorem digit_toNat (d : Nat) (h : d < 10) : (UInt8.ofNat (48 + d)).toNat = 48 + d := by
  rw [UInt8.toNat_ofNat']
  omega
theorem parse_dec : ∀ (u : Nat), u < 18446744073709551616 → Lib.parseUint10 0 (Lib.decDigits u) = .ok u := by
  intro u
  induction u using Nat.strongRecOn with
  | _ u ih =>
    intro hu
    rw [Lib.decDigits]
    split
    · rename_i h
      have e := digit_toNat u h
      simp only [Lib.parseUint10]
      rw [e, if_pos ⟨by omega, by omega⟩, if_neg (by omega), if_neg (by omega)]
      congr 1
      omega
    · rename_i h
      have h1 := ih (u / 10) (by omega) (by omega)
      rw [parse_app _ _ _ _ h1]
      have e := digit_toNat (u % 10) (by omega)
      simp only [Lib.parseUint10]
      rw [e, if_pos ⟨by omega, by omega⟩, if_neg (by omega), if_neg (by omega)]
      congr 1
      omega
theorem dec_digits : ∀ (u : Nat) (c : UInt8), c ∈ Lib.decDigits u → 48 ≤ c.toNat ∧ c.toNat ≤ 57 := by
  intro u
  induction u using Nat.strongRecOn with
  | _ u ih =>
    intro c hc
    rw [Lib.decDigits] at hc
    split at hc
    · rename_i h
      simp only [List.mem_singleton] at hc
      rw [hc, digit_toNat u h]
      omega
    · rename_i h
      rcases List.mem_append.1 hc with h1 | h1
      · exact ih (u / 10) (by omega) c h1
      · simp only [List.mem_singleton] at h1
        rw [h1, digit_toNat (u % 10) (by omega)]
        omega
theorem dec_ne (u : Nat) : Lib.decDigits u ≠ [] := by
  rw [Lib.decDigits]
  split <;> simp
theorem atoi_itoa (n : Int) (h0 : -9223372036854775808 ≤ n) (h1 : n ≤ 9223372036854775807) : Lib.atoiAll (Lib.itoa n) = .ok n := by
  unfold Lib.itoa
  split
  · rename_i hn
    unfold Lib.atoiAll
    simp only
    have e45 : (45 : UInt8).toNat = 45 := rfl
    rw [if_pos (Or.inr e45)]
    unfold Lib.parseMag
    rw [if_neg (dec_ne _), parse_dec _ (by omega)]
    simp only
    rw [if_neg (by rw [e45]; simp), if_neg (by rw [e45]; omega), if_pos e45]
    congr 1
    omega
  · rename_i hn
    have hne := dec_ne n.toNat
    have hp := parse_dec n.toNat (by omega)
    have hd := dec_digits n.toNat
    cases hl : Lib.decDigits n.toNat with
    | nil => exact absurd hl hne
    | cons c r =>
      have hc := hd c (by rw [hl]; exact List.mem_cons_self)
      rw [hl] at hp
      unfold Lib.atoiAll
      simp only
      rw [if_neg (by omega)]
      unfold Lib.parseMag
      rw [if_neg (by simp), hp]
      simp only
      rw [if_neg (by omega), if_neg (by omega), if_neg (by omega)]
      congr 1
      omega
theorem numOk_itoa (n : Int) (h0 : -9223372036854775808 ≤ n) (h1 : n ≤ 9223372036854775807) : numOk (Lib.itoa n) = some n := by
  rw [numOk_ok (atoi_itoa n h0 h1), if_pos rfl]
theorem itoa_free (n : Int) (c : UInt8) (h : c.toNat < 45) : c ∉ Lib.itoa n := by
  intro hc
  unfold Lib.itoa at hc
  split at hc
  · rcases List.mem_cons.1 hc with rfl | h1
    · exact absurd h (by decide)
    · have := dec_digits _ c h1
      omega
  · have := dec_digits _ c hc
    omega
theorem dec_length : ∀ (k u : Nat), u < 10 ^ k → 0 < k → (Lib.decDigits u).length ≤ k
  | 0, u, h, h0 => by omega
  | k + 1, u, h, _ => by
    rw [Lib.decDigits]
    split
    · simp
    · rename_i hu
      have h2 : u / 10 < 10 ^ k := by rw [Nat.div_lt_iff_lt_mul (by omega)]; rw [Nat.pow_succ] at h; exact h
      have hk : 0 < k := by
        cases k with
        | zero => simp at h2; omega
        | succ k => omega
      have := dec_length k (u / 10) h2 hk
      simp
      omega
theorem itoa_length (n : Int) (h0 : -9223372036854775808 ≤ n) (h1 : n ≤ 9223372036854775807) : (Lib.itoa n).length ≤ 21 := by
  unfold Lib.itoa
  split
  · have := dec_length 20 n.natAbs (by omega) (by omega)
    simp
    omega
  · have := dec_length 20 n.toNat (by omega) (by omega)
    omega
end Go.Proofs.YtcdpepaffpboeaaDoor
