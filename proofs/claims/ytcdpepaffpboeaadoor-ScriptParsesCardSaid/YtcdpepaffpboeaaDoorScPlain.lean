/- Hexes: the plain law: Unhex undoes Hex, Hex undoes Unhex, and which texts Unhex takes. -/
import Derived.Test.YtcdpepaffpboeaaDoorScLaw
namespace Go.Proofs
open Go.RowKit Go.Shelf
theorem dig_all : ∀ n : Fin 16, digv (dig n.1) = (n.1 : Int) := by decide +kernel
theorem digv_dig (n : Nat) (h : n < 16) : digv (dig n) = (n : Int) := dig_all ⟨n, h⟩
theorem nibs_all : ∀ b : Fin 256, nibs ((b.1 / 16 : Nat) : Int) ((b.1 % 16 : Nat) : Int) = UInt8.ofNat b.1 := by decide +kernel
theorem nibs_byte (b : UInt8) : nibs ((b.toNat / 16 : Nat) : Int) ((b.toNat % 16 : Nat) : Int) = b := by
  have := nibs_all ⟨b.toNat, b.toNat_lt⟩
  simpa using this
theorem dig_back_all : ∀ b : Fin 256, 0 ≤ digv (UInt8.ofNat b.1) → dig (digv (UInt8.ofNat b.1)).toNat = UInt8.ofNat b.1 := by decide +kernel
theorem dig_back (c : UInt8) (h : 0 ≤ digv c) : dig (digv c).toNat = c := by
  have := dig_back_all ⟨c.toNat, c.toNat_lt⟩
  simp only [UInt8.ofNat_toNat] at this
  exact this h
theorem nibs_div_all : ∀ n : Fin 16, ∀ m : Fin 16, (nibs n.1 m.1).toNat / 16 = n.1 ∧ (nibs n.1 m.1).toNat % 16 = m.1 := by decide +kernel
theorem nibs_div (x y : Int) (h0 : 0 ≤ x) (h1 : x < 16) (g0 : 0 ≤ y) (g1 : y < 16) : (nibs x y).toNat / 16 = x.toNat ∧ (nibs x y).toNat % 16 = y.toNat := by
  have := nibs_div_all ⟨x.toNat, by omega⟩ ⟨y.toNat, by omega⟩
  simp only [Int.toNat_of_nonneg h0, Int.toNat_of_nonneg g0] at this
  exact this
theorem unhexL_hexL : ∀ l : List UInt8, unhexL (hexL l) = some l
  | [] => rfl
  | b :: l => by
    have hb := b.toNat_lt
    simp only [hexL, unhexL]
    rw [digv_dig _ (by omega), digv_dig _ (by omega), if_neg (by omega), unhexL_hexL l, nibs_byte]
    rfl
theorem hexL_unhexL : ∀ (m l : List UInt8), unhexL m = some l → hexL l = m
  | [], l, h => by cases h; rfl
  | [_], l, h => by cases h
  | a :: b :: m, l, h => by
    simp only [unhexL] at h
    split at h
    · cases h
    · rename_i hn
      have ba := digv_bound a
      have bb := digv_bound b
      have h0 : 0 ≤ digv a := by omega
      have h1 : 0 ≤ digv b := by omega
      cases hm : unhexL m with
      | none => rw [hm] at h; cases h
      | some l' =>
        rw [hm] at h
        cases h
        obtain ⟨e1, e2⟩ := nibs_div (digv a) (digv b) h0 ba.2 h1 bb.2
        simp only [hexL]
        rw [e1, e2, dig_back a h0, dig_back b h1, hexL_unhexL m l' hm]
/-- Is a byte a digit? -/
def isDig (c : UInt8) : Bool := (decide (48 ≤ c.toNat) && decide (c.toNat ≤ 57)) || (decide (97 ≤ c.toNat) && decide (c.toNat ≤ 102))
theorem isDig_all : ∀ b : Fin 256, isDig (UInt8.ofNat b.1) = decide (0 ≤ digv (UInt8.ofNat b.1)) := by decide +kernel
theorem isDig_iff (c : UInt8) : isDig c = decide (0 ≤ digv c) := by
  have := isDig_all ⟨c.toNat, c.toNat_lt⟩
  simpa using this
theorem unhexL_isSome : ∀ m : List UInt8, (unhexL m).isSome = (m.length % 2 == 0 && m.all isDig)
  | [] => rfl
  | [_] => by simp [unhexL]
  | a :: b :: m => by
    have ih := unhexL_isSome m
    have e : (a :: b :: m).length % 2 = m.length % 2 := by simp only [List.length_cons]; omega
    rw [e]
    simp only [unhexL, List.all_cons, isDig_iff a, isDig_iff b]
    split
    · rename_i h
      rcases h with h | h
      · rw [decide_eq_false (by omega)]; simp
      · rw [decide_eq_false (p := 0 ≤ digv b) (by omega)]; simp
    · rename_i h
      rw [decide_eq_true (by omega), decide_eq_true (by omega), Option.isSome_map, ih]
      simp
theorem size_list (s : ByteArray) : s.data.toList.length = s.size := Array.length_toList
theorem empty_of_nil {s : ByteArray} (h : s.toList.isEmpty = true) : s = ⟨#[]⟩ := by
  rw [toL, List.isEmpty_iff] at h
  obtain ⟨⟨l⟩⟩ := s
  simp at h
  subst h
  rfl
theorem unhex_hex (s : ByteArray) : unhexV (hexS s) = .tuple #[.string s, .bool true] := by
  unfold hexS
  split
  · rename_i h
    rw [empty_of_nil h]
    have he : unhexS ⟨#[45]⟩ = some [] := by
      unfold unhexS
      rw [if_pos (by rw [toL]; rfl)]
    rw [unhexV_some he]
  · rename_i h
    have hne : s.data.toList ≠ [] := fun e => h (by rw [toL, e]; rfl)
    have hl : 1 ≤ s.data.toList.length := by
      cases hs : s.data.toList with
      | nil => exact absurd hs hne
      | cons a l => simp
    have hx := hexL_length s.data.toList
    have he : unhexS ⟨(hexL s.data.toList).toArray⟩ = some s.data.toList := by
      unfold unhexS
      have e1 : ((⟨(hexL s.data.toList).toArray⟩ : ByteArray).toList == [45]) = false := by
        rw [toL]
        simp only
        cases hc : hexL s.data.toList with
        | nil => rfl
        | cons a l =>
          cases l with
          | nil => rw [hc] at hx; simp at hx; omega
          | cons b l => simp
      have e2 : ¬ (⟨(hexL s.data.toList).toArray⟩ : ByteArray).toList = [] := by
        rw [toL]
        simp only
        intro e
        have h2 := congrArg List.length e
        rw [hx] at h2
        simp only [List.length_nil] at h2
        omega
      rw [if_neg (by rw [e1]; exact Bool.false_ne_true), if_neg e2]
      exact unhexL_hexL _
    rw [unhexV_some he]
/-- What the law reckons: is a text right? -/
def right0 (t : ByteArray) : Bool := (t.toList == [45]) || (decide (0 < t.size) && (t.size % 2 == 0))
def rightS (t : ByteArray) : Bool := right0 t && ((t.toList == [45]) || t.data.toList.all isDig)
theorem unhexS_isSome (t : ByteArray) : (unhexS t).isSome = rightS t := by
  unfold unhexS rightS right0
  split
  · rename_i h
    rw [h]; rfl
  · rename_i h
    have h' : (t.toList == [45]) = false := by simpa using h
    rw [h']
    split
    · rename_i h0
      have : t.size = 0 := by rw [← size_list, ← toL, h0]; rfl
      simp [this]
    · rename_i h0
      have : 0 < t.size := by
        rw [← size_list, ← toL]
        cases hl : t.toList with
        | nil => exact absurd hl h0
        | cons => simp
      rw [unhexL_isSome, size_list]
      simp [this]
theorem hexS_back (t : ByteArray) (l : List UInt8) (h : unhexS t = some l) : hexS ⟨l.toArray⟩ = t := by
  unfold unhexS at h
  split at h
  · rename_i h1
    cases h
    have : t.data.toList = [45] := by rw [← toL]; simpa using h1
    unfold hexS
    rw [if_pos (by rw [toL]; rfl)]
    obtain ⟨⟨m⟩⟩ := t
    simp at this
    rw [this]
  · split at h
    · cases h
    · rename_i h0
      have hx := hexL_unhexL _ _ h
      unfold hexS
      have hl : ¬ (⟨l.toArray⟩ : ByteArray).toList.isEmpty = true := by
        rw [toL]
        intro e
        simp at e
        subst e
        exact h0 (by rw [toL, ← hx]; rfl)
      rw [if_neg hl]
      show (⟨(hexL l).toArray⟩ : ByteArray) = t
      rw [hx]
/-- What Unhex says of t, in the law's words. -/
theorem unhex_says (t : ByteArray) : ∃ y is, unhexV t = .tuple #[.string y, .bool is] ∧ is = rightS t ∧ (is = true → hexS y = t) ∧ (is = false → y = ⟨#[]⟩) ∧ y.size ≤ t.size := by
  have hi := unhexS_isSome t
  cases h : unhexS t with
  | none => exact ⟨_, _, unhexV_none h, by rw [← hi, h]; rfl, (fun e => by cases e), fun _ => rfl, Nat.zero_le _⟩
  | some l =>
    refine ⟨_, _, unhexV_some h, by rw [← hi, h]; rfl, fun _ => hexS_back t l h, (fun e => by cases e), ?_⟩
    unfold unhexS at h
    split at h
    · cases h; exact Nat.zero_le _
    · split at h
      · cases h
      · have := congrArg List.length (hexL_unhexL _ _ h)
        rw [hexL_length, size_list] at this
        show l.length ≤ _
        omega
end Go.Proofs
