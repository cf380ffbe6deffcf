/- How entries compare: three functions, walked. -/
import Derived.Test.YtdohclfkbfeihaaDqBase
namespace Go.Proofs.Ytdohclfkbfeihaa
open Go.RowKit Go.Maps
def Ent.tid (e : Ent) : Value := .agg #[.int .u64 e.n, .int .i64 e.o]
def Ent.val (e : Ent) : Value := .agg e.cells
def elder (a b : Ent) : Bool := if a.n < b.n then true else decide (a.n = b.n) && decide (a.o < b.o)
set_option maxRecDepth 1000000 in
theorem Try.Elder_walk (a b : Ent) (w : World) : Calls Try.prog 38 #[a.tid, b.tid] w fun e w' => e = .returned (.bool (elder a b)) ∧ Below w.heap.size w w' := by
  unfold Ent.tid elder
  obtain ⟨at', ak, an, ao⟩ := a
  obtain ⟨bt, bk, bn, bo⟩ := b
  simp only []
  by_cases h1 : an < bn
  · go_enter Try.func38, Try.ntmps38
    go_wp2
    go_ret
    exact ⟨by simp [h1], by go_grown⟩
  · by_cases h2 : an = bn
    · subst h2
      by_cases h3 : ao < bo
      all_goals
        go_enter Try.func38, Try.ntmps38
        go_wp2
        go_ret
        exact ⟨by simp [h1, h3], by go_grown⟩
    · have h4 : decide (an = bn) = false := decide_eq_false h2
      go_enter Try.func38, Try.ntmps38
      go_wp2
      go_ret
      exact ⟨by simp [h1, h2], by go_grown⟩
set_option maxRecDepth 1000000 in
theorem Try.before_walk (a b : Ent) (w : World) : Calls Try.prog 39 #[a.val, b.val] w fun e w' => e = .returned (.bool (lt a b)) ∧ Below w.heap.size w w' := by
  by_cases h1 : a.t = b.t
  · by_cases h2 : a.k = b.k
    · have hE := Try.Elder_walk a b
      have hl : lt a b = elder a b := by simp [lt, h1, h2, elder]
      rw [hl]
      unfold Ent.val Ent.cells
      unfold Ent.tid at hE
      obtain ⟨at', ak, an, ao⟩ := a
      obtain ⟨bt, bk, bn, bo⟩ := b
      simp only [] at h1 h2 hE ⊢
      subst h1 h2
      clear hl
      generalize elder ⟨at', ak, an, ao⟩ ⟨at', ak, bn, bo⟩ = q at *
      go_enter Try.func39, Try.ntmps39
      go_wp2_with (go_at_call 38; refine (hE _).mono ?_)
      rintro e w1 ⟨rfl, b1⟩
      clear hE
      have hb : Below w.heap.size w w1 := by
        refine Below.trans ?_ (b1.mono (by simp; omega))
        go_grown
      clear b1
      go_wp2
      go_ret
      exact ⟨rfl, hb⟩
    · have hl : lt a b = decide (a.k < b.k) := by simp [lt, h1, h2]
      rw [hl]
      unfold Ent.val Ent.cells
      obtain ⟨at', ak, an, ao⟩ := a
      obtain ⟨bt, bk, bn, bo⟩ := b
      simp only [] at h1 h2 ⊢
      subst h1
      clear hl
      have h4 : decide (ak = bk) = false := decide_eq_false h2
      go_enter Try.func39, Try.ntmps39
      go_wp2
      go_ret
      exact ⟨rfl, by go_grown⟩
  · have hl : lt a b = decide (a.t < b.t) := by simp [lt, h1]
    rw [hl]
    unfold Ent.val Ent.cells
    obtain ⟨at', ak, an, ao⟩ := a
    obtain ⟨bt, bk, bn, bo⟩ := b
    simp only [] at h1 ⊢
    clear hl
    have h4 : decide (at' = bt) = false := decide_eq_false h1
    go_enter Try.func39, Try.ntmps39
    go_wp2
    go_ret
    exact ⟨rfl, by go_grown⟩
set_option maxRecDepth 1000000 in
theorem Try.less_walk (a b : Ent) (w : World) : Calls Try.prog 12 #[a.val, b.val] w fun e w' => e = .returned (.bool (lt a b)) ∧ Below w.heap.size w w' := by
  unfold Ent.val Ent.cells
  by_cases h1 : a.t = b.t
  · by_cases h2 : a.k = b.k
    · by_cases h3 : a.n = b.n
      · have hl : lt a b = decide (a.o < b.o) := by simp [lt, h1, h2, h3]
        rw [hl]
        obtain ⟨at', ak, an, ao⟩ := a
        obtain ⟨bt, bk, bn, bo⟩ := b
        simp only [] at h1 h2 h3 ⊢
        subst h1 h2 h3
        clear hl
        go_enter Try.func12, Try.ntmps12
        go_wp2
        go_ret
        exact ⟨rfl, by go_grown⟩
      · have hl : lt a b = decide (a.n < b.n) := by
          simp only [lt, h1, h2, ne_eq, not_true_eq_false, if_false, h3, decide_false, Bool.false_and]
          by_cases h : a.n < b.n <;> simp [h]
        rw [hl]
        obtain ⟨at', ak, an, ao⟩ := a
        obtain ⟨bt, bk, bn, bo⟩ := b
        simp only [] at h1 h2 h3 ⊢
        subst h1 h2
        clear hl
        have h4 : decide (an = bn) = false := decide_eq_false h3
        go_enter Try.func12, Try.ntmps12
        go_wp2
        go_ret
        exact ⟨rfl, by go_grown⟩
    · have hl : lt a b = decide (a.k < b.k) := by simp [lt, h1, h2]
      rw [hl]
      obtain ⟨at', ak, an, ao⟩ := a
      obtain ⟨bt, bk, bn, bo⟩ := b
      simp only [] at h1 h2 ⊢
      subst h1
      clear hl
      have h4 : decide (ak = bk) = false := decide_eq_false h2
      go_enter Try.func12, Try.ntmps12
      go_wp2
      go_ret
      exact ⟨rfl, by go_grown⟩
  · have hl : lt a b = decide (a.t < b.t) := by simp [lt, h1]
    rw [hl]
    obtain ⟨at', ak, an, ao⟩ := a
    obtain ⟨bt, bk, bn, bo⟩ := b
    simp only [] at h1 ⊢
    clear hl
    have h4 : decide (at' = bt) = false := decide_eq_false h1
    go_enter Try.func12, Try.ntmps12
    go_wp2
    go_ret
    exact ⟨rfl, by go_grown⟩
end Go.Proofs.Ytdohclfkbfeihaa
