/- Lines of steps, one behind the other, read as those steps: plain law. -/
import Derived.Test.YtcdpepaffpboeaaDoorScLines
import Derived.Test.YtcdpepaffpboeaaDoorScParse
namespace Go.Proofs.YtcdpepaffpboeaaDoor
open Go.RowKit Go.Shelf
/-- The line of a step that is taken, its end with it. -/
def pieceL (r : StepR) : List UInt8 := match lineS r with
  | some l => if fitS r = true then l ++ [10] else []
  | none => []
def pieceN (r : StepR) : List (List UInt8) := match lineS r with
  | some l => if fitS r = true then [l] else []
  | none => []
def pieceO (r : StepR) : List StepR := match lineS r with
  | some _ => if fitS r = true then [onlyS r] else []
  | none => []
def textS (rs : List StepR) : List UInt8 := rs.flatMap pieceL
def linesS (rs : List StepR) : List (List UInt8) := rs.flatMap pieceN
def ownsS (rs : List StepR) : List StepR := rs.flatMap pieceO
theorem piece_yes {r : StepR} {l : List UInt8} (h : lineS r = some l) (hf : fitS r = true) : pieceL r = l ++ [10] ∧ pieceN r = [l] ∧ pieceO r = [onlyS r] := by
  unfold pieceL pieceN pieceO
  rw [h]
  simp [hf]
theorem piece_none {r : StepR} (h : lineS r = none) : pieceL r = [] ∧ pieceN r = [] ∧ pieceO r = [] := by
  unfold pieceL pieceN pieceO
  rw [h]
  exact ⟨rfl, rfl, rfl⟩
theorem piece_no {r : StepR} (hf : fitS r = false) : pieceL r = [] ∧ pieceN r = [] ∧ pieceO r = [] := by
  unfold pieceL pieceN pieceO
  cases lineS r <;> simp [hf]
theorem spN_free (n : Int) : (10 : UInt8) ∉ spN n := by
  intro h
  rcases List.mem_cons.1 h with h | h
  · exact absurd h (by decide)
  · exact itoa_free n 10 (by decide) h
theorem line_free {r : StepR} {l : List UInt8} (h : lineS r = some l) : (10 : UInt8) ∉ l := by
  unfold lineS at h
  split at h
  · split at h
    · have hc : (10 : UInt8) ∉ callW.getD r.ckind.toNat [] := by
        obtain ⟨ck, hck⟩ : ∃ ck : Nat, r.ckind = (ck : Int) := ⟨r.ckind.toNat, by omega⟩
        rw [hck, Int.toNat_natCast]
        rcases (by omega : ck = 1 ∨ ck = 2 ∨ ck = 3 ∨ ck = 4 ∨ ck = 5 ∨ ck = 6) with rfl | rfl | rfl | rfl | rfl | rfl <;> decide
      cases h
      simp only [List.mem_append, not_or]
      refine ⟨⟨⟨⟨⟨⟨⟨⟨⟨?_, spN_free _⟩, spN_free _⟩, spN_free _⟩, ?_⟩, hc⟩, ?_⟩, hexT_free _ 10 (by decide)⟩, ?_⟩, hexT_free _ 10 (by decide)⟩ <;> decide
    · cases h
  all_goals first
    | (cases h; simp only [List.mem_append, not_or]; exact ⟨by decide, spN_free _⟩)
    | (cases h; simp only [List.mem_append, not_or]; exact ⟨⟨by decide, spN_free _⟩, spN_free _⟩)
    | (cases h; simp only [List.mem_append, not_or]; exact ⟨⟨⟨⟨⟨by decide, spN_free _⟩, spN_free _⟩, spN_free _⟩, by decide⟩, bitD_free _ 10 (by decide)⟩)
    | cases h
theorem split_text (t : List UInt8) : ∀ rs : List StepR, splL 10 (textS rs ++ t) = linesS rs ++ splL 10 t
  | [] => rfl
  | r :: rs => by
    have ih := split_text t rs
    show splL 10 ((pieceL r ++ textS rs) ++ t) = (pieceN r ++ linesS rs) ++ splL 10 t
    rw [List.append_assoc, List.append_assoc, ← ih]
    cases hl : lineS r with
    | none =>
      obtain ⟨h1, h2, _⟩ := piece_none hl
      rw [h1, h2]
      rfl
    | some l =>
      cases hf : fitS r with
      | false =>
        obtain ⟨h1, h2, _⟩ := piece_no hf
        rw [h1, h2]
        rfl
      | true =>
        obtain ⟨h1, h2, _⟩ := piece_yes hl hf
        rw [h1, h2, List.append_assoc]
        exact splL_sep 10 _ l (line_free hl)
theorem steps_lines : ∀ rs : List StepR, (∀ r, r ∈ rs → Fits64 r) → stepsF ((linesS rs).map mkB) = some (ownsS rs)
  | [], _ => rfl
  | r :: rs, hf => by
    have ih := steps_lines rs (fun r h => hf r (List.mem_cons_of_mem _ h))
    show stepsF ((pieceN r ++ linesS rs).map mkB) = some (pieceO r ++ ownsS rs)
    cases hl : lineS r with
    | none =>
      obtain ⟨_, h2, h3⟩ := piece_none hl
      rw [h2, h3]
      exact ih
    | some l =>
      cases hfit : fitS r with
      | false =>
        obtain ⟨_, h2, h3⟩ := piece_no hfit
        rw [h2, h3]
        exact ih
      | true =>
        obtain ⟨_, h2, h3⟩ := piece_yes hl hfit
        rw [h2, h3, List.map_append, stepsF_app, ih]
        show (stepsF [mkB l]).bind _ = _
        simp only [stepsF, lines_back (hf r List.mem_cons_self) hl]
        rfl
theorem spl_mkB (c : UInt8) (l : List UInt8) : spl c (mkB l) = (splL c l).map mkB := spl_eq c l
theorem parse_lines {rs : List StepR} (hf : ∀ r, r ∈ rs → Fits64 r) : parseS (mkB (textS rs)) = some (ownsS rs) := by
  unfold parseS
  have h := split_text [] rs
  rw [List.append_nil] at h
  rw [spl_mkB, h, show splL 10 [] = [[]] from rfl, List.map_append]
  have h1 : ((linesS rs).map mkB ++ List.map mkB [[]]).getLastD ⟨#[]⟩ = mkB [] := by simp
  have h2 : ((linesS rs).map mkB ++ List.map mkB [[]]).dropLast = (linesS rs).map mkB := by simp
  rw [h1, h2, if_neg (fun h => h rfl)]
  exact steps_lines rs hf
theorem parse_end (rs : List StepR) (t : List UInt8) (ht : t ≠ []) (hf : (10 : UInt8) ∉ t) : parseS (mkB (textS rs ++ t)) = none := by
  unfold parseS
  rw [spl_mkB, split_text t rs, splL_free 10 t hf, List.map_append]
  have h1 : ((linesS rs).map mkB ++ List.map mkB [t]).getLastD ⟨#[]⟩ = mkB t := by simp
  rw [h1, if_pos (by rw [mkB_data]; exact ht)]
theorem splL_head (c : UInt8) (y : List UInt8) : ∀ x : List UInt8, c ∉ x → ∃ h t, splL c y = h :: t ∧ splL c (x ++ y) = (x ++ h) :: t
  | [], _ => by
    cases hs : splL c y with
    | nil => exact absurd hs (splL_ne c y)
    | cons h t => exact ⟨h, t, rfl, hs⟩
  | b :: x, hx => by
    obtain ⟨h, t, h1, h2⟩ := splL_head c y x (fun e => hx (List.mem_cons_of_mem _ e))
    refine ⟨h, t, h1, ?_⟩
    rw [List.cons_append, splL, if_neg (fun e => hx (by rw [e]; exact List.mem_cons_self)), h2]
    rfl
theorem no_kind (z : List UInt8) : kindS stepW ([110, 111] ++ z) = 0 := by
  unfold kindS stepW
  simp [kindF]
theorem no_step (y : List UInt8) : stepS (mkB ([110, 111] ++ y)) = none := by
  obtain ⟨h, t, _, h2⟩ := splL_head 32 y [110, 111] (by decide)
  rw [stepS_of h2]
  exact stepW0_zero _ (no_kind h)
theorem parse_no (y text : List UInt8) : parseS (mkB ([116, 105, 99, 107, 32, 48] ++ 10 :: ([110, 111] ++ (y ++ 10 :: text)))) = none := by
  unfold parseS
  split
  · rfl
  · rw [spl_mkB, splL_sep 10 _ _ (by decide)]
    obtain ⟨h, t, h1, h2⟩ := splL_head 10 (y ++ 10 :: text) [110, 111] (by decide)
    rw [h2]
    have ht : t ≠ [] := by
      intro e
      rw [e] at h1
      have := congrArg (joinL 10) h1
      rw [joinL_splL] at this
      have hm : (10 : UInt8) ∈ h := by
        rw [show h = joinL 10 [h] from rfl, ← this]
        simp
      have hfree : ∀ (l : List UInt8) (x : List UInt8), x ∈ splL 10 l → (10 : UInt8) ∉ x := by
        intro l
        induction l with
        | nil => intro x hx; simp [splL] at hx; rw [hx]; simp
        | cons b l ih =>
          intro x hx
          unfold splL at hx
          split at hx
          · rcases List.mem_cons.1 hx with rfl | hx
            · simp
            · exact ih x hx
          · rename_i hb
            split at hx
            · rename_i h' t' he
              rcases List.mem_cons.1 hx with rfl | hx
              · intro hc
                rcases List.mem_cons.1 hc with hc | hc
                · exact hb hc.symm
                · exact ih h' (by rw [he]; exact List.mem_cons_self) hc
              · exact ih x (by rw [he]; exact List.mem_cons_of_mem _ hx)
            · rename_i he
              exact absurd he (splL_ne 10 l)
      exact hfree _ h (by rw [h1]; exact List.mem_cons_self) hm
    obtain ⟨a, t', rfl⟩ : ∃ a t', t = a :: t' := by
      cases t with
      | nil => exact absurd rfl ht
      | cons a t' => exact ⟨a, t', rfl⟩
    show stepsF (mkB _ :: mkB ([110, 111] ++ h) :: ((a :: t').map mkB).dropLast) = none
    simp only [stepsF, no_step]
    cases stepS (mkB [116, 105, 99, 107, 32, 48]) <;> rfl
theorem text_length {rs : List StepR} (hf : ∀ r, r ∈ rs → Fits64 r) : (textS rs).length ≤ 1001 * rs.length := by
  induction rs with
  | nil => exact Nat.le_refl _
  | cons r rs ih =>
    have h1 := ih (fun r h => hf r (List.mem_cons_of_mem _ h))
    show (pieceL r ++ textS rs).length ≤ _
    rw [List.length_append, List.length_cons]
    have : (pieceL r).length ≤ 1001 := by
      cases hl : lineS r with
      | none => rw [(piece_none hl).1]; exact Nat.zero_le _
      | some l =>
        cases hfit : fitS r with
        | false => rw [(piece_no hfit).1]; exact Nat.zero_le _
        | true =>
          rw [(piece_yes hl hfit).1, List.length_append]
          have := line_length (hf r List.mem_cons_self) hfit hl
          simp only [List.length_singleton]
          omega
    omega
end Go.Proofs.YtcdpepaffpboeaaDoor
