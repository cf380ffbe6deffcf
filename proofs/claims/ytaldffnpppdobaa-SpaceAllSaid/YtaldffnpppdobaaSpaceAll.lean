/- 'SpaceAll' of the views of a pool: for all numbers the law answers true, and the arguments read as they did. Proved by running the program's form in a
   verified abstract executor (the texts E1 .. E35), once for each value behind the first mask, in the kernel; the leaves that answer otherwise lie on a path that no number walks. No condition. -/
import Derived.Test.YtaldffnpppdobaaSpaceAllB
import Derived.Test.YtaldffnpppdobaaSpaceAllC
namespace Go.Proofs.Ytaldffnpppdobaa
open Go.ChangeShapes Go.WideShapes Go.ChangeAt Go.RowKit Ab

theorem Try.own : ownKnob Try.prog.godebug = none := by kernel_rfl
theorem Try.cxOk : (mkCtx Try.prog).Ok Try.prog := mkCtx_ok (by decide +kernel) (by kernel_rfl)

theorem saHead_sound (ρ : Env) : HookSound Try.prog ρ 21 trueHook := trueHook_ok Try.cxOk (mkCtx_gl _) ρ hooksOk_nil saHead
theorem saHooks (ρ : Env) : HooksOk Try.prog ρ saCx := by
  unfold saCx saHk
  exact hooksOk_one (saHead_sound ρ)
theorem saCx_ok : saCx.Ok Try.prog := by
  unfold saCx
  exact mkCtxE_ok Try.cxOk saHk 1
theorem saCx_gl : saCx.gl = 0 := by
  unfold saCx
  exact mkCtxE_gl _ _ _
theorem saRun_all (p : Int) (h0 : 0 ≤ p) (h1 : p ≤ 15) : (saRun p).allBut saNone [] = true := by
  have : p = 0 ∨ p = 1 ∨ p = 2 ∨ p = 3 ∨ p = 4 ∨ p = 5 ∨ p = 6 ∨ p = 7 ∨ p = 8 ∨ p = 9 ∨ p = 10 ∨ p = 11 ∨ p = 12 ∨ p = 13 ∨ p = 14 ∨ p = 15 := by omega
  rcases this with rfl | rfl | rfl | rfl | rfl | rfl | rfl | rfl | rfl | rfl | rfl | rfl | rfl | rfl | rfl | rfl
  · exact saRun_0
  · exact saRun_1
  · exact saRun_2
  · exact saRun_3
  · exact saRun_4
  · exact saRun_5
  · exact saRun_6
  · exact saRun_7
  · exact saRun_8
  · exact saRun_9
  · exact saRun_10
  · exact saRun_11
  · exact saRun_12
  · exact saRun_13
  · exact saRun_14
  · exact saRun_15
theorem saNone_not (ρ : Env) : ¬ ∀ A ∈ saNone, A.den ρ = false := by
  intro h
  obtain ⟨h1, h2⟩ := and_range (ρ := ρ) .i64 (.v 1) 15 (Nat.le_refl _)
  generalize hx : (Tm.bin .and .i64 (.v 1) (.c (.ofNat 15))).den ρ = x at h1 h2
  have e : (saM 1).den ρ = x := hx
  simp only [saNone, List.mem_cons, List.not_mem_nil, or_false, forall_eq_or_imp, forall_eq, Atom.den, e, beq_eq_false_iff_ne, ne_eq] at h
  simp only [Tm.den] at h
  omega

theorem spaceAll_calls (n m : Int) (W : World) : Calls Try.prog 4 #[.int .i64 n, .int .i64 m] W fun e w' => ∃ v, e = .returned v ∧ v = .bool true ∧ Below W.heap.size W w' := by
  let ρ : Env := ⟨fun i => if i = 0 then n else m, fun _ => []⟩
  obtain ⟨h1, h2⟩ := and_range (ρ := ρ) .i64 (.v 0) 15 (Nat.le_refl _)
  have hs := saRun_all _ h1 h2
  unfold saRun at hs
  refine law_allBut saCx_ok saCx_gl ρ (saHooks ρ) ?_ (fun L => by simp [conc, Tm.den, ρ]) (saNone_not ρ) hs W
  intro q hq
  simp only [List.mem_singleton] at hq
  subst hq
  show ((saM 0).den ρ == (saM 0).den ρ) = true
  simp

set_option maxRecDepth 100000 in
theorem spaceAll_lifted (os : Os) (started : os.Started) (H : Type) (enc : TypeId × Value → H) :
    ReturnsInHanded {} Try.checked os 4 .any (Rows.spaceAllSpec.pre6 enc Try.prog Try.f4 Rows.spaceAllRow.domain false) (Rows.spaceAllSpec.post enc Try.prog Try.f4 false true false false) := by
  refine returnsInHanded_of_change (C := Try.checked) Try.own started (by kernel_rfl) Try.func4
    (ChangeSpec.witness6 (enc := enc) (C := Try.checked) false ⟨#[], #[.int .i64 0, .int .i64 0], []⟩ 8 (by kernel_rfl) (by kernel_rfl) (by kernel_rfl) (by kernel_rfl)) ?_
  intro W base args ds gs before hval0 hW hcnd _
  have hval : ∀ (j : Nat) t v, Try.f4.params[j]? = some t → args[j]? = some v → Value.okWide Try.prog W .any base t v := hval0
  have hW' := hW
  obtain ⟨p, q, hA0, hV, rfl, hfz, hnd⟩ := hW
  have hA : DataW.TrodAll enc Try.prog W 0 (fun _ => true) true Try.f4.params.toList args.toList ds p := hA0
  rw [Try.params4] at hA hval
  obtain ⟨v0, v1, d0, d1, p0, p1, rfl, rfl, rfl, h0, h1⟩ := trodAll_two hA
  obtain ⟨rfl, rfl⟩ := trodVars_none hV
  obtain ⟨a, rfl, rfl, rfl, wa⟩ := open_int Try.underlying3 (hval 0 3 v0 rfl rfl) h0
  obtain ⟨b, rfl, rfl, rfl, wb⟩ := open_int Try.underlying3 (hval 1 3 v1 rfl rfl) h1
  clear hA0 hval0
  simp only [List.append_nil] at hW'
  refine (spaceAll_calls a b W).mono fun e W' ⟨v, he, hv, hw⟩ => ?_
  subst he; subst hv
  exact ⟨_, rfl, post_plain hW' hw (fun _ _ _ => trodAll_mk1 (shut_bool Try.underlying4 true)) (fun sp => trodAll_mk2 (shut_int Try.underlying3 wa) (shut_int Try.underlying3 wb)) (fun _ => rfl)
    (ok_one (by kernel_rfl) rfl (okWide_bool_mk Try.underlying4 true))⟩

theorem spaceAll_holds : Rows.SpaceAllSaid :=
  OpenClaim.holds_of_wide 4 Try.f4 rfl rfl rfl rfl rfl rfl rfl ⟨rfl, rfl, rfl, rfl, rfl⟩ rfl rfl rfl rfl rfl (by kernel_rfl) Try.func4 (by kernel_rfl)
    (of_decide_eq_true (by kernel_rfl)) (by unfold Func.isWrapper; first | (rw [if_pos (by decide +kernel)]; kernel_rfl) | (rw [if_neg (by decide +kernel)]; exact ⟨rfl, rfl⟩))
    (fun os started H enc _ => spaceAll_lifted os started H enc)
end Go.Proofs.Ytaldffnpppdobaa
