/- 'PoolErrors' of the pools: for all numbers the law answers true, and the arguments read as they did. Proved by running the program's form in a
   verified abstract executor (the texts E1 .. E38), in the kernel; the library's sorted keys are summed up by the kit's contract; ranges over maps are run in all orders. No condition. -/
import Derived.Test.YtaldffnpppdobaaPoolSorted
namespace Go.Proofs.Ytaldffnpppdobaa
open Go.ChangeShapes Go.WideShapes Go.ChangeAt Go.RowKit Ab

theorem Try.own : ownKnob Try.prog.godebug = none := by kernel_rfl
theorem Try.cxOk : (mkCtx Try.prog).Ok Try.prog := mkCtx_ok (by decide +kernel) (by kernel_rfl)
noncomputable def peHk0 : Tr (List AV → St → T (AV × St)) := Tr.set .nil 60 (sortedHook 92 3)
noncomputable def peCx0 : Ctx := mkCtxE Try.prog peHk0 100
noncomputable def peHk1 : Tr (List AV → St → T (AV × St)) := Tr.set (Tr.set peHk0 49 (ordHook peCx0 (callNF peCx0 100000) 100000 49)) 20 (ordHook peCx0 (callNF peCx0 100000) 100000 20)
noncomputable def peCx1 : Ctx := mkCtxE Try.prog peHk1 100
noncomputable def peHk2 : Tr (List AV → St → T (AV × St)) := Tr.set peHk1 13 trueHook
noncomputable def peCx2 : Ctx := mkCtxE Try.prog peHk2 100
theorem peHead : (summ (callNF peCx1 1000000 13 [] (St.with_ []))).allYes = true := by kernel_rfl
theorem peRun : (summ (callNF peCx2 1000000 5 [.int .i64 (.v 0), .int .i64 (.v 1), .int .i64 (.v 2)] (St.with_ []))).allYes = true := by kernel_rfl
theorem peHk0_ok (ρ : Env) : HksOk Try.prog ρ peHk0 := by
  unfold peHk0
  exact HksOk.nil.set (sortedHook_sound Go.Proofs.Try.keysSortedQ ⟨_, Try.func60, by decide +kernel, by kernel_rfl⟩)
theorem peCx0_ok : peCx0.Ok Try.prog := by
  unfold peCx0
  exact mkCtxE_ok Try.cxOk peHk0 100
theorem peCx0_gl : peCx0.gl = 0 := by
  unfold peCx0
  exact mkCtxE_gl _ _ _
theorem peCx0_hk (ρ : Env) : HooksOk Try.prog ρ peCx0 := by
  unfold peCx0
  exact (peHk0_ok ρ).ctx
theorem peHk1_ok (ρ : Env) : HksOk Try.prog ρ peHk1 := by
  unfold peHk1
  exact ((peHk0_ok ρ).set (ordHook_sound peCx0_ok peCx0_gl (callNF_sound peCx0_ok peCx0_gl (peCx0_hk ρ) _))).set (ordHook_sound peCx0_ok peCx0_gl (callNF_sound peCx0_ok peCx0_gl (peCx0_hk ρ) _))
theorem peCx1_ok : peCx1.Ok Try.prog := by
  unfold peCx1
  exact mkCtxE_ok Try.cxOk peHk1 100
theorem peCx1_gl : peCx1.gl = 0 := by
  unfold peCx1
  exact mkCtxE_gl _ _ _
theorem peCx1_hk (ρ : Env) : HooksOk Try.prog ρ peCx1 := by
  unfold peCx1
  exact (peHk1_ok ρ).ctx
theorem peHead_sound (ρ : Env) : HookSound Try.prog ρ 13 trueHook := trueHook_ok peCx1_ok peCx1_gl ρ (peCx1_hk ρ) peHead
theorem peCx2_ok : peCx2.Ok Try.prog := by
  unfold peCx2
  exact mkCtxE_ok Try.cxOk peHk2 100
theorem peCx2_gl : peCx2.gl = 0 := by
  unfold peCx2
  exact mkCtxE_gl _ _ _
theorem peCx2_hk (ρ : Env) : HooksOk Try.prog ρ peCx2 := by
  unfold peCx2 peHk2
  exact ((peHk1_ok ρ).set (peHead_sound ρ)).ctx
theorem poolErrors_calls (n m k : Int) (W : World) : Calls Try.prog 5 #[.int .i64 n, .int .i64 m, .int .i64 k] W fun e w' => ∃ v, e = .returned v ∧ v = .bool true ∧ Below W.heap.size W w' :=
  law_allYes peCx2_ok peCx2_gl ⟨fun i => if i = 0 then n else if i = 1 then m else k, fun _ => []⟩ (peCx2_hk _) (fun _ hp => by cases hp) (fun L => by simp [conc, Tm.den]) peRun W

set_option maxRecDepth 100000 in
theorem poolErrors_lifted (os : Os) (started : os.Started) (H : Type) (enc : TypeId × Value → H) :
    ReturnsInHanded {} Try.checked os 5 .any (Rows.poolErrorsSpec.pre6 enc Try.prog Try.f5 Rows.poolErrorsRow.domain false) (Rows.poolErrorsSpec.post enc Try.prog Try.f5 false true false false) := by
  refine returnsInHanded_of_change (C := Try.checked) Try.own started (by kernel_rfl) Try.func5
    (ChangeSpec.witness6 (enc := enc) (C := Try.checked) false ⟨#[], #[.int .i64 0, .int .i64 0, .int .i64 0], []⟩ 8 (by kernel_rfl) (by kernel_rfl) (by kernel_rfl) (by kernel_rfl)) ?_
  intro W base args ds gs before hval0 hW hcnd _
  have hval : ∀ (j : Nat) t v, Try.f5.params[j]? = some t → args[j]? = some v → Value.okWide Try.prog W .any base t v := hval0
  have hW' := hW
  obtain ⟨p, q, hA0, hV, rfl, hfz, hnd⟩ := hW
  have hA : DataW.TrodAll enc Try.prog W 0 (fun _ => true) true Try.f5.params.toList args.toList ds p := hA0
  rw [Try.params5] at hA hval
  obtain ⟨v0, v1, v2, d0, d1, d2, p0, p1, p2, rfl, rfl, rfl, h0, h1, h2⟩ := trodAll_three hA
  obtain ⟨rfl, rfl⟩ := trodVars_none hV
  obtain ⟨a, rfl, rfl, rfl, wa⟩ := open_int Try.underlying3 (hval 0 3 v0 rfl rfl) h0
  obtain ⟨b, rfl, rfl, rfl, wb⟩ := open_int Try.underlying3 (hval 1 3 v1 rfl rfl) h1
  obtain ⟨c, rfl, rfl, rfl, wc⟩ := open_int Try.underlying3 (hval 2 3 v2 rfl rfl) h2
  clear hA0 hval0
  simp only [List.append_nil] at hW'
  refine (poolErrors_calls a b c W).mono fun e W' ⟨v, he, hv, hw⟩ => ?_
  subst he; subst hv
  exact ⟨_, rfl, post_plain hW' hw (fun _ _ _ => trodAll_mk1 (shut_bool Try.underlying4 true)) (fun sp => trodAll_mk3 (shut_int Try.underlying3 wa) (shut_int Try.underlying3 wb) (shut_int Try.underlying3 wc)) (fun _ => rfl)
    (ok_one (by kernel_rfl) rfl (okWide_bool_mk Try.underlying4 true))⟩

theorem poolErrors_holds : Rows.PoolErrorsSaid :=
  OpenClaim.holds_of_wide 5 Try.f5 rfl rfl rfl rfl rfl rfl rfl ⟨rfl, rfl, rfl, rfl, rfl⟩ rfl rfl rfl rfl rfl (by kernel_rfl) Try.func5 (by kernel_rfl)
    (of_decide_eq_true (by kernel_rfl)) (by unfold Func.isWrapper; first | (rw [if_pos (by decide +kernel)]; kernel_rfl) | (rw [if_neg (by decide +kernel)]; exact ⟨rfl, rfl⟩))
    (fun os started H enc _ => poolErrors_lifted os started H enc)
end Go.Proofs.Ytaldffnpppdobaa
