/- 'SpaceApart' of the views of a pool: for all numbers the law answers true, and the arguments read as they did. Proved by running the program's form in a
   verified abstract executor (the texts E1 .. E36), in the kernel; the library's sorted keys are summed up by the kit's contract. No condition. -/
import Derived.Test.YtaldffnpppdobaaSpaceSorted
namespace Go.Proofs.Ytaldffnpppdobaa
open Go.ChangeShapes Go.WideShapes Go.ChangeAt Go.RowKit Ab

theorem Try.own : ownKnob Try.prog.godebug = none := by kernel_rfl
theorem Try.cxOk : (mkCtx Try.prog).Ok Try.prog := mkCtx_ok (by decide +kernel) (by kernel_rfl)
noncomputable def apHk : Tr (List AV → St → T (AV × St)) := Tr.set .nil 60 (sortedHook 98 3)
noncomputable def apCx : Ctx := mkCtxE Try.prog apHk 100
theorem apRun : (summ (callNF apCx 1000000 10 [.int .i64 (.v 0), .int .i64 (.v 1)] (St.with_ []))).allYes = true := by kernel_rfl
theorem apHooks (ρ : Env) : HooksOk Try.prog ρ apCx := by
  unfold apCx apHk
  exact hooksOk_one (sortedHook_sound Go.Proofs.Try.keysSorted ⟨_, Try.func60, by decide +kernel, by kernel_rfl⟩)
theorem apCx_ok : apCx.Ok Try.prog := by
  unfold apCx
  exact mkCtxE_ok Try.cxOk apHk 100
theorem apCx_gl : apCx.gl = 0 := by
  unfold apCx
  exact mkCtxE_gl _ _ _
theorem spaceApart_calls (n m : Int) (W : World) : Calls Try.prog 10 #[.int .i64 n, .int .i64 m] W fun e w' => ∃ v, e = .returned v ∧ v = .bool true ∧ Below W.heap.size W w' :=
  law_allYes apCx_ok apCx_gl ⟨fun i => if i = 0 then n else m, fun _ => []⟩ (apHooks _) (fun _ hp => by cases hp) (fun L => by simp [conc, Tm.den]) apRun W

set_option maxRecDepth 100000 in
theorem spaceApart_lifted (os : Os) (started : os.Started) (H : Type) (enc : TypeId × Value → H) :
    ReturnsInHanded {} Try.checked os 10 .any (Rows.spaceApartSpec.pre6 enc Try.prog Try.f10 Rows.spaceApartRow.domain false) (Rows.spaceApartSpec.post enc Try.prog Try.f10 false true false false) := by
  refine returnsInHanded_of_change (C := Try.checked) Try.own started (by kernel_rfl) Try.func10
    (ChangeSpec.witness6 (enc := enc) (C := Try.checked) false ⟨#[], #[.int .i64 0, .int .i64 0], []⟩ 8 (by kernel_rfl) (by kernel_rfl) (by kernel_rfl) (by kernel_rfl)) ?_
  intro W base args ds gs before hval0 hW hcnd _
  have hval : ∀ (j : Nat) t v, Try.f10.params[j]? = some t → args[j]? = some v → Value.okWide Try.prog W .any base t v := hval0
  have hW' := hW
  obtain ⟨p, q, hA0, hV, rfl, hfz, hnd⟩ := hW
  have hA : DataW.TrodAll enc Try.prog W 0 (fun _ => true) true Try.f10.params.toList args.toList ds p := hA0
  rw [Try.params10] at hA hval
  obtain ⟨v0, v1, d0, d1, p0, p1, rfl, rfl, rfl, h0, h1⟩ := trodAll_two hA
  obtain ⟨rfl, rfl⟩ := trodVars_none hV
  obtain ⟨a, rfl, rfl, rfl, wa⟩ := open_int Try.underlying3 (hval 0 3 v0 rfl rfl) h0
  obtain ⟨b, rfl, rfl, rfl, wb⟩ := open_int Try.underlying3 (hval 1 3 v1 rfl rfl) h1
  clear hA0 hval0
  simp only [List.append_nil] at hW'
  refine (spaceApart_calls a b W).mono fun e W' ⟨v, he, hv, hw⟩ => ?_
  subst he; subst hv
  exact ⟨_, rfl, post_plain hW' hw (fun _ _ _ => trodAll_mk1 (shut_bool Try.underlying4 true)) (fun sp => trodAll_mk2 (shut_int Try.underlying3 wa) (shut_int Try.underlying3 wb)) (fun _ => rfl)
    (ok_one (by kernel_rfl) rfl (okWide_bool_mk Try.underlying4 true))⟩

theorem spaceApart_holds : Rows.SpaceApartSaid :=
  OpenClaim.holds_of_wide 10 Try.f10 rfl rfl rfl rfl rfl rfl rfl ⟨rfl, rfl, rfl, rfl, rfl⟩ rfl rfl rfl rfl rfl (by kernel_rfl) Try.func10 (by kernel_rfl)
    (of_decide_eq_true (by kernel_rfl)) (by unfold Func.isWrapper; first | (rw [if_pos (by decide +kernel)]; kernel_rfl) | (rw [if_neg (by decide +kernel)]; exact ⟨rfl, rfl⟩))
    (fun os started H enc _ => spaceApart_lifted os started H enc)
end Go.Proofs.Ytaldffnpppdobaa
