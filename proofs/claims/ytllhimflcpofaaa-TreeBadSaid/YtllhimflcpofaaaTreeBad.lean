/- 'TreeBad' of the trees: for every number and every text the law answers true, and the arguments read as they did. Proved by running the program's form in a
   verified abstract executor (the texts E1 .. E38), in the kernel. No condition. -/
import Derived.Test.YtllhimflcpofaaaRows
import Derived.Test.YtllhimflcpofaaaE38
namespace Go.Proofs.Ytllhimflcpofaaa
open Go.ChangeShapes Go.WideShapes Go.ChangeAt Go.ChangeMaps Go.RowKit Ab

theorem Try.own : ownKnob Try.prog.godebug = none := by kernel_rfl
theorem Try.cxOk : (mkCtx Try.prog).Ok Try.prog := mkCtx_ok (by decide +kernel) (by kernel_rfl)
noncomputable def tbHk : Tr (List AV → St → T (AV × St)) := Tr.set .nil 4 trueHook
noncomputable def tbCx : Ctx := mkCtxE Try.prog tbHk 100
theorem tbHead : (summ (callNF (mkCtx Try.prog) 1000000 4 [] (St.with_ []))).allYes = true := by kernel_rfl
theorem tbRun : (summ (callNF tbCx 1000000 3 [.int .i64 (.v 0), .str (.v 0)] (St.with_ []))).allYes = true := by kernel_rfl
theorem tbHead_sound (ρ : Env) : HookSound Try.prog ρ 4 trueHook := trueHook_ok Try.cxOk (mkCtx_gl _) ρ hooksOk_nil tbHead
theorem tbHooks (ρ : Env) : HooksOk Try.prog ρ tbCx := by
  unfold tbCx tbHk
  exact hooksOk_one (tbHead_sound ρ)
theorem tbCx_ok : tbCx.Ok Try.prog := by
  unfold tbCx
  exact mkCtxE_ok Try.cxOk tbHk 100
theorem tbCx_gl : tbCx.gl = 0 := by
  unfold tbCx
  exact mkCtxE_gl _ _ _
theorem treeBad_calls (n : Int) (s : ByteArray) (W : World) : Calls Try.prog 3 #[.int .i64 n, .string s] W fun e w' => ∃ v, e = .returned v ∧ v = .bool true ∧ Below W.heap.size W w' :=
  law_allYes tbCx_ok tbCx_gl ⟨fun _ => n, fun _ => s.data.toList⟩ (tbHooks _) (fun _ hp => by cases hp) (fun L => by simp [conc, Tm.den, STm.den]) tbRun W

set_option maxRecDepth 100000 in
theorem treeBad_lifted (os : Os) (started : os.Started) (H : Type) (enc : TypeId × Value → H) :
    ReturnsInHanded {} Try.checked os 3 .any (Rows.treeBadSpec.pre6 enc Try.prog Try.f3 Rows.treeBadRow.domain false) (Rows.treeBadSpec.post enc Try.prog Try.f3 false true false false) := by
  refine returnsInHanded_of_change (C := Try.checked) Try.own started (by kernel_rfl) Try.func3
    (ChangeSpec.witness6 (enc := enc) (C := Try.checked) false ⟨#[], #[.int .i64 0, .string ⟨#[]⟩], []⟩ 8 (by kernel_rfl) (by kernel_rfl) (by kernel_rfl) (by kernel_rfl)) ?_
  intro W base args ds gs before hval0 hW hcnd _
  have hval : ∀ (j : Nat) t v, Try.f3.params[j]? = some t → args[j]? = some v → Value.okWide Try.prog W .any base t v := hval0
  have hW' := hW
  obtain ⟨p, q, hA0, hV, rfl, hfz, hnd⟩ := hW
  have hA : DataW.TrodAll enc Try.prog W 0 (fun _ => true) true Try.f3.params.toList args.toList ds p := hA0
  rw [Try.params3] at hA hval
  obtain ⟨v0, v1, d0, d1, p0, p1, rfl, rfl, rfl, h0, h1⟩ := trodAll_two hA
  obtain ⟨rfl, rfl⟩ := trodVars_none hV
  obtain ⟨a, rfl, rfl, rfl, wa⟩ := open_int Try.underlying3 (hval 0 3 v0 rfl rfl) h0
  obtain ⟨b, rfl, rfl, rfl, wb⟩ := open_string Try.underlying9 (hval 1 9 v1 rfl rfl) h1
  clear hA0 hval0
  simp only [List.append_nil] at hW'
  refine (treeBad_calls a b W).mono fun e W' ⟨v, he, hv, hw⟩ => ?_
  subst he; subst hv
  exact ⟨_, rfl, post_plain hW' hw (fun _ _ _ => trodAll_mk1 (shut_bool Try.underlying4 true)) (fun sp => trodAll_mk2 (shut_int Try.underlying3 wa) (shut_string Try.underlying9 wb)) (fun _ => rfl)
    (ok_one (by kernel_rfl) rfl (okWide_bool_mk Try.underlying4 true))⟩

theorem treeBad_holds : Rows.TreeBadSaid :=
  OpenClaim.holds_of_wide 3 Try.f3 rfl rfl rfl rfl rfl rfl rfl ⟨rfl, rfl, rfl, rfl, rfl⟩ rfl rfl rfl rfl rfl (by kernel_rfl) Try.func3 (by kernel_rfl)
    (of_decide_eq_true (by kernel_rfl)) (by unfold Func.isWrapper; first | (rw [if_pos (by decide +kernel)]; kernel_rfl) | (rw [if_neg (by decide +kernel)]; exact ⟨rfl, rfl⟩))
    (fun os started H enc _ => treeBad_lifted os started H enc)
end Go.Proofs.Ytllhimflcpofaaa
