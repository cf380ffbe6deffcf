/- 'TreeRight' of the trees: for every two texts the law answers true, and the arguments read as they did. Proved by running the program's form in a
   verified abstract executor (the texts E1 .. E38), in the kernel. No condition. -/
import Derived.Test.YtllhimflcpofaaaGreatRows
import Derived.Test.YtllhimflcpofaaaGreatE38
namespace Go.Proofs.YtllhimflcpofaaaGreat
open Go.ChangeShapes Go.WideShapes Go.ChangeAt Go.ChangeMaps Go.RowKit Ab

theorem Tryz.own : ownKnob Tryz.prog.godebug = none := by kernel_rfl
theorem Tryz.cxOk : (mkCtx Tryz.prog).Ok Tryz.prog := mkCtx_ok (by decide +kernel) (by kernel_rfl)
noncomputable def trHk : Tr (List AV → St → T (AV × St)) := Tr.set .nil 6 trueHook
noncomputable def trCx : Ctx := mkCtxE Tryz.prog trHk 100
theorem trHead : (summ (callNF (mkCtx Tryz.prog) 1000000 6 [] (St.with_ []))).allYes = true := by kernel_rfl
theorem trRun : (summ (callNF trCx 1000000 5 [.str (.v 0), .str (.v 1)] (St.with_ []))).allYes = true := by kernel_rfl
theorem trHead_sound (ρ : Env) : HookSound Tryz.prog ρ 6 trueHook := trueHook_ok Tryz.cxOk (mkCtx_gl _) ρ hooksOk_nil trHead
theorem trHooks (ρ : Env) : HooksOk Tryz.prog ρ trCx := by
  unfold trCx trHk
  exact hooksOk_one (trHead_sound ρ)
theorem trCx_ok : trCx.Ok Tryz.prog := by
  unfold trCx
  exact mkCtxE_ok Tryz.cxOk trHk 100
theorem trCx_gl : trCx.gl = 0 := by
  unfold trCx
  exact mkCtxE_gl _ _ _
theorem treeRight_calls (n s : ByteArray) (W : World) : Calls Tryz.prog 5 #[.string n, .string s] W fun e w' => ∃ v, e = .returned v ∧ v = .bool true ∧ Below W.heap.size W w' :=
  law_allYes trCx_ok trCx_gl ⟨fun _ => 0, fun i => if i = 0 then n.data.toList else s.data.toList⟩ (trHooks _) (fun _ hp => by cases hp) (fun L => by simp [conc, STm.den]) trRun W

set_option maxRecDepth 100000 in
theorem treeRight_lifted (os : Os) (started : os.Started) (H : Type) (enc : TypeId × Value → H) :
    ReturnsInHanded {} Tryz.checked os 5 .any (Rows.treeRightSpec.pre6 enc Tryz.prog Tryz.f5 Rows.treeRightRow.domain false) (Rows.treeRightSpec.post enc Tryz.prog Tryz.f5 false true false false) := by
  refine returnsInHanded_of_change (C := Tryz.checked) Tryz.own started (by kernel_rfl) Tryz.func5
    (ChangeSpec.witness6 (enc := enc) (C := Tryz.checked) false ⟨#[], #[.string ⟨#[]⟩, .string ⟨#[]⟩], []⟩ 8 (by kernel_rfl) (by kernel_rfl) (by kernel_rfl) (by kernel_rfl)) ?_
  intro W base args ds gs before hval0 hW hcnd _
  have hval : ∀ (j : Nat) t v, Tryz.f5.params[j]? = some t → args[j]? = some v → Value.okWide Tryz.prog W .any base t v := hval0
  have hW' := hW
  obtain ⟨p, q, hA0, hV, rfl, hfz, hnd⟩ := hW
  have hA : DataW.TrodAll enc Tryz.prog W 0 (fun _ => true) true Tryz.f5.params.toList args.toList ds p := hA0
  rw [Tryz.params5] at hA hval
  obtain ⟨v0, v1, d0, d1, p0, p1, rfl, rfl, rfl, h0, h1⟩ := trodAll_two hA
  obtain ⟨rfl, rfl⟩ := trodVars_none hV
  obtain ⟨a, rfl, rfl, rfl, wa⟩ := open_string Tryz.underlying9 (hval 0 9 v0 rfl rfl) h0
  obtain ⟨b, rfl, rfl, rfl, wb⟩ := open_string Tryz.underlying9 (hval 1 9 v1 rfl rfl) h1
  clear hA0 hval0
  simp only [List.append_nil] at hW'
  refine (treeRight_calls a b W).mono fun e W' ⟨v, he, hv, hw⟩ => ?_
  subst he; subst hv
  exact ⟨_, rfl, post_plain hW' hw (fun _ _ _ => trodAll_mk1 (shut_bool Tryz.underlying4 true)) (fun sp => trodAll_mk2 (shut_string Tryz.underlying9 wa) (shut_string Tryz.underlying9 wb)) (fun _ => rfl)
    (ok_one (by kernel_rfl) rfl (okWide_bool_mk Tryz.underlying4 true))⟩

theorem treeRight_holds : Rows.TreeRightSaid :=
  OpenClaim.holds_of_wide 5 Tryz.f5 rfl rfl rfl rfl rfl rfl rfl ⟨rfl, rfl, rfl, rfl, rfl⟩ rfl rfl rfl rfl rfl (by kernel_rfl) Tryz.func5 (by kernel_rfl)
    (of_decide_eq_true (by kernel_rfl)) (by unfold Func.isWrapper; first | (rw [if_pos (by decide +kernel)]; kernel_rfl) | (rw [if_neg (by decide +kernel)]; exact ⟨rfl, rfl⟩))
    (fun os started H enc _ => treeRight_lifted os started H enc)
end Go.Proofs.YtllhimflcpofaaaGreat
