/- 'DueRuns' of the queue of due times: whatever list of steps: the law answers true, and the arguments read as they did. The functions of
   the queue and of the heap are walked, each once. No condition. -/
import Derived.Test.YtdohclfkbfeihaaRows
import Derived.Test.YtdohclfkbfeihaaDqRuns
import Derived.Test.YtdohclfkbfeihaaDqOps2
namespace Go.Proofs.Ytdohclfkbfeihaa
open Go.ChangeShapes Go.WideShapes Go.ChangeAt Go.ChangeMaps Go.RowKit
theorem Try.own : ownKnob Try.prog.godebug = none := by kernel_rfl
theorem fitsAll : ∀ t ∈ Try.f5.params.toList, Try.prog.readableRec t = true ∧ t < Try.prog.types.size := by
  rw [Try.params5]
  intro t ht
  have h : ([42].all fun u => Try.prog.readableRec u && decide (u < Try.prog.types.size)) = true := by kernel_rfl
  have := List.all_eq_true.1 h t (by simpa using ht)
  simpa using this
set_option maxRecDepth 100000 in
theorem dueRuns_lifted (os : Os) (started : os.Started) (H : Type) (enc : TypeId × Value → H) :
    ReturnsInHanded {} Try.checked os 5 .any (Rows.dueRunsSpec.pre6 enc Try.prog Try.f5 Rows.dueRunsRow.domain false) (Rows.dueRunsSpec.post enc Try.prog Try.f5 false true false false) := by
  refine returnsInHanded_of_change (C := Try.checked) Try.own started (by kernel_rfl) Try.func5
    (ChangeSpec.witness6 (enc := enc) (C := Try.checked) false ⟨#[], #[.slice none 0 0], []⟩ 8 (by kernel_rfl) (by kernel_rfl) (by kernel_rfl) (by kernel_rfl)) ?_
  intro W base args ds gs before hval0 hW hcnd _
  have hval : ∀ (j : Nat) t v, Try.f5.params[j]? = some t → args[j]? = some v → Value.okWide Try.prog W .any base t v := hval0
  have hW' := hW
  obtain ⟨p, q, hA0, hV, rfl, hfz, hnd⟩ := hW
  have hA : DataW.TrodAll enc Try.prog W 0 (fun _ => true) true Try.f5.params.toList args.toList ds p := hA0
  have hA' := hA
  rw [Try.params5] at hA' hval
  obtain ⟨v0, d0, rfl, rfl, h0⟩ := trodAll_one hA'
  obtain ⟨rfl, rfl⟩ := trodVars_none hV
  obtain ⟨o, c, rs, rfl, hin⟩ := open_ops (hval 0 42 v0 rfl rfl) h0
  clear hA0 hval0
  simp only [List.append_nil] at hW'
  refine (Try.Runs_walk o c rs W hin).mono fun e W' ⟨he, hw⟩ => ?_
  subst he
  exact ⟨_, rfl, post_old Try.laidOut fitsAll rfl hW' hA hw rfl rfl (fun _ _ _ => trodAll_mk1 (shut_bool Try.underlying4 true)) (ok_one (by kernel_rfl) rfl (okWide_bool_mk Try.underlying4 true))⟩
theorem dueRuns_holds : Rows.DueRunsSaid :=
  OpenClaim.holds_of_wide 5 Try.f5 rfl rfl rfl rfl rfl rfl rfl ⟨rfl, rfl, rfl, rfl, rfl⟩ rfl rfl rfl rfl rfl (by kernel_rfl) Try.func5 (by kernel_rfl)
    (of_decide_eq_true (by kernel_rfl)) (by unfold Func.isWrapper; first | (rw [if_pos (by decide +kernel)]; kernel_rfl) | (rw [if_neg (by decide +kernel)]; exact ⟨rfl, rfl⟩))
    (fun os started H enc _ => dueRuns_lifted os started H enc)
end Go.Proofs.Ytdohclfkbfeihaa
