/- 'DueMoves' of the queue of due times: for every two task ids and every three times, the law answers true, and the arguments read as they did. Proved by
   running the program's form in a verified abstract executor (the texts E1 .. E33), once, in the kernel. No condition. -/
import Derived.Test.YtdohclfkbfeihaaRows
import Derived.Test.YtdohclfkbfeihaaDueNil
namespace Go.Proofs.Ytdohclfkbfeihaa
open Go.ChangeShapes Go.WideShapes Go.ChangeAt Go.RowKit Ab

theorem dueMoves_sum : (summ (callN (mkCtx Try.prog) 1000000 7 [.agg [.int .u64 (.v 0), .int .i64 (.v 1)], .agg [.int .u64 (.v 2), .int .i64 (.v 3)], .int .i64 (.v 4), .int .i64 (.v 5), .int .i64 (.v 6)] St.init)).allYes = true := by kernel_rfl

theorem dueMoves_calls (x y x' y' a b c : Int) (W : World) :
    Calls Try.prog 7 #[.agg #[.int .u64 x, .int .i64 y], .agg #[.int .u64 x', .int .i64 y'], .int .i64 a, .int .i64 b, .int .i64 c] W fun e w' => ∃ v, e = .returned v ∧ v = .bool true ∧ Below W.heap.size W w' :=
  law_calls Try.cxOk (args := [.agg [.int .u64 (.v 0), .int .i64 (.v 1)], .agg [.int .u64 (.v 2), .int .i64 (.v 3)], .int .i64 (.v 4), .int .i64 (.v 5), .int .i64 (.v 6)]) (k := 1000000)
    ⟨fun i => match i with | 0 => x | 1 => y | 2 => x' | 3 => y' | 4 => a | 5 => b | _ => c, fun _ => []⟩ (fun L => by simp [conc, concs, Tm.den]) (Sum.allYes_at dueMoves_sum) W

set_option maxRecDepth 100000 in
theorem dueMoves_lifted (os : Os) (started : os.Started) (H : Type) (enc : TypeId × Value → H) :
    ReturnsInHanded {} Try.checked os 7 .any (Rows.dueMovesSpec.pre6 enc Try.prog Try.f7 Rows.dueMovesRow.domain false) (Rows.dueMovesSpec.post enc Try.prog Try.f7 false true false false) := by
  refine returnsInHanded_of_change (C := Try.checked) Try.own started (by kernel_rfl) Try.func7
    (ChangeSpec.witness6 (enc := enc) (C := Try.checked) false ⟨#[], #[.agg #[.int .u64 0, .int .i64 0], .agg #[.int .u64 0, .int .i64 0], .int .i64 0, .int .i64 0, .int .i64 0], []⟩ 8 (by kernel_rfl) (by kernel_rfl) (by kernel_rfl) (by kernel_rfl)) ?_
  intro W base args ds gs before hval0 hW hcnd _
  have hval : ∀ (j : Nat) t v, Try.f7.params[j]? = some t → args[j]? = some v → Value.okWide Try.prog W .any base t v := hval0
  have hW' := hW
  obtain ⟨p, q, hA0, hV, rfl, hfz, hnd⟩ := hW
  have hA : DataW.TrodAll enc Try.prog W 0 (fun _ => true) true Try.f7.params.toList args.toList ds p := hA0
  rw [Try.params7] at hA hval
  obtain ⟨v0, v1, v2, v3, v4, d0, d1, d2, d3, d4, p0, p1, p2, p3, p4, rfl, rfl, rfl, h0, h1, h2, h3, h4⟩ := trodAll_5 hA
  obtain ⟨rfl, rfl⟩ := trodVars_none hV
  obtain ⟨x, y, rfl, rfl, rfl, wx, wy⟩ := open_tid (hval 0 30 v0 rfl rfl) h0
  obtain ⟨x', y', rfl, rfl, rfl, wx', wy'⟩ := open_tid (hval 1 30 v1 rfl rfl) h1
  obtain ⟨a, rfl, rfl, rfl, wa⟩ := open_int Try.underlying3 (hval 2 3 v2 rfl rfl) h2
  obtain ⟨b, rfl, rfl, rfl, wb⟩ := open_int Try.underlying3 (hval 3 3 v3 rfl rfl) h3
  obtain ⟨c, rfl, rfl, rfl, wc⟩ := open_int Try.underlying3 (hval 4 3 v4 rfl rfl) h4
  clear hA0 hval0
  simp only [List.append_nil] at hW'
  refine (dueMoves_calls x y x' y' a b c W).mono fun e W' ⟨v, he, hv, hw⟩ => ?_
  subst he; subst hv
  exact ⟨_, rfl, post_plain hW' hw (fun _ _ _ => trodAll_mk1 (shut_bool Try.underlying4 true))
    (fun sp => trodAll_mk_5 (shut_tid wx wy) (shut_tid wx' wy') (shut_int Try.underlying3 wa) (shut_int Try.underlying3 wb) (shut_int Try.underlying3 wc)) (fun _ => rfl)
    (ok_one (by kernel_rfl) rfl (okWide_bool_mk Try.underlying4 true))⟩

theorem dueMoves_holds : Rows.DueMovesSaid :=
  OpenClaim.holds_of_wide 7 Try.f7 rfl rfl rfl rfl rfl rfl rfl ⟨rfl, rfl, rfl, rfl, rfl⟩ rfl rfl rfl rfl rfl (by kernel_rfl) Try.func7 (by kernel_rfl)
    (of_decide_eq_true (by kernel_rfl)) (by unfold Func.isWrapper; first | (rw [if_pos (by decide +kernel)]; kernel_rfl) | (rw [if_neg (by decide +kernel)]; exact ⟨rfl, rfl⟩))
    (fun os started H enc _ => dueMoves_lifted os started H enc)
end Go.Proofs.Ytdohclfkbfeihaa
