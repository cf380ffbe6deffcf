/- 'SpaceErrors' of the views of a pool: for every number the law answers true, and the argument reads as it did. Proved by running the program's form in a
   verified abstract executor (the texts E1 .. E33), once, in the kernel; the leaves that answer otherwise lie on a path that no number walks. No condition. -/
import Derived.Test.YtaldffnpppdobaaRows
import Derived.Test.YtaldffnpppdobaaE33
namespace Go.Proofs.Ytaldffnpppdobaa
open Go.ChangeShapes Go.WideShapes Go.ChangeAt Go.RowKit Ab

theorem Try.own : ownKnob Try.prog.godebug = none := by kernel_rfl
theorem Try.cxOk : (mkCtx Try.prog).Ok Try.prog := mkCtx_ok (by decide +kernel) (by kernel_rfl)

theorem spaceErrors_sum : summ (callN (mkCtx Try.prog) 1000000 11 [.int .i64 (.v 0)] St.init) =
    .split (.eq (.v 0) (.c 1)) .yes (.split (.lt (.v 0) (.c 1)) .yes (.split (.lt (.v 0) (.c 2))
      (.split (.eq (.v 0) (.c 0)) .no (.split (.lt (.v 0) (.c 0)) .no (.split (.lt (.v 0) (.c 6))
        (.split (.lt (.bin .add .i64 (.c 10) (.v 0)) (.c 0)) .no (.split (.lt (.bin .add .i64 (.c 10) (.v 0)) (.c 16)) (.bad 15) .no)) .no))) .yes)) := by kernel_rfl

theorem spaceErrors_calls (n : Int) (W : World) : Calls Try.prog 11 #[.int .i64 n] W fun e w' => ∃ v, e = .returned v ∧ v = .bool true ∧ Below W.heap.size W w' :=
  law_calls Try.cxOk (args := [.int .i64 (.v 0)]) (k := 1000000) ⟨fun _ => n, fun _ => []⟩ (fun L => by simp [conc, Tm.den]) (by
    rw [spaceErrors_sum]
    by_cases h1 : n = 1
    · simp [Sum.atS, Atom.den, Tm.den, h1]
    · by_cases h2 : n < 1
      · simp [Sum.atS, Atom.den, Tm.den, h1, h2]
      · have h3 : ¬ n < 2 := by omega
        simp [Sum.atS, Atom.den, Tm.den, h1, h2, h3]) W

set_option maxRecDepth 100000 in
theorem spaceErrors_lifted (os : Os) (started : os.Started) (H : Type) (enc : TypeId × Value → H) :
    ReturnsInHanded {} Try.checked os 11 .any (Rows.spaceErrorsSpec.pre6 enc Try.prog Try.f11 Rows.spaceErrorsRow.domain false) (Rows.spaceErrorsSpec.post enc Try.prog Try.f11 false true false false) := by
  refine returnsInHanded_of_change (C := Try.checked) Try.own started (by kernel_rfl) Try.func11
    (ChangeSpec.witness6 (enc := enc) (C := Try.checked) false ⟨#[], #[.int .i64 0], []⟩ 8 (by kernel_rfl) (by kernel_rfl) (by kernel_rfl) (by kernel_rfl)) ?_
  intro W base args ds gs before hval0 hW hcnd _
  have hval : ∀ (j : Nat) t v, Try.f11.params[j]? = some t → args[j]? = some v → Value.okWide Try.prog W .any base t v := hval0
  have hW' := hW
  obtain ⟨p, q, hA0, hV, rfl, hfz, hnd⟩ := hW
  have hA : DataW.TrodAll enc Try.prog W 0 (fun _ => true) true Try.f11.params.toList args.toList ds p := hA0
  rw [Try.params11] at hA hval
  obtain ⟨v0, d0, rfl, rfl, h0⟩ := trodAll_one hA
  obtain ⟨rfl, rfl⟩ := trodVars_none hV
  obtain ⟨a, rfl, rfl, rfl, wa⟩ := open_int Try.underlying3 (hval 0 3 v0 rfl rfl) h0
  clear hA0 hval0
  simp only [List.append_nil] at hW'
  refine (spaceErrors_calls a W).mono fun e W' ⟨v, he, hv, hw⟩ => ?_
  subst he; subst hv
  exact ⟨_, rfl, post_plain hW' hw (fun _ _ _ => trodAll_mk1 (shut_bool Try.underlying4 true)) (fun sp => trodAll_mk1 (shut_int Try.underlying3 wa)) (fun _ => rfl)
    (ok_one (by kernel_rfl) rfl (okWide_bool_mk Try.underlying4 true))⟩

theorem spaceErrors_holds : Rows.SpaceErrorsSaid :=
  OpenClaim.holds_of_wide 11 Try.f11 rfl rfl rfl rfl rfl rfl rfl ⟨rfl, rfl, rfl, rfl, rfl⟩ rfl rfl rfl rfl rfl (by kernel_rfl) Try.func11 (by kernel_rfl)
    (of_decide_eq_true (by kernel_rfl)) (by unfold Func.isWrapper; first | (rw [if_pos (by decide +kernel)]; kernel_rfl) | (rw [if_neg (by decide +kernel)]; exact ⟨rfl, rfl⟩))
    (fun os started H enc _ => spaceErrors_lifted os started H enc)
end Go.Proofs.Ytaldffnpppdobaa
