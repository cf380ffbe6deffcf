/- 'ScriptForms': whatever two numbers: the law answers true, and the arguments read as they did; the package variables hold at the start what the
   program's text lays (the tied card). The functions of the script are walked; 'head' is run by a verified abstract executor, in the kernel. No other
   condition. -/
import Derived.Test.YtcdpepaffpboeaaDoorScForms
import Derived.Test.YtcdpepaffpboeaaDoorScOpen
import Derived.Test.YtcdpepaffpboeaaDoorScHead
import Derived.Test.YtcdpepaffpboeaaDoorCards
import Derived.Test.YtcdpepaffpboeaaDoorTie
import Derived.ProofKit
import Derived.LaidMore
import Derived.Lay
import Derived.MakeChecks
import Derived.SevenTiedAt
namespace Go.Proofs.YtcdpepaffpboeaaDoor
open Go.ChangeShapes Go.WideShapes Go.ChangeAt Go.ChangeMaps Go.RowKit Ab

theorem Tryd.own : ownKnob Tryd.prog.godebug = none := by kernel_rfl
theorem forms_calls (a b : Int) (ha : (Lit.int .i64 a).wf = true) (hb : (Lit.int .i64 b).wf = true) {W : World} (h : SV W) : Calls Tryd.prog 6 #[.int .i64 a, .int .i64 b] W fun e w' => ∃ v, e = .returned v ∧ v = .bool true ∧ Below W.heap.size W w' :=
  (Tryd.Forms_walk a b W h (wf_range hb).1 (wf_range hb).2 (head_calls h.toSVars)).mono fun _ _ he => ⟨_, he.1, rfl, he.2⟩
theorem door_met (os : Os) (args : Array Value) : laidMetH Tryd.prog Rows.scriptFormsRow.laid ((World.laidAll Tryd.prog os Rows.scriptFormsRow.laid).forCall (fun _ _ => 0) ⟨#[], args, []⟩).memory := by
  rw [MakeChecks.laidMetH_plain _ _ _ (by kernel_rfl)]
  exact laidMet_laidAll _ (by kernel_rfl) (by kernel_rfl)
set_option maxRecDepth 100000 in
theorem scriptForms_lifted (os : Os) (started : os.Started) (H : Type) (enc : TypeId × Value → H) :
    ReturnsInHanded {} Tryd.checked os 6 .any (fun w args => (Rows.scriptFormsSpec.pre enc Tryd.prog Tryd.f6 [] false w args ∧ laidMetH Tryd.prog Rows.scriptFormsRow.laid w) ∧ sizedMet enc Tryd.prog Tryd.f6 (OpenSpec.ofChange Rows.scriptFormsSpec) false w args)
      (Rows.scriptFormsSpec.post enc Tryd.prog Tryd.f6 false true false false) := by
  refine returnsInHanded_of_change_open (C := Tryd.checked) (X := fun w _ => laidMetH Tryd.prog Rows.scriptFormsRow.laid w) (fun _ _ _ hh h => h.of_heap hh) Tryd.own started (by kernel_rfl) Tryd.func6
    (ChangeSpec.witness_shaped (enc := enc) (C := Tryd.checked) (os := os) (X := fun w _ => laidMetH Tryd.prog Rows.scriptFormsRow.laid w) false (World.laidAll Tryd.prog os Rows.scriptFormsRow.laid)
      #[.int .i64 0, .int .i64 0] 8 (World.laidAll_os _ _ _) (World.shaped_of_ZipB (by kernel_rfl) (by kernel_rfl)) (by kernel_rfl) (by kernel_rfl) (by kernel_rfl) (door_met os _)) ?_
  intro W base args ds gs before hsh hval0 hW _ _ hL _
  have hval : ∀ (j : Nat) t v, Tryd.f6.params[j]? = some t → args[j]? = some v → Value.okWide Tryd.prog W .any base t v := hval0
  have hW' := hW
  obtain ⟨p, q, hA0, hV, rfl, hfz, hnd⟩ := hW
  have hA : DataW.TrodAll enc Tryd.prog W 0 (fun _ => true) true Tryd.f6.params.toList args.toList ds p := hA0
  rw [Tryd.params6] at hA hval
  obtain ⟨v0, v1, d0, d1, p0, p1, rfl, rfl, rfl, h0, h1⟩ := trodAll_two hA
  obtain ⟨rfl, rfl⟩ := trodVars_none hV
  obtain ⟨a, rfl, rfl, rfl, wa⟩ := open_int Tryd.underlying3 (hval 0 3 v0 rfl rfl) h0
  obtain ⟨b, rfl, rfl, rfl, wb⟩ := open_int Tryd.underlying3 (hval 1 3 v1 rfl rfl) h1
  have hq : SV W := sv_of_laid hL hsh
  clear hA0 hval0
  simp only [List.append_nil] at hW'
  refine (forms_calls a b wa wb hq).mono fun e W' ⟨v, he, hv, hw⟩ => ?_
  subst he; subst hv
  exact ⟨_, rfl, post_plain hW' hw (fun _ _ _ => trodAll_mk1 (shut_bool Tryd.underlying4 true)) (fun sp => trodAll_mk2 (shut_int Tryd.underlying3 wa) (shut_int Tryd.underlying3 wb)) (fun _ => rfl)
    (ok_one (by kernel_rfl) rfl (okWide_bool_mk Tryd.underlying4 true))⟩

theorem and_mk {a b : Bool} (ha : a = true) (hb : b = true) : (a && b) = true := by rw [ha, hb]; rfl
theorem jf2 : laidOutB Tryd.prog = true := by kernel_rfl
theorem jf3 : mapsRowed Tryd.prog = true := by kernel_rfl
theorem jf10 : (Rows.scriptFormsRow.inPlace == Tryd.prog.inPlace 6) = true := by kernel_rfl
theorem jf11 : (Rows.scriptFormsRow.unfollowed == Tryd.prog.unfollowed 6) = true := by kernel_rfl
theorem jf12 : (Rows.scriptFormsRow.recurses == Tryd.prog.recurses 6) = true := by kernel_rfl
theorem jf13 : (Rows.scriptFormsRow.named == Tryd.prog.varsNamed 6) = true := by kernel_rfl
theorem jf25 : Tryd.prog.stopsHeard = true := by kernel_rfl
theorem jf26 : Tryd.prog.mayEnter = true := by kernel_rfl
theorem jf27 : (Rows.scriptFormsRow.lifted == Tryd.prog.liftsFinal) = true := by kernel_rfl
theorem jfAll : joinedFacts Tryd.prog 6 Tryd.f6 Rows.scriptFormsSpec Rows.scriptFormsRow = true := by
  unfold joinedFacts
  repeat' with_reducible refine and_mk ?_ ?_
  · kernel_rfl
  · exact jf2
  · exact jf3
  · kernel_rfl
  · kernel_rfl
  · kernel_rfl
  · kernel_rfl
  · kernel_rfl
  · kernel_rfl
  · exact jf10
  · exact jf11
  · exact jf12
  · exact jf13
  · kernel_rfl
  · kernel_rfl
  · kernel_rfl
  · kernel_rfl
  · kernel_rfl
  · kernel_rfl
  · kernel_rfl
  · kernel_rfl
  · kernel_rfl
  · kernel_rfl
  · kernel_rfl
  · exact jf25
  · exact jf26
  · exact jf27
  · kernel_rfl
  · kernel_rfl
  · kernel_rfl
  · kernel_rfl
  · kernel_rfl

theorem fnLaw : Tryd.prog.funcNamed "dockmaster/dockmasterlaw23.ScriptForms" = some 6 := by kernel_rfl
theorem scriptForms_holds : Rows.ScriptFormsSaid :=
  OpenClaim.holds_of_wide 6 Tryd.f6 rfl rfl rfl rfl rfl rfl rfl ⟨rfl, rfl, rfl, rfl, rfl⟩ rfl rfl rfl rfl rfl fnLaw Tryd.func6 jfAll
    (of_decide_eq_true (by kernel_rfl)) (by unfold Func.isWrapper; first | (rw [if_pos (by decide +kernel)]; kernel_rfl) | (rw [if_neg (by decide +kernel)]; exact ⟨rfl, rfl⟩))
    (fun os started H enc _ => scriptForms_lifted os started H enc)
theorem cdMain : Tryd.prog.mainIs = some (true, ("27b7f83b8f0077f1e729af89e18ba3ccf17506be1160496e46d4cfa4b022869f" : String).toList) := by kernel_rfl
theorem cdLooks : true = Tryd.prog.looks [] := by kernel_rfl
theorem cdGoes : false = Rows.scriptFormsRow.goesBy Tryd.prog := by kernel_rfl
theorem cdStand : ([3, 3].all fun u => !Tryd.prog.wantsStandIn u) = true := by kernel_rfl
theorem scriptFormsCard_holds : Rows.ScriptFormsCardSaid :=
  Claim7.holds_tied_plain_at .later [] [.data, .data, .data, .data, .sentinel, .sentinel, .widerDeep, .widerDeep, .pinned] true (true, "27b7f83b8f0077f1e729af89e18ba3ccf17506be1160496e46d4cfa4b022869f") true
    scriptForms_holds (fun _ h => by cases h) (by kernel_rfl) (fun _ h => by cases h) scriptForms_row_tie rfl ⟨rfl, rfl⟩ cdMain rfl
    (fun f fn hf hfn => by
      obtain rfl : f = 6 := Option.some.inj (fnLaw.symm.trans hf) |>.symm
      obtain rfl : fn = Tryd.f6 := (Option.some.inj (Tryd.func6.symm.trans hfn)).symm
      exact ⟨cdLooks, fun j t ht => by
        rw [Tryd.params6] at ht
        have hm : t ∈ [3, 3] := by simpa using Array.mem_of_getElem? ht
        exact (show Tryd.prog.wantsStandIn t = false by simpa using List.all_eq_true.1 cdStand t hm)⟩)
    cdGoes
end Go.Proofs.YtcdpepaffpboeaaDoor

