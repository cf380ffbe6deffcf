/- 'ScriptReads': whatever line: the law answers true, and the arguments read as they did; the package variables hold at the start what the
   program's text lays (the tied card). The functions of the script are walked; 'head' is run by a verified abstract executor, in the kernel. No other
   condition. -/
import Derived.Test.YtcdpepaffpboeaaDoorScReads
import Derived.Test.YtcdpepaffpboeaaDoorScOpen
import Derived.Test.YtcdpepaffpboeaaDoorScHead
import Derived.Test.YtcdpepaffpboeaaDoorCards
import Derived.Test.YtcdpepaffpboeaaDoorTie
import Derived.ProofKit
import Derived.LaidMore
import Derived.Lay
import Derived.MakeChecks
import Derived.SevenTiedAt
namespace Go.Proofs.YtcdpepaffpboeaaDoor
open Go.ChangeShapes Go.WideShapes Go.ChangeAt Go.ChangeMaps Go.RowKit Ab

theorem Tryd.own : ownKnob Tryd.prog.godebug = none := by kernel_rfl
theorem reads_calls (s : ByteArray) {W : World} (h : SV W) : Calls Tryd.prog 3 #[.string s] W fun e w' => ∃ v, e = .returned v ∧ v = .bool true ∧ Below W.heap.size W w' :=
  (Tryd.Reads_walk s W h (head_calls h.toSVars)).mono fun _ _ he => ⟨_, he.1, rfl, he.2⟩
theorem door_met (os : Os) (args : Array Value) : laidMetH Tryd.prog Rows.scriptReadsRow.laid ((World.laidAll Tryd.prog os Rows.scriptReadsRow.laid).forCall (fun _ _ => 0) ⟨#[], args, []⟩).memory := by
  rw [MakeChecks.laidMetH_plain _ _ _ (by kernel_rfl)]
  exact laidMet_laidAll _ (by kernel_rfl) (by kernel_rfl)
set_option maxRecDepth 100000 in
theorem scriptReads_lifted (os : Os) (started : os.Started) (H : Type) (enc : TypeId × Value → H) :
    ReturnsInHanded {} Tryd.checked os 3 .any (fun w args => (Rows.scriptReadsSpec.pre enc Tryd.prog Tryd.f3 [] false w args ∧ laidMetH Tryd.prog Rows.scriptReadsRow.laid w) ∧ sizedMet enc Tryd.prog Tryd.f3 (OpenSpec.ofChange Rows.scriptReadsSpec) false w args)
      (Rows.scriptReadsSpec.post enc Tryd.prog Tryd.f3 false true false false) := by
  refine returnsInHanded_of_change_open (C := Tryd.checked) (X := fun w _ => laidMetH Tryd.prog Rows.scriptReadsRow.laid w) (fun _ _ _ hh h => h.of_heap hh) Tryd.own started (by kernel_rfl) Tryd.func3
    (ChangeSpec.witness_shaped (enc := enc) (C := Tryd.checked) (os := os) (X := fun w _ => laidMetH Tryd.prog Rows.scriptReadsRow.laid w) false (World.laidAll Tryd.prog os Rows.scriptReadsRow.laid)
      #[.string ⟨#[]⟩] 8 (World.laidAll_os _ _ _) (World.shaped_of_ZipB (by kernel_rfl) (by kernel_rfl)) (by kernel_rfl) (by kernel_rfl) (by kernel_rfl) (door_met os _)) ?_
  intro W base args ds gs before hsh hval0 hW _ _ hL _
  have hval : ∀ (j : Nat) t v, Tryd.f3.params[j]? = some t → args[j]? = some v → Value.okWide Tryd.prog W .any base t v := hval0
  have hW' := hW
  obtain ⟨p, q, hA0, hV, rfl, hfz, hnd⟩ := hW
  have hA : DataW.TrodAll enc Tryd.prog W 0 (fun _ => true) true Tryd.f3.params.toList args.toList ds p := hA0
  rw [Tryd.params3] at hA hval
  obtain ⟨v0, d0, rfl, rfl, h0⟩ := trodAll_one hA
  obtain ⟨rfl, rfl⟩ := trodVars_none hV
  obtain ⟨s, rfl, rfl, rfl, ws⟩ := open_string Tryd.underlying9 (hval 0 9 v0 rfl rfl) h0
  have hq : SV W := sv_of_laid hL hsh
  clear hA0 hval0
  simp only [List.append_nil] at hW'
  refine (reads_calls s hq).mono fun e W' ⟨v, he, hv, hw⟩ => ?_
  subst he; subst hv
  exact ⟨_, rfl, post_plain hW' hw (fun _ _ _ => trodAll_mk1 (shut_bool Tryd.underlying4 true)) (fun sp => trodAll_mk1 (shut_string Tryd.underlying9 ws)) (fun _ => rfl)
    (ok_one (by kernel_rfl) rfl (okWide_bool_mk Tryd.underlying4 true))⟩

theorem and_mk {a b : Bool} (ha : a = true) (hb : b = true) : (a && b) = true := by rw [ha, hb]; rfl
theorem jf2 : laidOutB Tryd.prog = true := by kernel_rfl
theorem jf3 : mapsRowed Tryd.prog = true := by kernel_rfl
theorem jf10 : (Rows.scriptReadsRow.inPlace == Tryd.prog.inPlace 3) = true := by kernel_rfl
theorem jf11 : (Rows.scriptReadsRow.unfollowed == Tryd.prog.unfollowed 3) = true := by kernel_rfl
theorem jf12 : (Rows.scriptReadsRow.recurses == Tryd.prog.recurses 3) = true := by kernel_rfl
theorem jf13 : (Rows.scriptReadsRow.named == Tryd.prog.varsNamed 3) = true := by kernel_rfl
theorem jf25 : Tryd.prog.stopsHeard = true := by kernel_rfl
theorem jf26 : Tryd.prog.mayEnter = true := by kernel_rfl
theorem jf27 : (Rows.scriptReadsRow.lifted == Tryd.prog.liftsFinal) = true := by kernel_rfl
theorem jfAll : joinedFacts Tryd.prog 3 Tryd.f3 Rows.scriptReadsSpec Rows.scriptReadsRow = true := by
  unfold joinedFacts
  repeat' with_reducible refine and_mk ?_ ?_
  · kernel_rfl
  · exact jf2
  · exact jf3
  · kernel_rfl
  · kernel_rfl
  · kernel_rfl
  · kernel_rfl
  · kernel_rfl
  · kernel_rfl
  · exact jf10
  · exact jf11
  · exact jf12
  · exact jf13
  · kernel_rfl
  · kernel_rfl
  · kernel_rfl
  · kernel_rfl
  · kernel_rfl
  · kernel_rfl
  · kernel_rfl
  · kernel_rfl
  · kernel_rfl
  · kernel_rfl
  · kernel_rfl
  · exact jf25
  · exact jf26
  · exact jf27
  · kernel_rfl
  · kernel_rfl
  · kernel_rfl
  · kernel_rfl
  · kernel_rfl

theorem fnLaw : Tryd.prog.funcNamed "dockmaster/dockmasterlaw23.ScriptReads" = some 3 := by kernel_rfl
theorem scriptReads_holds : Rows.ScriptReadsSaid :=
  OpenClaim.holds_of_wide 3 Tryd.f3 rfl rfl rfl rfl rfl rfl rfl ⟨rfl, rfl, rfl, rfl, rfl⟩ rfl rfl rfl rfl rfl fnLaw Tryd.func3 jfAll
    (of_decide_eq_true (by kernel_rfl)) (by unfold Func.isWrapper; first | (rw [if_pos (by decide +kernel)]; kernel_rfl) | (rw [if_neg (by decide +kernel)]; exact ⟨rfl, rfl⟩))
    (fun os started H enc _ => scriptReads_lifted os started H enc)
theorem cdMain : Tryd.prog.mainIs = some (true, ("27b7f83b8f0077f1e729af89e18ba3ccf17506be1160496e46d4cfa4b022869f" : String).toList) := by kernel_rfl
theorem cdLooks : true = Tryd.prog.looks [] := by kernel_rfl
theorem cdGoes : false = Rows.scriptReadsRow.goesBy Tryd.prog := by kernel_rfl
theorem cdStand : ([9].all fun u => !Tryd.prog.wantsStandIn u) = true := by kernel_rfl
theorem scriptReadsCard_holds : Rows.ScriptReadsCardSaid :=
  Claim7.holds_tied_plain_at .later [] [.data, .data, .data, .data, .sentinel, .sentinel, .widerDeep, .widerDeep, .pinned] true (true, "27b7f83b8f0077f1e729af89e18ba3ccf17506be1160496e46d4cfa4b022869f") true
    scriptReads_holds (fun _ h => by cases h) (by kernel_rfl) (fun _ h => by cases h) scriptReads_row_tie rfl ⟨rfl, rfl⟩ cdMain rfl
    (fun f fn hf hfn => by
      obtain rfl : f = 3 := Option.some.inj (fnLaw.symm.trans hf) |>.symm
      obtain rfl : fn = Tryd.f3 := (Option.some.inj (Tryd.func3.symm.trans hfn)).symm
      exact ⟨cdLooks, fun j t ht => by
        rw [Tryd.params3] at ht
        have hm : t ∈ [9] := by simpa using Array.mem_of_getElem? ht
        exact (show Tryd.prog.wantsStandIn t = false by simpa using List.all_eq_true.1 cdStand t hm)⟩)
    cdGoes
end Go.Proofs.YtcdpepaffpboeaaDoor

