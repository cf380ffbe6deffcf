/- 'ScriptParses': whatever list of steps and text: the law answers true, and the arguments read as they did; the package variables hold at the start what the
   program's text lays (the tied card). The functions of the script are walked; 'head' is run by a verified abstract executor, in the kernel. No other
   condition. -/
import Derived.Test.YtcdpepaffpboeaaDoorScParses
import Derived.Test.YtcdpepaffpboeaaDoorScListArg
import Derived.Test.YtcdpepaffpboeaaDoorScOpen
import Derived.Test.YtcdpepaffpboeaaDoorScHead
import Derived.Test.YtcdpepaffpboeaaDoorCards
import Derived.Test.YtcdpepaffpboeaaDoorTie
import Derived.ProofKit
import Derived.LaidMore
import Derived.Lay
import Derived.MakeChecks
import Derived.SevenTiedAt
import Derived.Test.YtcdpepaffpboeaaDoorG4
namespace Go.Proofs.YtcdpepaffpboeaaDoor
open Go.ChangeShapes Go.WideShapes Go.ChangeAt Go.ChangeMaps Go.RowKit Ab

theorem Tryd.own : ownKnob Tryd.prog.godebug = none := by kernel_rfl
theorem parses_calls (o : Option Addr) (c : Nat) (rs : List StepR) (s : ByteArray) {W : World} (hin : ListIn W o rs) (h : SV W) : Calls Tryd.prog 5 #[.slice o rs.length c, .string s] W fun e w' => ∃ v, e = .returned v ∧ v = .bool true ∧ Below W.heap.size W w' :=
  (Tryd.Parses_walk o c rs s W h hin (fun _ h => head_calls h.toSVars)).mono fun _ _ he => ⟨_, he.1, rfl, he.2⟩
theorem and_mk {a b : Bool} (ha : a = true) (hb : b = true) : (a && b) = true := by rw [ha, hb]; rfl
theorem jf2 : laidOutB Tryd.prog = true := by kernel_rfl
theorem jf3 : mapsRowed Tryd.prog = true := by kernel_rfl
theorem jf10 : (Rows.scriptParsesRow.inPlace == Tryd.prog.inPlace 5) = true := by kernel_rfl
theorem jf11 : (Rows.scriptParsesRow.unfollowed == Tryd.prog.unfollowed 5) = true := by kernel_rfl
theorem jf12 : (Rows.scriptParsesRow.recurses == Tryd.prog.recurses 5) = true := by kernel_rfl
theorem jf13 : (Rows.scriptParsesRow.named == Tryd.prog.varsNamed 5) = true := by kernel_rfl
theorem jf25 : Tryd.prog.stopsHeard = true := by kernel_rfl
theorem jf26 : Tryd.prog.mayEnter = true := by kernel_rfl
theorem jf27 : (Rows.scriptParsesRow.lifted == Tryd.prog.liftsFinal) = true := by kernel_rfl
theorem jfAll : joinedFacts Tryd.prog 5 Tryd.f5 Rows.scriptParsesSpec Rows.scriptParsesRow = true := by
  unfold joinedFacts
  repeat' with_reducible refine and_mk ?_ ?_
  · kernel_rfl
  · exact jf2
  · exact jf3
  · kernel_rfl
  · kernel_rfl
  · kernel_rfl
  · kernel_rfl
  · kernel_rfl
  · kernel_rfl
  · exact jf10
  · exact jf11
  · exact jf12
  · exact jf13
  · kernel_rfl
  · kernel_rfl
  · kernel_rfl
  · kernel_rfl
  · kernel_rfl
  · kernel_rfl
  · kernel_rfl
  · kernel_rfl
  · kernel_rfl
  · kernel_rfl
  · kernel_rfl
  · exact jf25
  · exact jf26
  · exact jf27
  · kernel_rfl
  · kernel_rfl
  · kernel_rfl
  · kernel_rfl
  · kernel_rfl

theorem fitsAll : ∀ t ∈ Tryd.f5.params.toList, Tryd.prog.readableRec t = true ∧ t < Tryd.prog.types.size := by
  rw [Tryd.params5]
  intro t ht
  have h : ([38, 9].all fun u => Tryd.prog.readableRec u && decide (u < Tryd.prog.types.size)) = true := by kernel_rfl
  have := List.all_eq_true.1 h t (by simpa using ht)
  simpa using this
theorem door_met (os : Os) (args : Array Value) : laidMetH Tryd.prog Rows.scriptParsesRow.laid ((World.laidAll Tryd.prog os Rows.scriptParsesRow.laid).forCall (fun _ _ => 0) ⟨#[], args, []⟩).memory := by
  rw [MakeChecks.laidMetH_plain _ _ _ (by kernel_rfl)]
  exact laidMet_laidAll _ (by kernel_rfl) (by kernel_rfl)
set_option maxRecDepth 100000 in
theorem scriptParses_lifted (os : Os) (started : os.Started) (H : Type) (enc : TypeId × Value → H) :
    ReturnsInHanded {} Tryd.checked os 5 .any (fun w args => (Rows.scriptParsesSpec.pre enc Tryd.prog Tryd.f5 [] false w args ∧ laidMetH Tryd.prog Rows.scriptParsesRow.laid w) ∧ sizedMet enc Tryd.prog Tryd.f5 (OpenSpec.ofChange Rows.scriptParsesSpec) false w args)
      (Rows.scriptParsesSpec.post enc Tryd.prog Tryd.f5 false true false false) := by
  refine returnsInHanded_of_change_open (C := Tryd.checked) (X := fun w _ => laidMetH Tryd.prog Rows.scriptParsesRow.laid w) (fun _ _ _ hh h => h.of_heap hh) Tryd.own started (by kernel_rfl) Tryd.func5
    (ChangeSpec.witness_shaped (enc := enc) (C := Tryd.checked) (os := os) (X := fun w _ => laidMetH Tryd.prog Rows.scriptParsesRow.laid w) false (World.laidAll Tryd.prog os Rows.scriptParsesRow.laid)
      #[.slice none 0 0, .string ⟨#[]⟩] 8 (World.laidAll_os _ _ _) (World.shaped_of_ZipB (by kernel_rfl) (by kernel_rfl)) (by kernel_rfl) (by kernel_rfl) (by kernel_rfl) (door_met os _)) ?_
  intro W base args ds gs before hsh hval0 hW _ hwt hL _
  have hval : ∀ (j : Nat) t v, Tryd.f5.params[j]? = some t → args[j]? = some v → Value.okWide Tryd.prog W .any base t v := hval0
  have hW' := hW
  obtain ⟨p, q, hA0, hV, rfl, hfz, hnd⟩ := hW
  have hA : DataW.TrodAll enc Tryd.prog W 0 (fun _ => true) true Tryd.f5.params.toList args.toList ds p := hA0
  have hA' := hA
  rw [Tryd.params5] at hA' hval
  obtain ⟨v0, v1, d0, d1, p0, p1, rfl, rfl, rfl, h0, h1⟩ := trodAll_two hA'
  obtain ⟨rfl, rfl⟩ := trodVars_none hV
  have hwt0 : (DataW.weightsEach Tryd.prog (Tryd.f5.params.toList ++ Rows.scriptParsesSpec.plain.varTypes Tryd.prog) ([d0, d1] ++ [])).all (· ≤ reachBytes) = true := hwt
  have hwd : ∀ n ∈ d0.weights Tryd.prog 38, n ≤ reachBytes := fun n hn => of_decide_eq_true (List.all_eq_true.1 hwt0 n (DataW.weights_mem_each (j := 0) (t := 38) (d := d0) (by rw [Tryd.params5]; rfl) rfl n hn))
  obtain ⟨o, c, rs, rfl, hin⟩ := open_list (hval 0 38 v0 rfl rfl) h0 hwd
  obtain ⟨s, rfl, _, _, _⟩ := open_string Tryd.underlying9 (hval 1 9 v1 rfl rfl) h1
  have hq : SV W := sv_of_laid hL hsh
  clear hA0 hval0
  simp only [List.append_nil] at hW'
  refine (parses_calls o c rs s hin hq).mono fun e W' ⟨v, he, hv, hw⟩ => ?_
  subst he; subst hv
  exact ⟨_, rfl, post_old jf2 fitsAll rfl hW' hA hw rfl rfl (fun _ _ _ => trodAll_mk1 (shut_bool Tryd.underlying4 true)) (ok_one (by kernel_rfl) rfl (okWide_bool_mk Tryd.underlying4 true))⟩

theorem fnLaw : Tryd.prog.funcNamed "dockmaster/dockmasterlaw23.ScriptParses" = some 5 := by kernel_rfl
theorem scriptParses_holds : Rows.ScriptParsesSaid :=
  OpenClaim.holds_of_wide 5 Tryd.f5 rfl rfl rfl rfl rfl rfl rfl ⟨rfl, rfl, rfl, rfl, rfl⟩ rfl rfl rfl rfl rfl fnLaw Tryd.func5 jfAll
    (of_decide_eq_true (by kernel_rfl)) (by unfold Func.isWrapper; first | (rw [if_pos (by decide +kernel)]; kernel_rfl) | (rw [if_neg (by decide +kernel)]; exact ⟨rfl, rfl⟩))
    (fun os started H enc _ => scriptParses_lifted os started H enc)
theorem cdMain : Tryd.prog.mainIs = some (true, ("27b7f83b8f0077f1e729af89e18ba3ccf17506be1160496e46d4cfa4b022869f" : String).toList) := by kernel_rfl
theorem cdLooks : true = Tryd.prog.looks [] := by kernel_rfl
theorem cdGoes : false = Rows.scriptParsesRow.goesBy Tryd.prog := by kernel_rfl
theorem cdStand : ([38, 9].all fun u => !Tryd.prog.wantsStandIn u) = true := by kernel_rfl
theorem scriptParsesCard_holds : Rows.ScriptParsesCardSaid :=
  Claim7.holds_tied_plain_at .later [] [.data, .data, .data, .data, .sentinel, .sentinel, .widerDeep, .widerDeep, .pinned] true (true, "27b7f83b8f0077f1e729af89e18ba3ccf17506be1160496e46d4cfa4b022869f") true
    scriptParses_holds (fun _ h => by cases h) (by kernel_rfl) (fun _ h => by cases h) scriptParses_row_tie rfl ⟨rfl, rfl⟩ cdMain rfl
    (fun f fn hf hfn => by
      obtain rfl : f = 5 := Option.some.inj (fnLaw.symm.trans hf) |>.symm
      obtain rfl : fn = Tryd.f5 := (Option.some.inj (Tryd.func5.symm.trans hfn)).symm
      exact ⟨cdLooks, fun j t ht => by
        rw [Tryd.params5] at ht
        have hm : t ∈ [38, 9] := by simpa using Array.mem_of_getElem? ht
        exact (show Tryd.prog.wantsStandIn t = false by simpa using List.all_eq_true.1 cdStand t hm)⟩)
    cdGoes
end Go.Proofs.YtcdpepaffpboeaaDoor

