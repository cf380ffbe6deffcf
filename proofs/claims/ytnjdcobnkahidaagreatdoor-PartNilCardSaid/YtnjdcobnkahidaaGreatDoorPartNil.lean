/- 'PartNil' of the part: for every message and node number the law answers true, and the arguments read as they did; the package variable
   'conf' holds at the start what the program's text lays (the tied card). Proved by running the program's form in a verified abstract executor (the
   texts E1 .. E42), in the kernel. No other condition. -/
import Derived.Test.YtnjdcobnkahidaaGreatDoorRows
import Derived.Test.YtnjdcobnkahidaaGreatDoorCards
import Derived.Test.YtnjdcobnkahidaaGreatDoorTie
import Derived.Test.YtnjdcobnkahidaaGreatDoorE42
import Derived.ProofKit
import Derived.LaidMore
import Derived.SevenTiedAt
namespace Go.Proofs.YtnjdcobnkahidaaGreatDoor
open Go.ChangeShapes Go.WideShapes Go.ChangeAt Go.ChangeMaps Go.RowKit Ab

theorem Tryz.own : ownKnob Tryz.prog.godebug = none := by kernel_rfl
theorem Tryz.cxOk : (mkCtx Tryz.prog).Ok Tryz.prog := mkCtx_ok (by decide +kernel) (by kernel_rfl)
noncomputable def pnM (b : Bool) : AV := .agg [.int .i64 (.v 1), .int .i64 (.v 2), .int .i64 (.v 3), .int .u64 (.v 4), .int .i64 (.v 5), .int .u64 (.v 6), .int .i64 (.v 7), .int .i64 (.v 8), .str (.v 0), .str (.v 1), .bool b, .int .i64 (.v 9)]
noncomputable def pnGs : List (Nat × AObj) := [(1, .ro 0 [.int .i64 (.c 3000), .int .i64 (.c 800), .int .i64 (.c 8)])]
noncomputable def pnCx0 : Ctx := mkCtxG Tryz.prog .nil 100 2
noncomputable def pnHk (b : Bool) : Tr (List AV → St → T (AV × St)) := Tr.set (Tr.set .nil 19 (globHook pnGs)) 8 (tellHook [pnM b] 100)
noncomputable def pnCx (b : Bool) : Ctx := mkCtxG Tryz.prog (pnHk b) 100 2
theorem pnHead : (summ (keepT pnGs (callNF pnCx0 1000000 19 [] (St.glob pnGs 2 [])))).allYes = true := by kernel_rfl
theorem pnRight : ∀ b, (summ (callNF (mkCtx Tryz.prog) 1000000 8 [pnM b] (St.with_ []))).allBool = true := fun b => by
  cases b
  · kernel_rfl
  · kernel_rfl
theorem pnRun : ∀ b, (summ (keepT pnGs (callNF (pnCx b) 1000000 4 [pnM b, .int .i64 (.v 0)] (St.glob pnGs 2 [])))).allYes = true := fun b => by
  cases b
  · kernel_rfl
  · kernel_rfl
/-- What the symbols stand for; symbol 100: whether the message is right. -/
def pnEnv0 (me a1 a2 a3 a4 a5 a6 a7 a8 a9 : Int) (s t : ByteArray) : Env :=
  { num := fun i => match i with | 0 => me | 1 => a1 | 2 => a2 | 3 => a3 | 4 => a4 | 5 => a5 | 6 => a6 | 7 => a7 | 8 => a8 | _ => a9, txt := fun i => if i = 0 then s.data.toList else t.data.toList }
def pnEnv (me a1 a2 a3 a4 a5 a6 a7 a8 a9 : Int) (s t : ByteArray) (r : Bool) (q : TypeId × (Nat × Nat)) : Env :=
  { num := fun i => match i with | 0 => me | 1 => a1 | 2 => a2 | 3 => a3 | 4 => a4 | 5 => a5 | 6 => a6 | 7 => a7 | 8 => a8 | 100 => if r then 1 else 0 | _ => a9, txt := fun i => if i = 0 then s.data.toList else t.data.toList, gl := 2, ro := fun _ => q }
theorem pnLt {ρ : Env} (h : ρ.gl = 2) : ∀ p ∈ pnGs, p.1 < ρ.gl := fun p hp => by
  rw [h]
  unfold pnGs at hp
  simp only [List.mem_singleton] at hp
  subst hp
  exact Nat.one_lt_two
theorem pnFlat : flatG pnGs = true := by kernel_rfl
theorem pnCx0_ok : pnCx0.Ok Tryz.prog := mkCtxG_ok Tryz.cxOk .nil 100 2
theorem pnCx_ok (b : Bool) : (pnCx b).Ok Tryz.prog := mkCtxG_ok Tryz.cxOk (pnHk b) 100 2
theorem pnHead_sound {ρ : Env} (h : ρ.gl = 2) : HookSound Tryz.prog ρ 19 (globHook pnGs) :=
  globHook_ok (k := 1000000) pnCx0_ok ρ h.symm (pnLt h) pnFlat (HksOk.ctxG HksOk.nil) (by rw [h]; exact pnHead)
theorem pnGAt {W : World} {q : TypeId × (Nat × Nat)} (hq : W.heap[1]? = some (.cells #[.int .i64 3000, .int .i64 800, .int .i64 8] q.1 q.2)) {ρ : Env} (h : ρ.ro 0 = q) : GAt ρ pnGs W := fun p hp L => by
  unfold pnGs at hp
  simp only [List.mem_singleton] at hp
  subst hp
  refine ⟨rfl, ?_⟩
  rw [h]
  exact hq
theorem partNil_calls (me a1 a2 a3 a4 a5 a6 a7 a8 a9 : Int) (s t : ByteArray) (b : Bool) {q : TypeId × (Nat × Nat)} {W : World} (hq : W.heap[1]? = some (.cells #[.int .i64 3000, .int .i64 800, .int .i64 8] q.1 q.2)) :
    Calls Tryz.prog 4 #[.agg #[.int .i64 a1, .int .i64 a2, .int .i64 a3, .int .u64 a4, .int .i64 a5, .int .u64 a6, .int .i64 a7, .int .i64 a8, .string s, .string t, .bool b, .int .i64 a9], .int .i64 me] W
      fun e w' => ∃ v, e = .returned v ∧ v = .bool true ∧ Below W.heap.size W w' := by
  obtain ⟨r, hfn, hr⟩ := tell_calls Tryz.cxOk (mkCtx_gl _) (pnEnv0 me a1 a2 a3 a4 a5 a6 a7 a8 a9 s t) hooksOk_nil (f := 8) (args := [pnM b])
    (vals := #[.agg #[.int .i64 a1, .int .i64 a2, .int .i64 a3, .int .u64 a4, .int .i64 a5, .int .u64 a6, .int .i64 a7, .int .i64 a8, .string s, .string t, .bool b, .int .i64 a9]])
    (fun L => by simp [pnM, pnEnv0, conc, concs, Tm.den, STm.den]) (pnRight b)
  have hks : HksOk Tryz.prog (pnEnv me a1 a2 a3 a4 a5 a6 a7 a8 a9 s t r q) (pnHk b) :=
    (HksOk.nil.set (pnHead_sound rfl)).set (tellHook_sound (b := r) hfn hr (fun L => by simp [pnM, pnEnv, conc, concs, Tm.den, STm.den]) rfl)
  exact law_globYes (pnCx_ok b) (pnEnv me a1 a2 a3 a4 a5 a6 a7 a8 a9 s t r q) rfl (pnLt rfl) pnFlat (HksOk.ctxG hks) (fun _ hp => by cases hp) (fun L _ => by simp [pnM, pnEnv, conc, concs, Tm.den, STm.den]) (pnRun b) (pnGAt hq rfl)

theorem cells27 : Tryz.prog.cellsOf 27 = 12 := by kernel_rfl
theorem flat27 : flatT Tryz.prog 4 27 = true := by kernel_rfl
def msgK : List CK := [.i .i64, .i .i64, .i .i64, .i .u64, .i .i64, .i .u64, .i .i64, .i .i64, .s, .s, .b, .i .i64]
theorem cks27 : cksT Tryz.prog 4 27 = some msgK := by kernel_rfl
theorem open_msg {cs : List Value} (h : Fits msgK cs) : ∃ (a1 a2 a3 a4 a5 a6 a7 a8 a9 : Int) (s t : ByteArray) (b : Bool),
    cs = [.int .i64 a1, .int .i64 a2, .int .i64 a3, .int .u64 a4, .int .i64 a5, .int .u64 a6, .int .i64 a7, .int .i64 a8, .string s, .string t, .bool b, .int .i64 a9] := by
  have hl := Fits.length h
  match cs, hl, h with
  | [c1, c2, c3, c4, c5, c6, c7, c8, c9, c10, c11, c12], _, ⟨⟨a1, e1, _⟩, ⟨a2, e2, _⟩, ⟨a3, e3, _⟩, ⟨a4, e4, _⟩, ⟨a5, e5, _⟩, ⟨a6, e6, _⟩, ⟨a7, e7, _⟩, ⟨a8, e8, _⟩, ⟨s, e9, _⟩, ⟨t, e10, _⟩, ⟨b, e11⟩, ⟨a9, e12, _⟩, _⟩ =>
    exact ⟨a1, a2, a3, a4, a5, a6, a7, a8, a9, s, t, b, by rw [e1, e2, e3, e4, e5, e6, e7, e8, e9, e10, e11, e12]⟩
theorem gConf : Tryz.prog.globalNamed "dockmaster/dockmasterlaw17.conf" = some 1 := by kernel_rfl
theorem tConf : (Tryz.prog.globals[1]?).map (·.type) = some 63 := by kernel_rfl
theorem cells63 : Tryz.prog.cellsOf 63 = 3 := by kernel_rfl
theorem cells3 : Tryz.prog.cellsOf 3 = 1 := by kernel_rfl
theorem conf_laid {W : World} (h : laidMetH Tryz.prog Rows.partNilRow.laid W) : ∃ q : TypeId × (Nat × Nat), W.heap[1]? = some (.cells #[.int .i64 3000, .int .i64 800, .int .i64 8] q.1 q.2) :=
  laid_three h gConf tConf Tryz.underlying63 Tryz.underlying3 Tryz.underlying3 Tryz.underlying3 rfl rfl rfl cells63 cells3 cells3 cells3

set_option maxRecDepth 100000 in
theorem door_met (os : Os) (args : Array Value) : laidMetH Tryz.prog Rows.partNilRow.laid ((World.doorLaid Tryz.prog 400 os).forCall (fun _ _ => 0) ⟨#[], args, []⟩).memory :=
  laidMetH_of_parts3 (fuel := 8) (laidMet_of_run' 8 (by kernel_rfl) (by kernel_rfl)) (by kernel_rfl) (by kernel_rfl)
set_option maxRecDepth 100000 in
theorem partNil_lifted (os : Os) (started : os.Started) (H : Type) (enc : TypeId × Value → H) :
    ReturnsInHanded {} Tryz.checked os 4 .any (fun w args => (Rows.partNilSpec.pre enc Tryz.prog Tryz.f4 [] false w args ∧ laidMetH Tryz.prog Rows.partNilRow.laid w) ∧ sizedMet enc Tryz.prog Tryz.f4 (OpenSpec.ofChange Rows.partNilSpec) false w args)
      (Rows.partNilSpec.post enc Tryz.prog Tryz.f4 false true false false) := by
  refine returnsInHanded_of_change_and (C := Tryz.checked) (X := fun w _ => laidMetH Tryz.prog Rows.partNilRow.laid w) (fun _ _ _ hh h => h.of_heap hh) Tryz.own started (by kernel_rfl) Tryz.func4
    (ChangeSpec.witness_shaped (enc := enc) (C := Tryz.checked) (os := os) (X := fun w _ => laidMetH Tryz.prog Rows.partNilRow.laid w) false (World.doorLaid Tryz.prog 400 os)
      #[.agg #[.int .i64 0, .int .i64 0, .int .i64 0, .int .u64 0, .int .i64 0, .int .u64 0, .int .i64 0, .int .i64 0, .string ⟨#[]⟩, .string ⟨#[]⟩, .bool false, .int .i64 0], .int .i64 0] 8 rfl (World.shaped_of_RefB (by kernel_rfl) (by kernel_rfl)) (by kernel_rfl) (by kernel_rfl) (by kernel_rfl) (door_met os _)) ?_
  intro W base args ds gs before hval0 hW _ _ hL _
  have hval : ∀ (j : Nat) t v, Tryz.f4.params[j]? = some t → args[j]? = some v → Value.okWide Tryz.prog W .any base t v := hval0
  have hW' := hW
  obtain ⟨p, q, hA0, hV, rfl, hfz, hnd⟩ := hW
  have hA : DataW.TrodAll enc Tryz.prog W 0 (fun _ => true) true Tryz.f4.params.toList args.toList ds p := hA0
  rw [Tryz.params4] at hA hval
  obtain ⟨v0, v1, d0, d1, p0, p1, rfl, rfl, rfl, h0, h1⟩ := trodAll_two hA
  obtain ⟨rfl, rfl⟩ := trodVars_none hV
  obtain ⟨cs, rfl, hfit⟩ := open_flat Tryz.underlying27 cks27 (by rw [cells27]; rfl) (hval 0 27 v0 rfl rfl) h0
  obtain ⟨rfl, hflat⟩ := Trod_flat flat27 h0
  obtain ⟨a, rfl, rfl, rfl, wa⟩ := open_int Tryz.underlying3 (hval 1 3 v1 rfl rfl) h1
  obtain ⟨a1, a2, a3, a4, a5, a6, a7, a8, a9, s, t, b, rfl⟩ := open_msg hfit
  obtain ⟨qq, hq⟩ := conf_laid hL
  clear hA0 hval0
  simp only [List.append_nil] at hW'
  refine (partNil_calls a a1 a2 a3 a4 a5 a6 a7 a8 a9 s t b hq).mono fun e W' ⟨v, he, hv, hw⟩ => ?_
  subst he; subst hv
  exact ⟨_, rfl, post_plain hW' hw (fun _ _ _ => trodAll_mk1 (shut_bool Tryz.underlying4 true)) (fun sp => trodAll_mk2 (hflat W' 0 sp true) (shut_int Tryz.underlying3 wa)) (fun _ => rfl)
    (ok_one (by kernel_rfl) rfl (okWide_bool_mk Tryz.underlying4 true))⟩

theorem and_mk {a b : Bool} (ha : a = true) (hb : b = true) : (a && b) = true := by rw [ha, hb]; rfl
theorem jf2 : laidOutB Tryz.prog = true := by kernel_rfl
theorem jf3 : mapsRowed Tryz.prog = true := by kernel_rfl
theorem jf10 : (Rows.partNilRow.inPlace == Tryz.prog.inPlace 4) = true := by kernel_rfl
theorem jf11 : (Rows.partNilRow.unfollowed == Tryz.prog.unfollowed 4) = true := by kernel_rfl
theorem jf12 : (Rows.partNilRow.recurses == Tryz.prog.recurses 4) = true := by kernel_rfl
theorem jf13 : (Rows.partNilRow.named == Tryz.prog.varsNamed 4) = true := by kernel_rfl
theorem jf25 : Tryz.prog.stopsHeard = true := by kernel_rfl
theorem jf26 : Tryz.prog.mayEnter = true := by kernel_rfl
theorem jf27 : (Rows.partNilRow.lifted == Tryz.prog.liftsFinal) = true := by kernel_rfl
theorem jfAll : joinedFacts Tryz.prog 4 Tryz.f4 Rows.partNilSpec Rows.partNilRow = true := by
  unfold joinedFacts
  repeat' with_reducible refine and_mk ?_ ?_
  · kernel_rfl
  · exact jf2
  · exact jf3
  · kernel_rfl
  · kernel_rfl
  · kernel_rfl
  · kernel_rfl
  · kernel_rfl
  · kernel_rfl
  · exact jf10
  · exact jf11
  · exact jf12
  · exact jf13
  · kernel_rfl
  · kernel_rfl
  · kernel_rfl
  · kernel_rfl
  · kernel_rfl
  · kernel_rfl
  · kernel_rfl
  · kernel_rfl
  · kernel_rfl
  · kernel_rfl
  · kernel_rfl
  · exact jf25
  · exact jf26
  · exact jf27
  · kernel_rfl
  · kernel_rfl
  · kernel_rfl
  · kernel_rfl
  · kernel_rfl
theorem fnPN : Tryz.prog.funcNamed "dockmaster/dockmasterlaw17.PartNil" = some 4 := by kernel_rfl
theorem partNil_holds : Rows.PartNilSaid :=
  OpenClaim.holds_of_wide 4 Tryz.f4 rfl rfl rfl rfl rfl rfl rfl ⟨rfl, rfl, rfl, rfl, rfl⟩ rfl rfl rfl rfl rfl fnPN Tryz.func4 jfAll
    (of_decide_eq_true (by kernel_rfl)) (by unfold Func.isWrapper; first | (rw [if_pos (by decide +kernel)]; kernel_rfl) | (rw [if_neg (by decide +kernel)]; exact ⟨rfl, rfl⟩))
    (fun os started H enc _ => partNil_lifted os started H enc)
theorem partNilCard_holds : Rows.PartNilCardSaid :=
  Claim7.holds_tied_plain_at .later [] [.data] true (true, "d5b656f41d3bb7c31583c3026ab55c05b24e3941bf7ddb2f06113ad6324d8e46") true
    partNil_holds (fun _ h => by cases h) (by kernel_rfl) (fun _ h => by cases h) partNil_row_tie rfl ⟨rfl, rfl⟩ (by kernel_rfl) rfl
    (fun f fn hf hfn => by
      obtain rfl : f = 4 := Option.some.inj (fnPN.symm.trans hf) |>.symm
      obtain rfl : fn = Tryz.f4 := (Option.some.inj (Tryz.func4.symm.trans hfn)).symm
      exact ⟨by kernel_rfl, fun j t ht => by
        rw [Tryz.params4] at ht
        have hm : t ∈ [27, 3] := by simpa using Array.mem_of_getElem? ht
        have hall : ([27, 3].all fun u => !Tryz.prog.wantsStandIn u) = true := by kernel_rfl
        exact (show Tryz.prog.wantsStandIn t = false by simpa using List.all_eq_true.1 hall t hm)⟩)
    (by kernel_rfl)
end Go.Proofs.YtnjdcobnkahidaaGreatDoor
