/- 'ShardDown' of the nodes: for all numbers, every call and every list of bytes the law answers true, and the arguments read as they did; the package
   variable 'conf' holds at the start what the program's text lays (the tied card). Proved by running the program's form in a verified abstract executor
   (the texts E1 .. E44), in the kernel; the leaves that answer otherwise lie on a path that no numbers walk. No other condition. -/
import Derived.Test.YtidnbdaegpegiaaGreatDoorRows
import Derived.Test.YtidnbdaegpegiaaGreatDoorCards
import Derived.Test.YtidnbdaegpegiaaGreatDoorTie
import Derived.Test.YtidnbdaegpegiaaGreatDoorSdRun
import Derived.Test.YtidnbdaegpegiaaGreatDoorSdFactA
import Derived.Test.YtidnbdaegpegiaaGreatDoorSdFactB
import Derived.Test.YtidnbdaegpegiaaGreatDoorSdFactC
import Derived.ProofKit
import Derived.LaidMore
import Derived.SevenTiedAt
namespace Go.Proofs.YtidnbdaegpegiaaGreatDoor
open Go.ChangeShapes Go.WideShapes Go.ChangeAt Go.ChangeMaps Go.RowKit Ab

theorem Tryz.own : ownKnob Tryz.prog.godebug = none := by kernel_rfl
theorem Tryz.cxOk : (mkCtx Tryz.prog).Ok Tryz.prog := mkCtx_ok (by decide +kernel) (by kernel_rfl)
def sdEnv (me nodes a b c : Int) (s t : ByteArray) (ba : Option Addr) (n m : Nat) (q : TypeId × (Nat × Nat)) : Env :=
  { num := fun i => match i with | 0 => me | 1 => nodes | 2 => a | 3 => b | _ => c, txt := fun i => match i with | 0 => s.data.toList | 1 => t.data.toList | _ => List.replicate n 0, gl := 1, base := fun _ => ba, cap := fun _ => m, ro := fun _ => q }
theorem sdLt {ρ : Env} (h : ρ.gl = 1) : ∀ p ∈ sdGs, p.1 < ρ.gl := fun p hp => by
  rw [h]
  unfold sdGs at hp
  simp only [List.mem_singleton] at hp
  subst hp
  exact Nat.zero_lt_one
theorem sdFlat : flatG sdGs = true := by kernel_rfl
theorem sdCx0_ok : sdCx0.Ok Tryz.prog := mkCtxG_ok Tryz.cxOk .nil 100 1
theorem sdCx_ok : sdCx.Ok Tryz.prog := mkCtxG_ok Tryz.cxOk sdHk 100 1
theorem sdHead_sound {ρ : Env} (h : ρ.gl = 1) : HookSound Tryz.prog ρ 4 (globHook sdGs) :=
  globHook_ok (k := 1000000) sdCx0_ok ρ h.symm (sdLt h) sdFlat (HksOk.ctxG HksOk.nil) (by rw [h]; exact sdHead)
theorem sdHk_ok {ρ : Env} (h : ρ.gl = 1) : HksOk Tryz.prog ρ sdHk := HksOk.nil.set (sdHead_sound h)
theorem sdGAt {W : World} {q : TypeId × (Nat × Nat)} (hq : W.heap[0]? = some (.cells #[.int .i64 1500, .int .i64 700, .int .i64 6] q.1 q.2)) {ρ : Env} (h : ρ.ro 0 = q) : GAt ρ sdGs W := fun p hp L => by
  unfold sdGs at hp
  simp only [List.mem_singleton] at hp
  subst hp
  refine ⟨rfl, ?_⟩
  rw [h]
  exact hq
theorem sdNone_not {ρ : Env} : ¬ ∀ p ∈ sdNone, p.1.den ρ = p.2 := fun h => by
  have h1 : decide (ρ.num 0 < 64) = false := h (.lt (.v 0) (.c 64), false) (by simp)
  have h2 : decide (ρ.num 0 < ρ.num 1) = true := h (.lt (.v 0) (.v 1), true) (by simp)
  have h3 : decide (64 < ρ.num 1) = false := h (.lt (.c 64) (.v 1), false) (by simp)
  rw [decide_eq_false_iff_not] at h1 h3
  rw [decide_eq_true_eq] at h2
  omega
theorem shardDown_calls (me nodes a b c : Int) (s t : ByteArray) (ba : Option Addr) (n m : Nat) {q : TypeId × (Nat × Nat)} {W : World} (hq : W.heap[0]? = some (.cells #[.int .i64 1500, .int .i64 700, .int .i64 6] q.1 q.2)) :
    Calls Tryz.prog 3 #[.int .i64 me, .int .i64 nodes, .agg #[.int .i64 a, .int .i64 b, .int .i64 c, .string s, .string t], .slice ba n m] W fun e w' => ∃ v, e = .returned v ∧ v = .bool true ∧ Below W.heap.size W w' := by
  have h := sdRun_all
  unfold sdRun at h
  exact law_globUnless sdCx_ok (sdEnv me nodes a b c s t ba n m q) rfl (sdLt rfl) sdFlat (HksOk.ctxG (sdHk_ok rfl)) (fun _ hp => by cases hp) (fun L _ => by simp [sdEnv, conc, concs, Tm.den, STm.den]) sdNone_not h (sdGAt hq rfl)

theorem cells23 : Tryz.prog.cellsOf 23 = 5 := by kernel_rfl
def callK : List CK := [.i .i64, .i .i64, .i .i64, .s, .s]
theorem cks23 : cksT Tryz.prog 4 23 = some callK := by kernel_rfl
theorem open_call {cs : List Value} (h : Fits callK cs) : ∃ (a b c : Int) (s t : ByteArray), cs = [.int .i64 a, .int .i64 b, .int .i64 c, .string s, .string t] := by
  have hl := Fits.length h
  match cs, hl, h with
  | [c1, c2, c3, c4, c5], _, ⟨⟨a, e1, _⟩, ⟨b, e2, _⟩, ⟨c, e3, _⟩, ⟨s, e4, _⟩, ⟨t, e5, _⟩, _⟩ => exact ⟨a, b, c, s, t, by rw [e1, e2, e3, e4, e5]⟩
theorem gConf : Tryz.prog.globalNamed "dockmaster/dockmasterlaw20.conf" = some 0 := by kernel_rfl
theorem tConf : (Tryz.prog.globals[0]?).map (·.type) = some 31 := by kernel_rfl
theorem cellsConf : Tryz.prog.cellsOf 31 = 3 := by kernel_rfl
theorem cells3 : Tryz.prog.cellsOf 3 = 1 := by kernel_rfl
theorem conf_laid {W : World} (h : laidMetH Tryz.prog Rows.shardDownRow.laid W) : ∃ q : TypeId × (Nat × Nat), W.heap[0]? = some (.cells #[.int .i64 1500, .int .i64 700, .int .i64 6] q.1 q.2) :=
  laid_three h gConf tConf Tryz.underlying31 Tryz.underlying3 Tryz.underlying3 Tryz.underlying3 rfl rfl rfl cellsConf cells3 cells3 cells3
theorem jfAll : joinedFacts Tryz.prog 3 Tryz.f3 Rows.shardDownSpec Rows.shardDownRow = true := by
  unfold joinedFacts
  repeat' with_reducible refine and_mk ?_ ?_
  · kernel_rfl
  · exact jf2
  · exact jf3
  · kernel_rfl
  · kernel_rfl
  · kernel_rfl
  · kernel_rfl
  · kernel_rfl
  · kernel_rfl
  · exact jf10
  · exact jf11
  · exact jf12
  · exact jf13
  · kernel_rfl
  · kernel_rfl
  · kernel_rfl
  · kernel_rfl
  · kernel_rfl
  · kernel_rfl
  · kernel_rfl
  · kernel_rfl
  · kernel_rfl
  · kernel_rfl
  · kernel_rfl
  · exact jf25
  · exact jf26
  · exact jf27
  · kernel_rfl
  · kernel_rfl
  · kernel_rfl
  · kernel_rfl
  · kernel_rfl
theorem fitsAll : ∀ t ∈ Tryz.f3.params.toList, Tryz.prog.readableRec t = true ∧ t < Tryz.prog.types.size := by
  have h : (Tryz.f3.params.toList.all fun t => Tryz.prog.readableRec t && decide (t < Tryz.prog.types.size)) = true := by kernel_rfl
  intro t ht
  have := List.all_eq_true.1 h t ht
  rw [Bool.and_eq_true, decide_eq_true_eq] at this
  exact this

set_option maxRecDepth 100000 in
theorem door_met (os : Os) (args : Array Value) : laidMetH Tryz.prog Rows.shardDownRow.laid ((World.doorLaid Tryz.prog 400 os).forCall (fun _ _ => 0) ⟨#[], args, []⟩).memory :=
  laidMetH_of_parts3 (fuel := 8) (laidMet_of_run' 8 (by kernel_rfl) (by kernel_rfl)) (by kernel_rfl) (by kernel_rfl)
set_option maxRecDepth 100000 in
theorem shardDown_lifted (os : Os) (started : os.Started) (H : Type) (enc : TypeId × Value → H) :
    ReturnsInHanded {} Tryz.checked os 3 .any (fun w args => (Rows.shardDownSpec.pre enc Tryz.prog Tryz.f3 [] false w args ∧ laidMetH Tryz.prog Rows.shardDownRow.laid w) ∧ sizedMet enc Tryz.prog Tryz.f3 (OpenSpec.ofChange Rows.shardDownSpec) false w args)
      (Rows.shardDownSpec.post enc Tryz.prog Tryz.f3 false true false false) := by
  refine returnsInHanded_of_change_and (C := Tryz.checked) (X := fun w _ => laidMetH Tryz.prog Rows.shardDownRow.laid w) (fun _ _ _ hh h => h.of_heap hh) Tryz.own started (by kernel_rfl) Tryz.func3
    (ChangeSpec.witness_shaped (enc := enc) (C := Tryz.checked) (os := os) (X := fun w _ => laidMetH Tryz.prog Rows.shardDownRow.laid w) false (World.doorLaid Tryz.prog 400 os)
      #[.int .i64 0, .int .i64 0, .agg #[.int .i64 0, .int .i64 0, .int .i64 0, .string ⟨#[]⟩, .string ⟨#[]⟩], .slice none 0 0] 8 rfl (World.shaped_of_RefB (by kernel_rfl) (by kernel_rfl)) (by kernel_rfl) (by kernel_rfl) (by kernel_rfl) (door_met os _)) ?_
  intro W base args ds gs before hval0 hW _ _ hL _
  have hval : ∀ (j : Nat) t v, Tryz.f3.params[j]? = some t → args[j]? = some v → Value.okWide Tryz.prog W .any base t v := hval0
  have hW' := hW
  obtain ⟨p, q, hA0, hV, rfl, hfz, hnd⟩ := hW
  obtain ⟨rfl, rfl⟩ := trodVars_none hV
  rw [List.append_nil] at hW'
  have hA : DataW.TrodAll enc Tryz.prog W 0 (fun _ => true) true Tryz.f3.params.toList args.toList ds p := hA0
  have hA' := hA
  rw [Tryz.params3] at hA' hval
  obtain ⟨v0, v1, v2, v3, d0, d1, d2, d3, p0, p1, p2, p3, rfl, rfl, rfl, h0, h1, h2, h3⟩ := trodAll_four hA'
  obtain ⟨me, rfl, _, _, _⟩ := open_int Tryz.underlying3 (hval 0 3 v0 rfl rfl) h0
  obtain ⟨nodes, rfl, _, _, _⟩ := open_int Tryz.underlying3 (hval 1 3 v1 rfl rfl) h1
  obtain ⟨cs, rfl, hfit⟩ := open_flat Tryz.underlying23 cks23 (by rw [cells23]; rfl) (hval 2 23 v2 rfl rfl) h2
  obtain ⟨a, b, c, s, t, rfl⟩ := open_call hfit
  obtain ⟨ba, n, m, rfl⟩ := open_sl Tryz.underlying24 (hval 3 24 v3 rfl rfl) h3
  obtain ⟨qq, hq⟩ := conf_laid hL
  refine (shardDown_calls me nodes a b c s t ba n m hq).mono fun e W' ⟨v, he, hv, hw⟩ => ?_
  subst he; subst hv
  exact ⟨_, rfl, post_old jf2 fitsAll rfl hW' hA hw rfl rfl (fun _ _ _ => trodAll_mk1 (shut_bool Tryz.underlying4 true)) (ok_one (by kernel_rfl) rfl (okWide_bool_mk Tryz.underlying4 true))⟩

theorem fnLaw : Tryz.prog.funcNamed "dockmaster/dockmasterlaw20.ShardDown" = some 3 := by kernel_rfl
theorem shardDown_holds : Rows.ShardDownSaid :=
  OpenClaim.holds_of_wide 3 Tryz.f3 rfl rfl rfl rfl rfl rfl rfl ⟨rfl, rfl, rfl, rfl, rfl⟩ rfl rfl rfl rfl rfl fnLaw Tryz.func3 jfAll
    (of_decide_eq_true (by kernel_rfl)) (by unfold Func.isWrapper; first | (rw [if_pos (by decide +kernel)]; kernel_rfl) | (rw [if_neg (by decide +kernel)]; exact ⟨rfl, rfl⟩))
    (fun os started H enc _ => shardDown_lifted os started H enc)
theorem shardDownCard_holds : Rows.ShardDownCardSaid :=
  Claim7.holds_tied_plain_at .later [] [.data] true (true, "58686c88eae94af05633f904cc7014431bb1889567dc00746803020602b89fc4") true
    shardDown_holds (fun _ h => by cases h) (by kernel_rfl) (fun _ h => by cases h) shardDown_row_tie rfl ⟨rfl, rfl⟩ cdMain rfl
    (fun f fn hf hfn => by
      obtain rfl : f = 3 := Option.some.inj (fnLaw.symm.trans hf) |>.symm
      obtain rfl : fn = Tryz.f3 := (Option.some.inj (Tryz.func3.symm.trans hfn)).symm
      exact ⟨cdLooks, fun j t ht => by
        rw [Tryz.params3] at ht
        have hm : t ∈ [3, 3, 23, 24] := by simpa using Array.mem_of_getElem? ht
        exact (show Tryz.prog.wantsStandIn t = false by simpa using List.all_eq_true.1 cdStand t hm)⟩)
    cdGoes
end Go.Proofs.YtidnbdaegpegiaaGreatDoor
