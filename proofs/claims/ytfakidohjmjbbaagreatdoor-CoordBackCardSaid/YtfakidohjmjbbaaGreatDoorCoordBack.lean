/- 'CoordBack' of the coordinator: for all numbers and every list of truths the law answers true, and the arguments read as they did; the package
   variable 'conf' holds at the start what the program's text lays (the tied card). Proved by running the program's form in a verified abstract executor
   (the texts E1 .. E44), once for each number of nodes and each node that says nothing, in the kernel. No other condition. -/
import Derived.Test.YtfakidohjmjbbaaGreatDoorRows
import Derived.Test.YtfakidohjmjbbaaGreatDoorCards
import Derived.Test.YtfakidohjmjbbaaGreatDoorTie
import Derived.Test.YtfakidohjmjbbaaGreatDoorCbSorted
import Derived.Test.YtfakidohjmjbbaaGreatDoorCbRunA
import Derived.Test.YtfakidohjmjbbaaGreatDoorCbRunB
import Derived.Test.YtfakidohjmjbbaaGreatDoorCbRunC
import Derived.Test.YtfakidohjmjbbaaGreatDoorCbRunD
import Derived.ProofKit
import Derived.LaidMore
import Derived.SevenTiedAt
namespace Go.Proofs.YtfakidohjmjbbaaGreatDoor
open Go.ChangeShapes Go.WideShapes Go.ChangeAt Go.ChangeMaps Go.RowKit Ab

theorem Tryz.own : ownKnob Tryz.prog.godebug = none := by kernel_rfl
theorem Tryz.cxOk : (mkCtx Tryz.prog).Ok Tryz.prog := mkCtx_ok (by decide +kernel) (by kernel_rfl)
def cbEnv (votes lack : Int) (b : Option Addr) (n m : Nat) (q : TypeId × (Nat × Nat)) : Env :=
  { num := fun i => match i with | 0 => votes | _ => lack, txt := fun _ => List.replicate n 0, gl := 1, base := fun _ => b, cap := fun _ => m, ro := fun _ => q }
theorem cbLt {ρ : Env} (h : ρ.gl = 1) : ∀ p ∈ cbGs, p.1 < ρ.gl := fun p hp => by
  rw [h]
  unfold cbGs at hp
  simp only [List.mem_singleton] at hp
  subst hp
  exact Nat.zero_lt_one
theorem cbFlat : flatG cbGs = true := by kernel_rfl
theorem cbCx0_ok : cbCx0.Ok Tryz.prog := mkCtxG_ok Tryz.cxOk .nil 100 1
theorem cbCxA_ok : cbCxA.Ok Tryz.prog := mkCtxG_ok Tryz.cxOk cbHkA 100 1
theorem cbCx_ok : cbCx.Ok Tryz.prog := mkCtxG_ok Tryz.cxOk cbHk 1 1
theorem cbHead_sound {ρ : Env} (h : ρ.gl = 1) : HookSound Tryz.prog ρ 4 (globHook cbGs) :=
  globHook_ok (k := 1000000) cbCx0_ok ρ h.symm (cbLt h) cbFlat (HksOk.ctxG HksOk.nil) (by rw [h]; exact cbHead)
theorem cbHkA_ok {ρ : Env} (h : ρ.gl = 1) : HksOk Tryz.prog ρ cbHkA :=
  HksOk.nil.set (sortedOr_sound (callNF_sound cbCx0_ok (by rw [h]; exact Nat.le_refl _) (HksOk.ctxG HksOk.nil) 1000000) (fun g hg => by rw [List.mem_singleton.1 hg]; exact Tryz.keysSorted) ⟨_, Tryz.func74, by decide +kernel, by kernel_rfl⟩)
theorem cbHk_ok {ρ : Env} (h : ρ.gl = 1) : HksOk Tryz.prog ρ cbHk :=
  ((cbHkA_ok h).set (cbHead_sound h)).set (ordHook_sound cbCxA_ok (by rw [h]; exact Nat.le_refl _) (callNF_sound cbCxA_ok (by rw [h]; exact Nat.le_refl _) (HksOk.ctxG (cbHkA_ok h)) 1000000))
theorem cbGAt {W : World} {q : TypeId × (Nat × Nat)} (hq : W.heap[0]? = some (.cells #[.int .i64 600, .int .i64 60, .int .i64 4] q.1 q.2)) {ρ : Env} (h : ρ.ro 0 = q) : GAt ρ cbGs W := fun p hp L => by
  unfold cbGs at hp
  simp only [List.mem_singleton] at hp
  subst hp
  refine ⟨rfl, ?_⟩
  rw [h]
  exact hq
theorem fx_true {ρ : Env} {a : Tm} {k : Int} (h : a.den ρ = k) : (Atom.eq a (.c k)).den ρ = true := by
  show (a.den ρ == k) = true
  rw [h]
  exact beq_self_eq_true k
theorem fx_false {ρ : Env} {a : Tm} {k : Int} (h : a.den ρ ≠ k) : (Atom.eq a (.c k)).den ρ = false := by
  show (a.den ρ == k) = false
  simp [h]
theorem fx_nil {ρ : Env} : FxOk ρ [] := fun _ hp => by cases hp
theorem cb_from (votes lack : Int) (b : Option Addr) (n m : Nat) {q : TypeId × (Nat × Nat)} {W : World} (hq : W.heap[0]? = some (.cells #[.int .i64 600, .int .i64 60, .int .i64 4] q.1 q.2)) {fx : Facts} (hx : FxOk (cbEnv votes lack b n m q) fx) (h : (cbRun fx).allYes = true) :
    Calls Tryz.prog 3 #[.int .i64 votes, .int .i64 lack, .slice b n m] W fun e w' => ∃ v, e = .returned v ∧ v = .bool true ∧ Below W.heap.size W w' := by
  unfold cbRun at h
  exact law_globYes cbCx_ok (cbEnv votes lack b n m q) rfl (cbLt rfl) cbFlat (HksOk.ctxG (cbHk_ok rfl)) hx (fun L _ => by simp [cbEnv, conc, concs, Tm.den]) h (cbGAt hq rfl)
theorem coordBack_calls (votes lack : Int) (b : Option Addr) (n m : Nat) {q : TypeId × (Nat × Nat)} {W : World} (hq : W.heap[0]? = some (.cells #[.int .i64 600, .int .i64 60, .int .i64 4] q.1 q.2)) :
    Calls Tryz.prog 3 #[.int .i64 votes, .int .i64 lack, .slice b n m] W fun e w' => ∃ v, e = .returned v ∧ v = .bool true ∧ Below W.heap.size W w' := by
  obtain ⟨a1, a2⟩ := and_range (ρ := cbEnv votes lack b n m q) .i64 (.v 0) 3 (by decide)
  obtain ⟨b1, b2⟩ := and_range (ρ := cbEnv votes lack b n m q) .i64 (.v 1) 7 (by decide)
  generalize hx0 : (Tm.bin .and .i64 (.v 0) (.c (.ofNat 3))).den (cbEnv votes lack b n m q) = x at a1 a2
  generalize hx1 : (Tm.bin .and .i64 (.v 1) (.c (.ofNat 7))).den (cbEnv votes lack b n m q) = y at b1 b2
  have e0 : cbM0.den (cbEnv votes lack b n m q) = x := hx0
  have e1 : cbM1.den (cbEnv votes lack b n m q) = y := hx1
  clear hx0 hx1
  have u : ∀ k j : Int, x = k → y = j → FxOk (cbEnv votes lack b n m q) (cbU k j) := fun k j h0 h1 => (fx_nil.cons (fx_true (e1.trans h1))).cons (fx_true (e0.trans h0))
  have f : ∀ j : Int, y ≠ j → (Atom.eq cbM1 (.c j)).den (cbEnv votes lack b n m q) = false := fun j h => fx_false (by rw [e1]; exact h)
  have hk : x = 0 ∨ x = 1 ∨ x = 2 ∨ x = 3 := by omega
  rcases hk with rfl | rfl | rfl | rfl
  · have hj : y = 0 ∨ 0 < y := by omega
    rcases hj with h | h
    · exact cb_from votes lack b n m hq (u 0 0 rfl h) cbRunU00
    · exact cb_from votes lack b n m hq ((fx_nil.cons (f 0 (by omega))).cons (fx_true e0)) cbRunC0
  · have hj : y = 0 ∨ y = 1 ∨ 1 < y := by omega
    rcases hj with h | h | h
    · exact cb_from votes lack b n m hq (u 1 0 rfl h) cbRunU10
    · exact cb_from votes lack b n m hq (u 1 1 rfl h) cbRunU11
    · exact cb_from votes lack b n m hq (((fx_nil.cons (f 1 (by omega))).cons (f 0 (by omega))).cons (fx_true e0)) cbRunC1
  · have hj : y = 0 ∨ y = 1 ∨ y = 2 ∨ 2 < y := by omega
    rcases hj with h | h | h | h
    · exact cb_from votes lack b n m hq (u 2 0 rfl h) cbRunU20
    · exact cb_from votes lack b n m hq (u 2 1 rfl h) cbRunU21
    · exact cb_from votes lack b n m hq (u 2 2 rfl h) cbRunU22
    · exact cb_from votes lack b n m hq ((((fx_nil.cons (f 2 (by omega))).cons (f 1 (by omega))).cons (f 0 (by omega))).cons (fx_true e0)) cbRunC2
  · have hj : y = 0 ∨ y = 1 ∨ y = 2 ∨ y = 3 ∨ 3 < y := by omega
    rcases hj with h | h | h | h | h
    · exact cb_from votes lack b n m hq (u 3 0 rfl h) cbRunU30
    · exact cb_from votes lack b n m hq (u 3 1 rfl h) cbRunU31
    · exact cb_from votes lack b n m hq (u 3 2 rfl h) cbRunU32
    · exact cb_from votes lack b n m hq (u 3 3 rfl h) cbRunU33
    · exact cb_from votes lack b n m hq (((((fx_nil.cons (f 3 (by omega))).cons (f 2 (by omega))).cons (f 1 (by omega))).cons (f 0 (by omega))).cons (fx_true e0)) cbRunC3

theorem gConf : Tryz.prog.globalNamed "dockmaster/dockmasterlaw18.conf" = some 0 := by kernel_rfl
theorem tConf : (Tryz.prog.globals[0]?).map (·.type) = some 46 := by kernel_rfl
theorem cells46 : Tryz.prog.cellsOf 46 = 3 := by kernel_rfl
theorem cells3 : Tryz.prog.cellsOf 3 = 1 := by kernel_rfl
theorem conf_laid {W : World} (h : laidMetH Tryz.prog Rows.coordBackRow.laid W) : ∃ q : TypeId × (Nat × Nat), W.heap[0]? = some (.cells #[.int .i64 600, .int .i64 60, .int .i64 4] q.1 q.2) :=
  laid_three h gConf tConf Tryz.underlying46 Tryz.underlying3 Tryz.underlying3 Tryz.underlying3 rfl rfl rfl cells46 cells3 cells3 cells3
theorem and_mk {a b : Bool} (ha : a = true) (hb : b = true) : (a && b) = true := by rw [ha, hb]; rfl
theorem jf2 : laidOutB Tryz.prog = true := by kernel_rfl
theorem jf3 : mapsRowed Tryz.prog = true := by kernel_rfl
theorem jf10 : (Rows.coordBackRow.inPlace == Tryz.prog.inPlace 3) = true := by kernel_rfl
theorem jf11 : (Rows.coordBackRow.unfollowed == Tryz.prog.unfollowed 3) = true := by kernel_rfl
theorem jf12 : (Rows.coordBackRow.recurses == Tryz.prog.recurses 3) = true := by kernel_rfl
theorem jf13 : (Rows.coordBackRow.named == Tryz.prog.varsNamed 3) = true := by kernel_rfl
theorem jf25 : Tryz.prog.stopsHeard = true := by kernel_rfl
theorem jf26 : Tryz.prog.mayEnter = true := by kernel_rfl
theorem jf27 : (Rows.coordBackRow.lifted == Tryz.prog.liftsFinal) = true := by kernel_rfl
theorem jfAll : joinedFacts Tryz.prog 3 Tryz.f3 Rows.coordBackSpec Rows.coordBackRow = true := by
  unfold joinedFacts
  repeat' with_reducible refine and_mk ?_ ?_
  · kernel_rfl
  · exact jf2
  · exact jf3
  · kernel_rfl
  · kernel_rfl
  · kernel_rfl
  · kernel_rfl
  · kernel_rfl
  · kernel_rfl
  · exact jf10
  · exact jf11
  · exact jf12
  · exact jf13
  · kernel_rfl
  · kernel_rfl
  · kernel_rfl
  · kernel_rfl
  · kernel_rfl
  · kernel_rfl
  · kernel_rfl
  · kernel_rfl
  · kernel_rfl
  · kernel_rfl
  · kernel_rfl
  · exact jf25
  · exact jf26
  · exact jf27
  · kernel_rfl
  · kernel_rfl
  · kernel_rfl
  · kernel_rfl
  · kernel_rfl
theorem fits3 : ∀ t ∈ Tryz.f3.params.toList, Tryz.prog.readableRec t = true ∧ t < Tryz.prog.types.size := by
  have h : (Tryz.f3.params.toList.all fun t => Tryz.prog.readableRec t && decide (t < Tryz.prog.types.size)) = true := by kernel_rfl
  intro t ht
  have := List.all_eq_true.1 h t ht
  rw [Bool.and_eq_true, decide_eq_true_eq] at this
  exact this

set_option maxRecDepth 100000 in
theorem door_met (os : Os) (args : Array Value) : laidMetH Tryz.prog Rows.coordBackRow.laid ((World.doorLaid Tryz.prog 400 os).forCall (fun _ _ => 0) ⟨#[], args, []⟩).memory :=
  laidMetH_of_parts3 (fuel := 8) (laidMet_of_run' 8 (by kernel_rfl) (by kernel_rfl)) (by kernel_rfl) (by kernel_rfl)
set_option maxRecDepth 100000 in
theorem coordBack_lifted (os : Os) (started : os.Started) (H : Type) (enc : TypeId × Value → H) :
    ReturnsInHanded {} Tryz.checked os 3 .any (fun w args => (Rows.coordBackSpec.pre enc Tryz.prog Tryz.f3 [] false w args ∧ laidMetH Tryz.prog Rows.coordBackRow.laid w) ∧ sizedMet enc Tryz.prog Tryz.f3 (OpenSpec.ofChange Rows.coordBackSpec) false w args)
      (Rows.coordBackSpec.post enc Tryz.prog Tryz.f3 false true false false) := by
  refine returnsInHanded_of_change_and (C := Tryz.checked) (X := fun w _ => laidMetH Tryz.prog Rows.coordBackRow.laid w) (fun _ _ _ hh h => h.of_heap hh) Tryz.own started (by kernel_rfl) Tryz.func3
    (ChangeSpec.witness_shaped (enc := enc) (C := Tryz.checked) (os := os) (X := fun w _ => laidMetH Tryz.prog Rows.coordBackRow.laid w) false (World.doorLaid Tryz.prog 400 os)
      #[.int .i64 0, .int .i64 0, .slice none 0 0] 8 rfl (World.shaped_of_RefB (by kernel_rfl) (by kernel_rfl)) (by kernel_rfl) (by kernel_rfl) (by kernel_rfl) (door_met os _)) ?_
  intro W base args ds gs before hval0 hW _ _ hL _
  have hval : ∀ (j : Nat) t v, Tryz.f3.params[j]? = some t → args[j]? = some v → Value.okWide Tryz.prog W .any base t v := hval0
  have hW' := hW
  obtain ⟨p, q, hA0, hV, rfl, hfz, hnd⟩ := hW
  obtain ⟨rfl, rfl⟩ := trodVars_none hV
  rw [List.append_nil] at hW'
  have hA : DataW.TrodAll enc Tryz.prog W 0 (fun _ => true) true Tryz.f3.params.toList args.toList ds p := hA0
  have hA' := hA
  rw [Tryz.params3] at hA' hval
  obtain ⟨v0, v1, v2, d0, d1, d2, p0, p1, p2, ha, rfl, rfl, h0, h1, h2⟩ := trodAll_three hA'
  subst ha
  obtain ⟨a, rfl, _, _, _⟩ := open_int Tryz.underlying3 (hval 0 3 v0 rfl rfl) h0
  obtain ⟨c, rfl, _, _, _⟩ := open_int Tryz.underlying3 (hval 1 3 v1 rfl rfl) h1
  obtain ⟨b, n, m, rfl⟩ := open_sl Tryz.underlying22 (hval 2 22 v2 rfl rfl) h2
  obtain ⟨qq, hq⟩ := conf_laid hL
  refine (coordBack_calls a c b n m hq).mono fun e W' ⟨v, he, hv, hw⟩ => ?_
  subst he; subst hv
  exact ⟨_, rfl, post_old jf2 fits3 rfl hW' hA hw rfl rfl (fun _ _ _ => trodAll_mk1 (shut_bool Tryz.underlying4 true)) (ok_one (by kernel_rfl) rfl (okWide_bool_mk Tryz.underlying4 true))⟩

theorem fnCB : Tryz.prog.funcNamed "dockmaster/dockmasterlaw18.CoordBack" = some 3 := by kernel_rfl
theorem coordBack_holds : Rows.CoordBackSaid :=
  OpenClaim.holds_of_wide 3 Tryz.f3 rfl rfl rfl rfl rfl rfl rfl ⟨rfl, rfl, rfl, rfl, rfl⟩ rfl rfl rfl rfl rfl fnCB Tryz.func3 jfAll
    (of_decide_eq_true (by kernel_rfl)) (by unfold Func.isWrapper; first | (rw [if_pos (by decide +kernel)]; kernel_rfl) | (rw [if_neg (by decide +kernel)]; exact ⟨rfl, rfl⟩))
    (fun os started H enc _ => coordBack_lifted os started H enc)
theorem coordBackCard_holds : Rows.CoordBackCardSaid :=
  Claim7.holds_tied_plain_at .later [] [.data] true (true, "686caa6bdecc1745a4d5b7222202bb26e003a4bf42ba395c2a30b0ff4aaffa55") true
    coordBack_holds (fun _ h => by cases h) (by kernel_rfl) (fun _ h => by cases h) coordBack_row_tie rfl ⟨rfl, rfl⟩ (by kernel_rfl) rfl
    (fun f fn hf hfn => by
      obtain rfl : f = 3 := Option.some.inj (fnCB.symm.trans hf) |>.symm
      obtain rfl : fn = Tryz.f3 := (Option.some.inj (Tryz.func3.symm.trans hfn)).symm
      exact ⟨by kernel_rfl, fun j t ht => by
        rw [Tryz.params3] at ht
        have hm : t ∈ [3, 3, 22] := by simpa using Array.mem_of_getElem? ht
        have hall : ([3, 3, 22].all fun u => !Tryz.prog.wantsStandIn u) = true := by kernel_rfl
        exact (show Tryz.prog.wantsStandIn t = false by simpa using List.all_eq_true.1 hall t hm)⟩)
    (by kernel_rfl)
end Go.Proofs.YtfakidohjmjbbaaGreatDoor
