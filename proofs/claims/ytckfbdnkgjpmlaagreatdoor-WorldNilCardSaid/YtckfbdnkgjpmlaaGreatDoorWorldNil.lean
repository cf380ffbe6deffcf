/- 'WorldNil' of the clusters: for every number and every step the law answers true, and the arguments read as they did; the package variable 'Conf'
   holds at the start what the program's text lays (the tied card). Proved by running the program's form in a verified abstract executor (the texts
   E1 .. E44), case by case of the number, in the kernel. No other condition. -/
import Derived.Test.YtckfbdnkgjpmlaaGreatDoorRows
import Derived.Test.YtckfbdnkgjpmlaaGreatDoorCards
import Derived.Test.YtckfbdnkgjpmlaaGreatDoorTie
import Derived.Test.YtckfbdnkgjpmlaaGreatDoorWnRun
import Derived.Test.YtckfbdnkgjpmlaaGreatDoorWnFactA
import Derived.Test.YtckfbdnkgjpmlaaGreatDoorWnFactB
import Derived.Test.YtckfbdnkgjpmlaaGreatDoorWnFactC
import Derived.ProofKit
import Derived.LaidMore
import Derived.SevenTiedAt
namespace Go.Proofs.YtckfbdnkgjpmlaaGreatDoor
open Go.ChangeShapes Go.WideShapes Go.ChangeAt Go.ChangeMaps Go.RowKit Ab

theorem Tryz.own : ownKnob Tryz.prog.godebug = none := by kernel_rfl
theorem Tryz.cxOk : (mkCtx Tryz.prog).Ok Tryz.prog := mkCtx_ok (by decide +kernel) (by kernel_rfl)
def wnEnv (nodes a1 a2 a3 a4 a5 a6 a7 a8 : Int) (s t : ByteArray) (ba : Option Addr) (n m : Nat) (q : TypeId × (Nat × Nat)) : Env :=
  { num := fun i => match i with | 0 => nodes | 1 => a1 | 2 => a2 | 3 => a3 | 4 => a4 | 5 => a5 | 6 => a6 | 7 => a7 | _ => a8, txt := fun i => match i with | 0 => s.data.toList | 1 => t.data.toList | _ => List.replicate n 0, gl := 1, base := fun _ => ba, cap := fun _ => m, ro := fun _ => q }
theorem wnLt {ρ : Env} (h : ρ.gl = 1) : ∀ p ∈ wnGs, p.1 < ρ.gl := fun p hp => by
  rw [h]
  unfold wnGs at hp
  simp only [List.mem_singleton] at hp
  subst hp
  exact Nat.zero_lt_one
theorem wnFlat : flatG wnGs = true := by kernel_rfl
theorem wnCx0_ok : wnCx0.Ok Tryz.prog := mkCtxG_ok Tryz.cxOk .nil 100 1
theorem wnCx_ok : wnCx.Ok Tryz.prog := mkCtxG_ok Tryz.cxOk wnHk 100 1
theorem wnHead_sound {ρ : Env} (h : ρ.gl = 1) : HookSound Tryz.prog ρ 4 (globHook wnGs) :=
  globHook_ok (k := 1000000) wnCx0_ok ρ h.symm (wnLt h) wnFlat (HksOk.ctxG HksOk.nil) (by rw [h]; exact wnHead)
theorem wnHk_ok {ρ : Env} (h : ρ.gl = 1) : HksOk Tryz.prog ρ wnHk := HksOk.nil.set (wnHead_sound h)
theorem wnGAt {W : World} {q : TypeId × (Nat × Nat)} (hq : W.heap[0]? = some (.cells #[.int .i64 800, .int .i64 300, .int .i64 6] q.1 q.2)) {ρ : Env} (h : ρ.ro 0 = q) : GAt ρ wnGs W := fun p hp L => by
  unfold wnGs at hp
  simp only [List.mem_singleton] at hp
  subst hp
  refine ⟨rfl, ?_⟩
  rw [h]
  exact hq
theorem fx_lt_true {ρ : Env} {a b : Tm} (h : a.den ρ < b.den ρ) : (Atom.lt a b).den ρ = true := decide_eq_true h
theorem fx_lt_false {ρ : Env} {a b : Tm} (h : ¬ a.den ρ < b.den ρ) : (Atom.lt a b).den ρ = false := decide_eq_false h
theorem fx_nil {ρ : Env} : FxOk ρ [] := fun _ hp => by cases hp
section
variable (nodes a1 a2 a3 a4 a5 a6 a7 a8 : Int) (s t : ByteArray) (ba : Option Addr) (n m : Nat)
theorem wn_const {k : Int} (hk : nodes = k) {q : TypeId × (Nat × Nat)} {W : World} (hq : W.heap[0]? = some (.cells #[.int .i64 800, .int .i64 300, .int .i64 6] q.1 q.2)) (h : (wnRunC k).allYes = true) :
    Calls Tryz.prog 3 #[.int .i64 nodes, .agg #[.int .i64 a1, .int .i64 a2, .int .i64 a3, .int .i64 a4, .int .i64 a5, .string s, .string t, .int .i64 a6, .int .i64 a7, .slice ba n m, .int .i64 a8]] W fun e w' => ∃ v, e = .returned v ∧ v = .bool true ∧ Below W.heap.size W w' := by
  unfold wnRunC at h
  exact law_globYes wnCx_ok (wnEnv nodes a1 a2 a3 a4 a5 a6 a7 a8 s t ba n m q) rfl (wnLt rfl) wnFlat (HksOk.ctxG (wnHk_ok rfl)) fx_nil (fun L _ => by simp [wnS, wnEnv, conc, concs, Tm.den, STm.den, hk]) h (wnGAt hq rfl)
theorem wn_from {q : TypeId × (Nat × Nat)} {W : World} (hq : W.heap[0]? = some (.cells #[.int .i64 800, .int .i64 300, .int .i64 6] q.1 q.2)) {fx : Facts} (hx : FxOk (wnEnv nodes a1 a2 a3 a4 a5 a6 a7 a8 s t ba n m q) fx) (h : (wnRun fx).allYes = true) :
    Calls Tryz.prog 3 #[.int .i64 nodes, .agg #[.int .i64 a1, .int .i64 a2, .int .i64 a3, .int .i64 a4, .int .i64 a5, .string s, .string t, .int .i64 a6, .int .i64 a7, .slice ba n m, .int .i64 a8]] W fun e w' => ∃ v, e = .returned v ∧ v = .bool true ∧ Below W.heap.size W w' := by
  unfold wnRun at h
  exact law_globYes wnCx_ok (wnEnv nodes a1 a2 a3 a4 a5 a6 a7 a8 s t ba n m q) rfl (wnLt rfl) wnFlat (HksOk.ctxG (wnHk_ok rfl)) hx (fun L _ => by simp [wnS, wnEnv, conc, concs, Tm.den, STm.den]) h (wnGAt hq rfl)
theorem worldNil_calls {q : TypeId × (Nat × Nat)} {W : World} (hq : W.heap[0]? = some (.cells #[.int .i64 800, .int .i64 300, .int .i64 6] q.1 q.2)) :
    Calls Tryz.prog 3 #[.int .i64 nodes, .agg #[.int .i64 a1, .int .i64 a2, .int .i64 a3, .int .i64 a4, .int .i64 a5, .string s, .string t, .int .i64 a6, .int .i64 a7, .slice ba n m, .int .i64 a8]] W fun e w' => ∃ v, e = .returned v ∧ v = .bool true ∧ Below W.heap.size W w' := by
  have e0 : ∀ k : Int, (Tm.c k).den (wnEnv nodes a1 a2 a3 a4 a5 a6 a7 a8 s t ba n m q) = k := fun k => rfl
  have e1 : (Tm.v 0).den (wnEnv nodes a1 a2 a3 a4 a5 a6 a7 a8 s t ba n m q) = nodes := rfl
  have hc : nodes < 1 ∨ nodes = 1 ∨ nodes = 2 ∨ nodes = 3 ∨ (3 < nodes ∧ nodes ≤ 64) ∨ 64 < nodes := by omega
  rcases hc with h | h | h | h | h | h
  · exact wn_from nodes a1 a2 a3 a4 a5 a6 a7 a8 s t ba n m hq ((fx_nil.cons (fx_lt_true (by rw [e0, e1]; exact h))).cons (fx_lt_false (by rw [e0, e1]; omega))) wnRun_low
  · exact wn_const nodes a1 a2 a3 a4 a5 a6 a7 a8 s t ba n m h hq wnRun_1
  · exact wn_const nodes a1 a2 a3 a4 a5 a6 a7 a8 s t ba n m h hq wnRun_2
  · exact wn_const nodes a1 a2 a3 a4 a5 a6 a7 a8 s t ba n m h hq wnRun_3
  · exact wn_from nodes a1 a2 a3 a4 a5 a6 a7 a8 s t ba n m hq ((fx_nil.cons (fx_lt_false (by rw [e0, e1]; omega))).cons (fx_lt_true (by rw [e0, e1]; omega))) wnRun_mid
  · exact wn_from nodes a1 a2 a3 a4 a5 a6 a7 a8 s t ba n m hq (((fx_nil.cons (fx_lt_false (by rw [e0, e1]; omega))).cons (fx_lt_true (by rw [e0, e1]; omega))).cons (fx_lt_true (by rw [e0, e1]; omega))) wnRun_high
end

theorem cells26 : Tryz.prog.cellsOf 26 = 11 := by kernel_rfl
def stepK : List CK := [.i .i64, .i .i64, .i .i64, .i .i64, .i .i64, .s, .s, .i .i64, .i .i64, .q, .i .i64]
theorem cks26 : cksT Tryz.prog 4 26 = some stepK := by kernel_rfl
theorem open_step {cs : List Value} (h : Fits stepK cs) : ∃ (a1 a2 a3 a4 a5 a6 a7 a8 : Int) (s t : ByteArray) (ba : Option Addr) (n m : Nat),
    cs = [.int .i64 a1, .int .i64 a2, .int .i64 a3, .int .i64 a4, .int .i64 a5, .string s, .string t, .int .i64 a6, .int .i64 a7, .slice ba n m, .int .i64 a8] := by
  have hl := Fits.length h
  match cs, hl, h with
  | [c1, c2, c3, c4, c5, c6, c7, c8, c9, c10, c11], _, ⟨⟨a1, e1, _⟩, ⟨a2, e2, _⟩, ⟨a3, e3, _⟩, ⟨a4, e4, _⟩, ⟨a5, e5, _⟩, ⟨s, e6, _⟩, ⟨t, e7, _⟩, ⟨a6, e8, _⟩, ⟨a7, e9, _⟩, ⟨ba, n, m, e10⟩, ⟨a8, e11, _⟩, _⟩ =>
    exact ⟨a1, a2, a3, a4, a5, a6, a7, a8, s, t, ba, n, m, by rw [e1, e2, e3, e4, e5, e6, e7, e8, e9, e10, e11]⟩
theorem gConf : Tryz.prog.globalNamed "dockmaster/dockmasterlaw21.Conf" = some 0 := by kernel_rfl
theorem tConf : (Tryz.prog.globals[0]?).map (·.type) = some 33 := by kernel_rfl
theorem cellsConf : Tryz.prog.cellsOf 33 = 3 := by kernel_rfl
theorem cells3 : Tryz.prog.cellsOf 3 = 1 := by kernel_rfl
theorem conf_laid {W : World} (h : laidMetH Tryz.prog Rows.worldNilRow.laid W) : ∃ q : TypeId × (Nat × Nat), W.heap[0]? = some (.cells #[.int .i64 800, .int .i64 300, .int .i64 6] q.1 q.2) :=
  laid_three h gConf tConf Tryz.underlying33 Tryz.underlying3 Tryz.underlying3 Tryz.underlying3 rfl rfl rfl cellsConf cells3 cells3 cells3
theorem jfAll : joinedFacts Tryz.prog 3 Tryz.f3 Rows.worldNilSpec Rows.worldNilRow = true := by
  unfold joinedFacts
  repeat' with_reducible refine and_mk ?_ ?_
  · kernel_rfl
  · exact jf2
  · exact jf3
  · kernel_rfl
  · kernel_rfl
  · kernel_rfl
  · kernel_rfl
  · kernel_rfl
  · kernel_rfl
  · exact jf10
  · exact jf11
  · exact jf12
  · exact jf13
  · kernel_rfl
  · kernel_rfl
  · kernel_rfl
  · kernel_rfl
  · kernel_rfl
  · kernel_rfl
  · kernel_rfl
  · kernel_rfl
  · kernel_rfl
  · kernel_rfl
  · kernel_rfl
  · exact jf25
  · exact jf26
  · exact jf27
  · kernel_rfl
  · kernel_rfl
  · kernel_rfl
  · kernel_rfl
  · kernel_rfl
theorem fitsAll : ∀ t ∈ Tryz.f3.params.toList, Tryz.prog.readableRec t = true ∧ t < Tryz.prog.types.size := by
  have h : (Tryz.f3.params.toList.all fun t => Tryz.prog.readableRec t && decide (t < Tryz.prog.types.size)) = true := by kernel_rfl
  intro t ht
  have := List.all_eq_true.1 h t ht
  rw [Bool.and_eq_true, decide_eq_true_eq] at this
  exact this

set_option maxRecDepth 100000 in
theorem door_met (os : Os) (args : Array Value) : laidMetH Tryz.prog Rows.worldNilRow.laid ((World.doorLaid Tryz.prog 400 os).forCall (fun _ _ => 0) ⟨#[], args, []⟩).memory :=
  laidMetH_of_parts3 (fuel := 8) (laidMet_of_run' 8 (by kernel_rfl) (by kernel_rfl)) (by kernel_rfl) (by kernel_rfl)
set_option maxRecDepth 100000 in
theorem worldNil_lifted (os : Os) (started : os.Started) (H : Type) (enc : TypeId × Value → H) :
    ReturnsInHanded {} Tryz.checked os 3 .any (fun w args => (Rows.worldNilSpec.pre enc Tryz.prog Tryz.f3 [] false w args ∧ laidMetH Tryz.prog Rows.worldNilRow.laid w) ∧ sizedMet enc Tryz.prog Tryz.f3 (OpenSpec.ofChange Rows.worldNilSpec) false w args)
      (Rows.worldNilSpec.post enc Tryz.prog Tryz.f3 false true false false) := by
  refine returnsInHanded_of_change_and (C := Tryz.checked) (X := fun w _ => laidMetH Tryz.prog Rows.worldNilRow.laid w) (fun _ _ _ hh h => h.of_heap hh) Tryz.own started (by kernel_rfl) Tryz.func3
    (ChangeSpec.witness_shaped (enc := enc) (C := Tryz.checked) (os := os) (X := fun w _ => laidMetH Tryz.prog Rows.worldNilRow.laid w) false (World.doorLaid Tryz.prog 400 os)
      #[.int .i64 0, .agg #[.int .i64 0, .int .i64 0, .int .i64 0, .int .i64 0, .int .i64 0, .string ⟨#[]⟩, .string ⟨#[]⟩, .int .i64 0, .int .i64 0, .slice none 0 0, .int .i64 0]] 8 rfl (World.shaped_of_RefB (by kernel_rfl) (by kernel_rfl)) (by kernel_rfl) (by kernel_rfl) (by kernel_rfl) (door_met os _)) ?_
  intro W base args ds gs before hval0 hW _ _ hL _
  have hval : ∀ (j : Nat) t v, Tryz.f3.params[j]? = some t → args[j]? = some v → Value.okWide Tryz.prog W .any base t v := hval0
  have hW' := hW
  obtain ⟨p, q, hA0, hV, rfl, hfz, hnd⟩ := hW
  obtain ⟨rfl, rfl⟩ := trodVars_none hV
  rw [List.append_nil] at hW'
  have hA : DataW.TrodAll enc Tryz.prog W 0 (fun _ => true) true Tryz.f3.params.toList args.toList ds p := hA0
  have hA' := hA
  rw [Tryz.params3] at hA' hval
  obtain ⟨v0, v1, d0, d1, p0, p1, rfl, rfl, rfl, h0, h1⟩ := trodAll_two hA'
  obtain ⟨nodes, rfl, _, _, _⟩ := open_int Tryz.underlying3 (hval 0 3 v0 rfl rfl) h0
  obtain ⟨cs, rfl, hfit⟩ := open_flat Tryz.underlying26 cks26 (by rw [cells26]; rfl) (hval 1 26 v1 rfl rfl) h1
  obtain ⟨a1, a2, a3, a4, a5, a6, a7, a8, s, t, ba, n, m, rfl⟩ := open_step hfit
  obtain ⟨qq, hq⟩ := conf_laid hL
  refine (worldNil_calls nodes a1 a2 a3 a4 a5 a6 a7 a8 s t ba n m hq).mono fun e W' ⟨v, he, hv, hw⟩ => ?_
  subst he; subst hv
  exact ⟨_, rfl, post_old jf2 fitsAll rfl hW' hA hw rfl rfl (fun _ _ _ => trodAll_mk1 (shut_bool Tryz.underlying4 true)) (ok_one (by kernel_rfl) rfl (okWide_bool_mk Tryz.underlying4 true))⟩

theorem fnLaw : Tryz.prog.funcNamed "dockmaster/dockmasterlaw21.WorldNil" = some 3 := by kernel_rfl
theorem worldNil_holds : Rows.WorldNilSaid :=
  OpenClaim.holds_of_wide 3 Tryz.f3 rfl rfl rfl rfl rfl rfl rfl ⟨rfl, rfl, rfl, rfl, rfl⟩ rfl rfl rfl rfl rfl fnLaw Tryz.func3 jfAll
    (of_decide_eq_true (by kernel_rfl)) (by unfold Func.isWrapper; first | (rw [if_pos (by decide +kernel)]; kernel_rfl) | (rw [if_neg (by decide +kernel)]; exact ⟨rfl, rfl⟩))
    (fun os started H enc _ => worldNil_lifted os started H enc)
theorem worldNilCard_holds : Rows.WorldNilCardSaid :=
  Claim7.holds_tied_plain_at .later [] [.data] true (true, "08d4ba8597b9636e8bc9ef96610bf97b2725c11e68c7e432244e4dedebf65af4") true
    worldNil_holds (fun _ h => by cases h) (by kernel_rfl) (fun _ h => by cases h) worldNil_row_tie rfl ⟨rfl, rfl⟩ cdMain rfl
    (fun f fn hf hfn => by
      obtain rfl : f = 3 := Option.some.inj (fnLaw.symm.trans hf) |>.symm
      obtain rfl : fn = Tryz.f3 := (Option.some.inj (Tryz.func3.symm.trans hfn)).symm
      exact ⟨cdLooks, fun j t ht => by
        rw [Tryz.params3] at ht
        have hm : t ∈ [3, 26] := by simpa using Array.mem_of_getElem? ht
        exact (show Tryz.prog.wantsStandIn t = false by simpa using List.all_eq_true.1 cdStand t hm)⟩)
    cdGoes
end Go.Proofs.YtckfbdnkgjpmlaaGreatDoor
