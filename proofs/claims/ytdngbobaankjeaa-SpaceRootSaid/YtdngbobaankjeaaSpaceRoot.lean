/- 'SpaceRoot' of the views of a pool: for every list of numbers the law answers true, and the list reads as it did. Proved by running the program's form from sets of states in a
   verified abstract executor (the texts E1 .. E51), in the kernel; the library's sorted keys are summed up by the kit's contract. No condition. -/
import Derived.Test.YtdngbobaankjeaaSrSorted
import Derived.Test.YtdngbobaankjeaaG4
namespace Go.Proofs.Ytdngbobaankjeaa
open Go.ChangeShapes Go.WideShapes Go.ChangeAt Go.ChangeMaps Go.RowKit Ab

theorem Try.own : ownKnob Try.prog.godebug = none := by kernel_rfl
theorem Try.cxOk : (mkCtx Try.prog).Ok Try.prog := mkCtx_ok (by decide +kernel) (by kernel_rfl)
noncomputable def srCx0 : Ctx := mkCtxG Try.prog .nil 1 0
noncomputable def srHk : Tr (List AV → St → T (AV × St)) := Tr.set (Tr.set .nil 4 trueHook) 18 (sortedHook 34 3)
noncomputable def srCx : Ctx := mkCtxG Try.prog srHk 1 0
def srG : GP := ⟨500, 55, 9, [7, 8, 11, 12, 39, 40, 41, 42, 43, 44, 45, 46, 47, 48, 49, 53, 54, 55, 56, 57, 58, 59, 60, 61, 62, 63, 64, 65, 66, 67, 68, 69, 70, 71, 72, 73, 74, 75, 76, 77, 78, 79, 80, 81, 82, 83], [(9, 0)]⟩
abbrev srDead : List (Atom × Bool) := [(.lt (.c 0) (.c 0), true)]
theorem srHead : (summ (callNF srCx0 1000000 4 [] (St.with_ []))).allYes = true := by kernel_rfl
theorem srRun0 : (summ (callNF srCx 1000000 3 [.opq 2] (St.with_ [(.lt (.c 0) (.len 2), false)]))).allYes = true := by kernel_rfl
theorem srRun : lawG srCx srG (frKept 0 .i64 2 1000) 1000000 1000000 srDead 3 [.fsl 0 2] ⟨Tr.set .nil 0 (.fr .i64 2 1000), 1, []⟩ = true := by kernel_rfl
theorem srCx0_ok : srCx0.Ok Try.prog := mkCtxG_ok Try.cxOk .nil 1 0
theorem srCx_ok : srCx.Ok Try.prog := mkCtxG_ok Try.cxOk srHk 1 0
theorem srHead_sound {ρ : Env} (h : ρ.gl = 0) : HookSound Try.prog ρ 4 trueHook := trueHook_ok srCx0_ok rfl ρ (HksOk.ctxG HksOk.nil) srHead h
theorem srHk_ok {ρ : Env} (h : ρ.gl = 0) : HksOk Try.prog ρ srHk :=
  (HksOk.nil.set (srHead_sound h)).set (sortedHook_sound Go.Proofs.Try.keysSorted ⟨_, Try.func18, by decide +kernel, by kernel_rfl⟩)
def srEnv (n m : Nat) (b : Option Addr) (zs : List Int) (o : Obj) : Env :=
  { num := fun i => zs.getD (i - 1000) 0, txt := fun _ => List.replicate n 0, gl := 0, base := fun _ => b, cap := fun _ => m, frn := fun _ => o }
theorem srFx0 {m : Nat} {b : Option Addr} : FxOk (srEnv 0 m b [] (.deferred none)) [(.lt (.c 0) (.len 2), false)] := fun p hp => by
  rw [List.mem_singleton.1 hp]
  simp [Atom.den, Tm.den, srEnv]
theorem spaceRoot_calls {v : Value} {W : World} (h : (∃ (b : Option Addr) (m : Nat), v = .slice b 0 m) ∨ ∃ (b o n m : Nat) (zs : List Int) (c : Array Value) (el : TypeId) (fz : Nat × Nat), 0 < n ∧ v = .slice (some ⟨b, o, none⟩) n m ∧ W.heap[b]? = some (.cells c el fz) ∧
      ∀ j, j < n → c[o + j]? = some (.int .i64 (zs.getD j 0))) : Calls Try.prog 3 #[v] W fun e w' => ∃ v, e = .returned v ∧ v = .bool true ∧ Below W.heap.size W w' := by
  rcases h with ⟨b, m, rfl⟩ | ⟨b, o, n, m, zs, c, el, fz, hn, rfl, hb, hc⟩
  · exact law_allYes (args := [.opq 2]) srCx_ok rfl (srEnv 0 m b [] (.deferred none)) (HksOk.ctxG (srHk_ok rfl)) srFx0 (fun L => by simp [srEnv, conc]) rfl srRun0 W
  · refine law_sliceF (g := srG) srCx_ok (srEnv n m none zs (.cells c el fz)) rfl rfl (fun ρ' hl => HksOk.ctxG (srHk_ok hl.gl)) (fun ρ' _ hd => ?_) (fun p hp => by cases hp) (b := b) (o := o) (i := 2) (m := 1000) hb ?_ (fun L hL => ?_) srRun
    · have := hd _ List.mem_cons_self
      simp [Atom.den, Tm.den] at this
    · refine ⟨c, el, fz, rfl, fun j hj => ?_⟩
      have hj : j < n := by simpa [srEnv] using hj
      rw [hc j hj]
      simp [srEnv]
    · simp [srEnv, conc, hL]

theorem srFits : ∀ t ∈ Try.f3.params.toList, Try.prog.readableRec t = true ∧ t < Try.prog.types.size := by
  have h : (Try.f3.params.toList.all fun t => Try.prog.readableRec t && decide (t < Try.prog.types.size)) = true := by kernel_rfl
  intro t ht
  have := List.all_eq_true.1 h t ht
  rw [Bool.and_eq_true, decide_eq_true_eq] at this
  exact this
set_option maxRecDepth 100000 in
theorem spaceRoot_lifted (os : Os) (started : os.Started) (H : Type) (enc : TypeId × Value → H) :
    ReturnsInHanded {} Try.checked os 3 .any (Rows.spaceRootSpec.pre6 enc Try.prog Try.f3 Rows.spaceRootRow.domain false) (Rows.spaceRootSpec.post enc Try.prog Try.f3 false true false false) := by
  refine returnsInHanded_of_change (C := Try.checked) Try.own started (by kernel_rfl) Try.func3
    (ChangeSpec.witness6 (enc := enc) (C := Try.checked) false ⟨#[], #[.slice none 0 0], []⟩ 8 (by kernel_rfl) (by kernel_rfl) (by kernel_rfl) (by kernel_rfl)) ?_
  intro W base args ds gs before hval0 hW hcnd _
  have hval : ∀ (j : Nat) t v, Try.f3.params[j]? = some t → args[j]? = some v → Value.okWide Try.prog W .any base t v := hval0
  have hW' := hW
  obtain ⟨p, q, hA0, hV, rfl, hfz, hnd⟩ := hW
  obtain ⟨rfl, rfl⟩ := trodVars_none hV
  rw [List.append_nil] at hW'
  have hA : DataW.TrodAll enc Try.prog W 0 (fun _ => true) true Try.f3.params.toList args.toList ds p := hA0
  have hA' := hA
  rw [Try.params3] at hA' hval
  obtain ⟨v0, d0, ha, rfl, h0⟩ := trodAll_one hA'
  subst ha
  refine (spaceRoot_calls (open_list Try.underlying22 Try.underlying3 (by kernel_rfl) (hval 0 22 v0 rfl rfl) h0)).mono fun e W' ⟨v, he, hv, hw⟩ => ?_
  subst he; subst hv
  exact ⟨_, rfl, post_old (by kernel_rfl) srFits rfl hW' hA hw rfl rfl (fun _ _ _ => trodAll_mk1 (shut_bool Try.underlying4 true)) (ok_one (by kernel_rfl) rfl (okWide_bool_mk Try.underlying4 true))⟩

theorem spaceRoot_holds : Rows.SpaceRootSaid :=
  OpenClaim.holds_of_wide 3 Try.f3 rfl rfl rfl rfl rfl rfl rfl ⟨rfl, rfl, rfl, rfl, rfl⟩ rfl rfl rfl rfl rfl (by kernel_rfl) Try.func3 (by kernel_rfl)
    (of_decide_eq_true (by kernel_rfl)) (by unfold Func.isWrapper; first | (rw [if_pos (by decide +kernel)]; kernel_rfl) | (rw [if_neg (by decide +kernel)]; exact ⟨rfl, rfl⟩))
    (fun os started H enc _ => spaceRoot_lifted os started H enc)
end Go.Proofs.Ytdngbobaankjeaa
