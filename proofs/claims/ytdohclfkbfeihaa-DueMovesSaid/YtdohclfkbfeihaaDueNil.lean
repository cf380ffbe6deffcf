/- 'DueNil' of the queue of due times: for every kind, time and task id, the law answers true, and the arguments read as they did. Proved by running the
   program's form in a verified abstract executor (the texts E1 .. E33), once, in the kernel. No condition. -/
import Derived.Test.YtdohclfkbfeihaaRows
import Derived.Test.YtdohclfkbfeihaaE33
namespace Go.Proofs.Ytdohclfkbfeihaa
open Go.ChangeShapes Go.WideShapes Go.ChangeAt Go.RowKit Ab

theorem Try.own : ownKnob Try.prog.godebug = none := by kernel_rfl
theorem Try.cxOk : (mkCtx Try.prog).Ok Try.prog := mkCtx_ok (by decide +kernel) (by kernel_rfl)

section
variable {H : Type} {enc : TypeId × Value → H} {base : Nat} {sp : Nat → Bool} {hd : Bool} {W : World}
theorem cells30 : Try.prog.cellsOf 30 = 2 := by kernel_rfl
theorem cells28 : Try.prog.cellsOf 28 = 1 := by kernel_rfl
theorem cells3 : Try.prog.cellsOf 3 = 1 := by kernel_rfl
theorem open_tid {r : Reach} {b0 : Nat} {v : Value} {d : DataW H} {ps : List MemPlace} (hval : Value.okWide Try.prog W r b0 30 v) (h : DataW.Trod enc Try.prog W base sp hd 30 v d ps) :
    ∃ x y : Int, v = .agg #[.int .u64 x, .int .i64 y] ∧ d = .agg [.lit (.int .u64 x), .lit (.int .i64 y)] ∧ ps = [] ∧ (Lit.int .u64 x).wf = true ∧ (Lit.int .i64 y).wf = true := by
  obtain ⟨fuel, hf⟩ := h
  obtain ⟨y0, y1, n, hx, hl, h0, h1⟩ := trod_struct2 Try.underlying30 hf
  simp only [Value.okWide, Try.underlying30] at hval
  obtain ⟨cs, rfl, hcs, _⟩ := hval
  rw [cells30] at hcs
  have e : ∃ a b, cs = #[a, b] := ⟨cs[0], cs[1], by apply Array.ext' ; match cs, hcs with | ⟨[a, b]⟩, _ => rfl⟩
  obtain ⟨a, b, rfl⟩ := e
  rw [cells28] at h0
  rw [cells3] at h1
  obtain ⟨x, hx0, e0, w0⟩ := DataW.trod_int Try.underlying28 h0
  obtain ⟨y, hy0, e1, w1⟩ := DataW.trod_int Try.underlying3 h1
  simp [Value.cells] at hx0 hy0
  subst hx0 hy0 e0 e1
  simp at hx
  exact ⟨x, y, rfl, hx.1, hx.2, w0, w1⟩
theorem shut_tid {x y : Int} (wx : (Lit.int .u64 x).wf = true) (wy : (Lit.int .i64 y).wf = true) :
    DataW.Trod enc Try.prog W base sp hd 30 (.agg #[.int .u64 x, .int .i64 y]) (.agg [.lit (.int .u64 x), .lit (.int .i64 y)]) [] := by
  refine ⟨2, ?_⟩
  have := trod_struct2_mk (H := H) (enc := enc) (P := Try.prog) (w := W) (base := base) (spare := sp) (held := hd) (t := 30) (n := 1) (cs := [.int .u64 x, .int .i64 y]) (y0 := (.lit (.int .u64 x), [])) (y1 := (.lit (.int .i64 y), [])) Try.underlying30 (by rw [cells30]; rfl)
    (by rw [cells28]; simp [DataW.trod, Try.underlying28, wx]) (by rw [cells3]; simp [DataW.trod, Try.underlying3, wy])
  simpa [Value.cells] using this
end

theorem dueNil_sum : summ (callN (mkCtx Try.prog) 1000000 6 [.int .i64 (.v 0), .int .i64 (.v 1), .agg [.int .u64 (.v 2), .int .i64 (.v 3)]] St.init) = .yes := by kernel_rfl

theorem dueNil_calls (a b x y : Int) (W : World) : Calls Try.prog 6 #[.int .i64 a, .int .i64 b, .agg #[.int .u64 x, .int .i64 y]] W fun e w' => ∃ v, e = .returned v ∧ v = .bool true ∧ Below W.heap.size W w' :=
  law_calls Try.cxOk (args := [.int .i64 (.v 0), .int .i64 (.v 1), .agg [.int .u64 (.v 2), .int .i64 (.v 3)]]) (k := 1000000) ⟨fun i => match i with | 0 => a | 1 => b | 2 => x | _ => y, fun _ => []⟩
    (fun L => by simp [conc, concs, Tm.den]) (by rw [dueNil_sum]; trivial) W

set_option maxRecDepth 100000 in
theorem dueNil_lifted (os : Os) (started : os.Started) (H : Type) (enc : TypeId × Value → H) :
    ReturnsInHanded {} Try.checked os 6 .any (Rows.dueNilSpec.pre6 enc Try.prog Try.f6 Rows.dueNilRow.domain false) (Rows.dueNilSpec.post enc Try.prog Try.f6 false true false false) := by
  refine returnsInHanded_of_change (C := Try.checked) Try.own started (by kernel_rfl) Try.func6
    (ChangeSpec.witness6 (enc := enc) (C := Try.checked) false ⟨#[], #[.int .i64 0, .int .i64 0, .agg #[.int .u64 0, .int .i64 0]], []⟩ 8 (by kernel_rfl) (by kernel_rfl) (by kernel_rfl) (by kernel_rfl)) ?_
  intro W base args ds gs before hval0 hW hcnd _
  have hval : ∀ (j : Nat) t v, Try.f6.params[j]? = some t → args[j]? = some v → Value.okWide Try.prog W .any base t v := hval0
  have hW' := hW
  obtain ⟨p, q, hA0, hV, rfl, hfz, hnd⟩ := hW
  have hA : DataW.TrodAll enc Try.prog W 0 (fun _ => true) true Try.f6.params.toList args.toList ds p := hA0
  rw [Try.params6] at hA hval
  obtain ⟨v0, v1, v2, d0, d1, d2, p0, p1, p2, rfl, rfl, rfl, h0, h1, h2⟩ := trodAll_three hA
  obtain ⟨rfl, rfl⟩ := trodVars_none hV
  obtain ⟨a, rfl, rfl, rfl, wa⟩ := open_int Try.underlying3 (hval 0 3 v0 rfl rfl) h0
  obtain ⟨b, rfl, rfl, rfl, wb⟩ := open_int Try.underlying3 (hval 1 3 v1 rfl rfl) h1
  obtain ⟨x, y, rfl, rfl, rfl, wx, wy⟩ := open_tid (hval 2 30 v2 rfl rfl) h2
  clear hA0 hval0
  simp only [List.append_nil] at hW'
  refine (dueNil_calls a b x y W).mono fun e W' ⟨v, he, hv, hw⟩ => ?_
  subst he; subst hv
  exact ⟨_, rfl, post_plain hW' hw (fun _ _ _ => trodAll_mk1 (shut_bool Try.underlying4 true)) (fun sp => trodAll_mk3 (shut_int Try.underlying3 wa) (shut_int Try.underlying3 wb) (shut_tid wx wy)) (fun _ => rfl)
    (ok_one (by kernel_rfl) rfl (okWide_bool_mk Try.underlying4 true))⟩

theorem dueNil_holds : Rows.DueNilSaid :=
  OpenClaim.holds_of_wide 6 Try.f6 rfl rfl rfl rfl rfl rfl rfl ⟨rfl, rfl, rfl, rfl, rfl⟩ rfl rfl rfl rfl rfl (by kernel_rfl) Try.func6 (by kernel_rfl)
    (of_decide_eq_true (by kernel_rfl)) (by unfold Func.isWrapper; first | (rw [if_pos (by decide +kernel)]; kernel_rfl) | (rw [if_neg (by decide +kernel)]; exact ⟨rfl, rfl⟩))
    (fun os started H enc _ => dueNil_lifted os started H enc)
end Go.Proofs.Ytdohclfkbfeihaa
