/- head of law23: it answers true, by a verified abstract executor that the kernel runs. -/
import Derived.Test.YtcdpepaffpboeaaDoorScVars
import Derived.Test.YtcdpepaffpboeaaDoorG4
namespace Go.Proofs.YtcdpepaffpboeaaDoor
open Go.RowKit Go.Shelf Ab
noncomputable def sGs : List (Nat × AObj) := [(0, .ro 0 (stepW.map fun l => .str (.c l))), (1, .ro 1 (callW.map fun l => .str (.c l)))]
noncomputable def sHk : Tr (List AV → St → T (AV × St)) := Tr.set (Tr.set (Tr.set .nil 34 (pureHook ixByteG)) 40 (pureHook countG)) 33 (plainHook digitG)
noncomputable def sCx : Ctx := mkCtxG Tryd.prog sHk 100 10
theorem headRun : (summ (keepT sGs (callNF sCx 1000000 8 [] (St.glob sGs 10 [])))).allYes = true := by kernel_rfl
theorem Tryd.cxOk : (mkCtx Tryd.prog).Ok Tryd.prog := mkCtx_ok (by decide +kernel) (by kernel_rfl)
theorem sCx_ok : sCx.Ok Tryd.prog := mkCtxG_ok Tryd.cxOk sHk 100 10
theorem sFlat : flatG sGs = true := by kernel_rfl
theorem atoi_digit : ∀ n : Fin 10, Lib.atoiAll [UInt8.ofNat (48 + n.1)] = .ok (n.1 : Int) := by decide +kernel
theorem digit_calls (d : UInt8) (h0 : 48 ≤ d.toNat) (h1 : d.toNat ≤ 57) (w : World) : Calls Tryd.prog 33 #[.string ⟨#[d]⟩] w fun e w' => e = .returned (.tuple #[.int .i64 ((d.toNat - 48 : Nat) : Int), .bool true]) ∧ Below w.heap.size w w' := by
  have hd : UInt8.ofNat (48 + (d.toNat - 48)) = d := by
    rw [show 48 + (d.toNat - 48) = d.toNat by omega]
    simp
  have ha : Lib.atoiAll [d] = .ok ((d.toNat - 48 : Nat) : Int) := by
    have := atoi_digit ⟨d.toNat - 48, by omega⟩
    rw [hd] at this
    exact this
  have := Tryd.number_small ⟨#[d]⟩ (by show 1 ≤ 9223372036854775806; omega) (d.toNat - 48) (by omega) ha w
  have he : (Lib.decDigits (d.toNat - 48) == (ByteArray.mk #[d]).data.toList) = true := by
    rw [Lib.decDigits, dif_pos (by omega), hd]
    simp
  rw [he] at this
  exact this
theorem hkFn (f : Nat) (h : (match Tryd.prog.funcs[f]? with | some fn => decide (fn.name ≠ "runtime.NumGoroutine") && !fn.body.isNone | none => false) = true) : ∃ fn, Tryd.prog.funcs[f]? = some fn ∧ fn.name ≠ "runtime.NumGoroutine" ∧ fn.body.isNone = false := by
  split at h
  · rename_i fn hf
    rw [Bool.and_eq_true, decide_eq_true_eq] at h
    exact ⟨fn, hf, h.1, by simpa using h.2⟩
  · cases h
theorem sHk_ok (ρ : Env) : HksOk Tryd.prog ρ sHk :=
  ((HksOk.nil.set (pureHook_sound (hkFn 34 (by kernel_rfl)) (ixByteG_sound fun s c w => Any.stringslite_IndexByte Tryd.lays217 s c w))).set
    (pureHook_sound (hkFn 40 (by kernel_rfl)) (countG_sound fun s c w => Any.strings_Count_one Tryd.lays138 s c w))).set
    (plainHook_sound (hkFn 33 (by kernel_rfl)) (digitG_sound digit_calls))
/-- The symbols: none; the blocks of the package variables. -/
def sEnv (q0 q1 : TypeId × (Nat × Nat)) : Env := { num := fun _ => 0, txt := fun _ => [], gl := 10, ro := fun i => match i with | 0 => q0 | _ => q1 }
theorem sLt (q0 q1 : TypeId × (Nat × Nat)) : ∀ p ∈ sGs, p.1 < (sEnv q0 q1).gl := fun p hp => by
  unfold sGs at hp
  simp only [List.mem_cons, List.not_mem_nil, or_false] at hp
  rcases hp with rfl | rfl
  · show 0 < 10
    omega
  · show 1 < 10
    omega
theorem sGAt {W : World} {q0 q1 : TypeId × (Nat × Nat)} (h0 : W.heap[0]? = some (.cells (stepW.map strV).toArray q0.1 q0.2)) (h1 : W.heap[1]? = some (.cells (callW.map strV).toArray q1.1 q1.2)) : GAt (sEnv q0 q1) sGs W := fun p hp L => by
  unfold sGs at hp
  simp only [List.mem_cons, List.not_mem_nil, or_false] at hp
  rcases hp with rfl | rfl
  · exact ⟨rfl, h0⟩
  · exact ⟨rfl, h1⟩
/-- head answers true. -/
theorem head_calls {W : World} (h : SVars W) : Calls Tryd.prog 8 #[] W fun e w' => e = .returned (.bool true) ∧ Below W.heap.size W w' := by
  obtain ⟨⟨q0, h0⟩, ⟨q1, h1⟩, _, _, _⟩ := h
  refine (law_globYes sCx_ok (sEnv q0 q1) rfl (sLt q0 q1) sFlat (HksOk.ctxG (sHk_ok _)) (fun _ hp => by cases hp) (fun L _ => rfl) headRun (sGAt h0 h1)).mono ?_
  rintro e w' ⟨v, rfl, rfl, hb⟩
  exact ⟨rfl, hb⟩
end Go.Proofs.YtcdpepaffpboeaaDoor
