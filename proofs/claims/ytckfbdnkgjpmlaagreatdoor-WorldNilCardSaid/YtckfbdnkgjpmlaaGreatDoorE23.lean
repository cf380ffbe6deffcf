/- E, part 23: operations look at their operands alone; sameness. -/
import Derived.Test.YtckfbdnkgjpmlaaGreatDoorE22
namespace Ab
open Go

variable {P : Program} {cx : Ctx} {ρ : Env}

theorem lopt_congr {α β : Type} {f f' : α → Option β} : ∀ {l : List α}, (∀ x ∈ l, f x = f' x) → lopt f l = lopt f' l
  | [], _ => rfl
  | x :: l, h => by
    have e : ∀ (k : α → Option β), lopt k (x :: l) = Option.rec none (fun y => Option.rec none (fun ys => some (y :: ys)) (lopt k l)) (k x) := fun _ => rfl
    rw [e, e, h x (by simp), lopt_congr (fun y hy => h y (by simp [hy]))]
theorem partsE_congr {g g' : Operand → Option AV} {ps : List (Nat × Operand)} (h : ∀ p ∈ ps, g p.2 = g' p.2) : partsE g ps = partsE g' ps :=
  lopt_congr fun p hp => by rw [h p hp]
theorem gE_congr {β : Type} {g g' : Operand → Option AV} {x : Operand} {f f' : AV → T β} (h : g x = g' x) (hf : ∀ v, f v = f' v) : gE g x f = gE g' x f' := by
  unfold gE
  rw [h]
  cases g' x with
  | none => rfl
  | some v => exact hf v
theorem gO_congr {β : Type} {g g' : Operand → Option AV} {x : Option Operand} {f f' : Option AV → T β} (h : ∀ y, x = some y → g y = g' y) (hf : ∀ v, f v = f' v) : gO g x f = gO g' x f' := by
  cases x with
  | none => exact hf none
  | some y =>
    unfold gO
    simp only
    rw [h y rfl]
    cases g' y with
    | none => rfl
    | some v => exact hf _

section
variable {g g' : Operand → Option AV} {op : Op}
theorem pureE_congr (h : ∀ x ∈ op.operands, g x = g' x) (fx : Facts) : pureE cx g op fx = pureE cx g' op fx := by
  cases op <;> first
    | rfl
    | (simp only [Op.operands, List.mem_toArray, List.mem_cons, List.not_mem_nil, or_false, forall_eq_or_imp, forall_eq] at h
       simp only [pureE, gE, h]; done)
    | skip
  case build t ps =>
    simp only [pureE]
    rw [partsE_congr (g' := g') fun p hp => h p.2 (by simp only [Op.operands, List.mem_toArray]; exact List.mem_map_of_mem hp)]
  case makeFunc fn first captured =>
    cases fn <;> try rfl
    all_goals simp only [pureE]
    all_goals rw [lopt_congr (f' := g') (l := first.toList) fun x hx => h x (by simp only [Op.operands, Array.mem_append]; exact .inl (Array.mem_toList_iff.1 hx)),
      lopt_congr (f' := g') (l := captured.toList) fun x hx => h x (by simp only [Op.operands, Array.mem_append]; exact .inr (Array.mem_toList_iff.1 hx))]
  case slice t x lo hi mx =>
    simp only [Op.operands, Array.mem_append] at h
    refine gE_congr (h x (by simp)) fun a => gO_congr (fun y hy => h y (by simp [hy])) fun l => gO_congr (fun y hy => h y (by simp [hy])) fun hh => gO_congr (fun y hy => h y (by simp [hy])) fun m => rfl
  case call c =>
    simp only [Op.operands, Call.operands, Array.mem_append] at h
    simp only [pureE]
    split
    · split
      · rename_i x y hxy
        have hx : x ∈ c.args := Array.mem_toList_iff.1 (by simp [hxy])
        have hy : y ∈ c.args := Array.mem_toList_iff.1 (by simp [hxy])
        exact gE_congr (h x (.inr hx)) fun _ => gE_congr (h y (.inr hy)) fun _ => rfl
      · rfl
    · split
      · rename_i x y hxy
        have hx : x ∈ c.args := Array.mem_toList_iff.1 (by simp [hxy])
        have hy : y ∈ c.args := Array.mem_toList_iff.1 (by simp [hxy])
        exact gE_congr (h x (.inr hx)) fun _ => gE_congr (h y (.inr hy)) fun _ => rfl
      · rfl
    · rfl
theorem readE_congr (h : ∀ x ∈ op.operands, g x = g' x) (H : Tr AObj) (fx : Facts) : readE cx g op H fx = readE cx g' op H fx := by
  cases op <;> first
    | rfl
    | (simp only [Op.operands, List.mem_toArray, List.mem_cons, List.not_mem_nil, or_false, forall_eq_or_imp, forall_eq] at h
       simp only [readE, gE, h]; done)
    | skip
  case call c =>
    simp only [Op.operands, Call.operands, Array.mem_append] at h
    simp only [readE]
    split
    · split
      · rename_i x t hx1 ht1
        have hx : x ∈ c.args := Array.mem_toList_iff.1 (by simp [hx1])
        exact gE_congr (h x (.inr hx)) fun _ => rfl
      · rfl
    · rfl
theorem allocE_congr (h : ∀ x ∈ op.operands, g x = g' x) (fx : Facts) : allocE cx g op fx = allocE cx g' op fx := by
  cases op <;> first
    | rfl
    | (simp only [Op.operands, List.mem_toArray, List.mem_cons, List.not_mem_nil, or_false, forall_eq_or_imp, forall_eq] at h
       simp only [allocE, gE, h]; done)
    | skip
  case buildSlice t n ps =>
    simp only [allocE]
    rw [partsE_congr (g' := g') fun p hp => h p.2 (by simp only [Op.operands, List.mem_toArray]; exact List.mem_map_of_mem hp)]
theorem writeE_congr (h : ∀ x ∈ op.operands, g x = g' x) (st : St) : writeE cx g op st = writeE cx g' op st := by
  cases op <;> first
    | rfl
    | (simp only [Op.operands, List.mem_toArray, List.mem_cons, List.not_mem_nil, or_false, forall_eq_or_imp, forall_eq] at h
       simp only [writeE, gE, h]; done)
    | skip
  case call c =>
    simp only [Op.operands, Call.operands, Array.mem_append] at h
    simp only [writeE]
    split
    · split
      · rename_i x t hx1 ht1
        have hx : x ∈ c.args := Array.mem_toList_iff.1 (by simp [hx1])
        exact gE_congr (h x (.inr hx)) fun _ => rfl
      · rfl
    all_goals first
      | rfl
      | (split
         · rename_i x y t u hx1 ht1
           have hx : x ∈ c.args := Array.mem_toList_iff.1 (by simp [hx1])
           have hy : y ∈ c.args := Array.mem_toList_iff.1 (by simp [hx1])
           exact gE_congr (h x (.inr hx)) fun _ => gE_congr (h y (.inr hy)) fun _ => rfl
         · rfl)
theorem callE_congr {cf : CallF} {c : Call} (h : ∀ x ∈ c.operands, g x = g' x) (st : St) : callE cx cf g c st = callE cx cf g' c st := by
  unfold callE
  simp only [Call.operands, Array.mem_append] at h
  rw [lopt_congr (f' := g') (l := c.args.toList) fun x hx => h x (.inr (Array.mem_toList_iff.1 hx))]
  congr 1
  funext args
  split
  · rename_i f hc
    exact gE_congr (h f (.inl (by rw [hc]; simp))) fun _ => rfl
  · rename_i r name hc
    exact gE_congr (h r (.inl (by rw [hc]; simp))) fun _ => rfl
  · rfl
theorem opE_congr {cf : CallF} {cl : Nat} (h : ∀ x ∈ op.operands, g x = g' x) (st : St) : opE cx cf g cl op st = opE cx cf g' cl op st := by
  unfold opE
  split
  · rw [pureE_congr h]
  · rw [readE_congr h]
  · rw [allocE_congr h]
  · rw [writeE_congr h]
  · split
    · rw [callE_congr (g' := g') h]
    · rfl
  · rfl
end

mutual
theorem AV.same_eq : ∀ (a b : AV), AV.same a b = true → a = b
  | .bool a, b, h => by cases b <;> simp [AV.same] at h; rw [h]
  | .int k s, b, h => by
    cases b <;> simp [AV.same] at h
    rw [kid_inj h.1, Tm.same_eq h.2]
  | .str s, b, h => by cases b <;> simp [AV.same] at h; rw [STm.same_eq h]
  | .ptr i o, b, h => by
    cases b <;> simp [AV.same] at h
    rw [h.1, h.2]
  | .nilp, b, h => by cases b <;> simp [AV.same] at h; rfl
  | .slice a1 a2 a3 a4 a5 a6, b, h => by
    cases b <;> simp [AV.same] at h
    obtain ⟨⟨⟨⟨⟨h1, h2⟩, h3⟩, h4⟩, h5⟩, h6⟩ := h
    rw [h1, h2, h3, h4, h5, h6]
  | .nils, b, h => by cases b <;> simp [AV.same] at h; rfl
  | .map i, b, h => by cases b <;> simp [AV.same] at h; rw [h]
  | .nilm, b, h => by cases b <;> simp [AV.same] at h; rfl
  | .func f x y, b, h => by
    cases b <;> simp [AV.same] at h
    rw [h.1.1, sames_eq _ _ h.1.2, sames_eq _ _ h.2]
  | .meth f x y, b, h => by
    cases b <;> simp [AV.same] at h
    rw [h.1.1, sames_eq _ _ h.1.2, sames_eq _ _ h.2]
  | .nilf, b, h => by cases b <;> simp [AV.same] at h; rfl
  | .iface t v, b, h => by
    cases b <;> simp [AV.same] at h
    rw [h.1, AV.same_eq _ _ h.2]
  | .nili, b, h => by cases b <;> simp [AV.same] at h; rfl
  | .agg x, b, h => by cases b <;> simp [AV.same] at h; rw [sames_eq _ _ h]
  | .tuple x, b, h => by cases b <;> simp [AV.same] at h; rw [sames_eq _ _ h]
  | .yield x, b, h => by simp [AV.same] at h
  | .opq i, b, h => by cases b <;> simp [AV.same] at h; rw [h]
theorem sames_eq : ∀ (a b : List AV), sames a b = true → a = b
  | [], [], _ => rfl
  | [], _ :: _, h => by simp [sames] at h
  | _ :: _, [], h => by simp [sames] at h
  | a :: x, b :: y, h => by
    simp [sames] at h
    rw [AV.same_eq _ _ h.1, sames_eq _ _ h.2]
end
end Ab
