/- E, merged: parts 39 to 58: a verified abstract executor. No program's text is named here. -/
import Derived.Test.YtcdpepaffpboeaaDoorG3
import Derived.ChangeMaps5
import Derived.ProofKit
import Derived.Carry
import Derived.Lib.Bytealg
/- E, part 39: flat parameters (whole numbers, texts, truths, structs of these): what they read as does not hang on the world; what their cells are. -/
namespace Ab
open Go Go.ChangeShapes Go.WideShapes Go.ChangeAt Go.ChangeMaps Go.RowKit

section
variable {H : Type} {enc : TypeId × Value → H} {P : Program} {w : World} {base : Nat} {sp : Nat → Bool} {hd : Bool}

/-- Flat types, to a depth. -/
def flatT (P : Program) : Nat → TypeId → Bool
  | 0, _ => false
  | d + 1, t => match P.underlying t with
    | some .bool => true
    | some (.int _) => true
    | some .string => true
    | some (.struct fs) => fs.toList.all fun f => flatT P d f.type
    | _ => false

theorem mapM_pts {α β : Type} {g : α → Option β} : ∀ {l : List α} {xs : List β}, xs.length = l.length → (∀ (i : Nat) (a : α), l[i]? = some a → g a = xs[i]?) → l.mapM g = some xs
  | [], [], _, _ => rfl
  | [], _ :: _, h, _ => by simp at h
  | _ :: _, [], h, _ => by simp at h
  | a :: l, x :: xs, h, hp => by
    have h0 : g a = some x := by simpa using hp 0 a rfl
    have ih : l.mapM g = some xs := mapM_pts (by simpa using h) fun i b hb => by simpa using hp (i + 1) b (by simpa using hb)
    rw [List.mapM_cons, h0, ih]
    rfl
/-- WHAT A FLAT VALUE READS AS DOES NOT HANG ON THE WORLD, and it reads through no place. -/
theorem trod_flat : ∀ (d : Nat) (t : TypeId), flatT P d t = true → ∀ {fuel : Nat} {cs : List Value} {x : DataW H × List MemPlace}, DataW.trod enc P w base sp hd fuel t cs = some x →
    x.2 = [] ∧ ∀ (w' : World) (base' : Nat) (sp' : Nat → Bool) (hd' : Bool), DataW.trod enc P w' base' sp' hd' fuel t cs = some x
  | 0, t, hf, _, _, _, _ => by cases hf
  | d + 1, t, hf, fuel, cs, x, h => by
    unfold flatT at hf
    split at hf
    · rename_i ht
      obtain ⟨b, rfl, rfl⟩ := DataW.trod_bool ht h
      cases fuel with
      | zero => simp [DataW.trod] at h
      | succ n => exact ⟨rfl, fun w' base' sp' hd' => by simp [DataW.trod, ht]⟩
    · rename_i k ht
      obtain ⟨n, rfl, rfl, hw⟩ := DataW.trod_int ht h
      cases fuel with
      | zero => simp [DataW.trod] at h
      | succ n => exact ⟨rfl, fun w' base' sp' hd' => by simp [DataW.trod, ht, hw]⟩
    · rename_i ht
      obtain ⟨s, rfl, rfl, hs⟩ := DataW.trod_string ht h
      cases fuel with
      | zero => simp [DataW.trod] at h
      | succ n => exact ⟨rfl, fun w' base' sp' hd' => by simp [DataW.trod, ht, hs]⟩
    · rename_i fs ht
      obtain ⟨xs, n, rfl, rfl, hl, hlen, hp⟩ := DataW.trod_struct ht h
      have hall : ∀ f ∈ fs.toList, flatT P d f.type = true := List.all_eq_true.1 hf
      have hpt : ∀ (i : Nat) (y : DataW H × List MemPlace), xs[i]? = some y → ∃ f, fs[i]? = some f ∧ DataW.trod enc P w base sp hd n f.type ((cs.drop f.offset).take (P.cellsOf f.type)) = some y := by
        intro i y hy
        have hi : i < xs.length := by
          rcases Nat.lt_or_ge i xs.length with hh | hh
          · exact hh
          · rw [List.getElem?_eq_none hh] at hy; cases hy
        have hi' : i < fs.size := by omega
        exact ⟨fs[i], Array.getElem?_eq_getElem hi', by rw [hp i fs[i] (Array.getElem?_eq_getElem hi'), hy]⟩
      refine ⟨?_, fun w' base' sp' hd' => ?_⟩
      · show xs.flatMap (·.2) = []
        rw [List.flatMap_eq_nil_iff]
        intro y hy
        obtain ⟨i, hi⟩ := List.mem_iff_getElem?.1 hy
        obtain ⟨f, hf1, hf2⟩ := hpt i y hi
        exact (trod_flat d f.type (hall f (Array.mem_toList_iff.2 (Array.mem_of_getElem? hf1))) hf2).1
      · refine trod_struct_mk ht hl (mapM_pts (by simpa using hlen) fun i f hf1 => ?_)
        have hf1' : fs[i]? = some f := by simpa using hf1
        have hi : i < xs.length := by
          rcases Nat.lt_or_ge i fs.size with hh | hh
          · omega
          · rw [Array.getElem?_eq_none hh] at hf1'; cases hf1'
        have e := hp i f hf1'
        rw [List.getElem?_eq_getElem hi] at e
        rw [List.getElem?_eq_getElem hi]
        exact (trod_flat d f.type (hall f (Array.mem_toList_iff.2 (Array.mem_of_getElem? hf1'))) e).2 w' base' sp' hd'
    · cases hf
theorem Trod_flat {d : Nat} {t : TypeId} (hf : flatT P d t = true) {v : Value} {x : DataW H} {ps : List MemPlace} (h : DataW.Trod enc P w base sp hd t v x ps) :
    ps = [] ∧ ∀ (w' : World) (base' : Nat) (sp' : Nat → Bool) (hd' : Bool), DataW.Trod enc P w' base' sp' hd' t v x [] := by
  obtain ⟨fuel, h⟩ := h
  obtain ⟨h1, h2⟩ := trod_flat d t hf h
  have h1 : ps = [] := h1
  subst h1
  exact ⟨rfl, fun w' base' sp' hd' => ⟨fuel, h2 w' base' sp' hd'⟩⟩

/-! ## The cells of flat values -/
inductive CK where
  | i (k : IntKind)
  | s
  | b
  | q
def cksF (P : Program) (ct : TypeId → Option (List CK)) : List Field → Nat → Option (List CK)
  | [], _ => some []
  | f :: fs, off => if f.offset = off then
      match ct f.type with
      | some a => if a.length = P.cellsOf f.type then (cksF P ct fs (off + a.length)).map (a ++ ·) else none
      | none => none
    else none
/-- The kinds of a flat type's cells. -/
def cksT (P : Program) : Nat → TypeId → Option (List CK)
  | 0, _ => none
  | d + 1, t => match P.underlying t with
    | some (.int k) => some [.i k]
    | some .string => some [.s]
    | some .bool => some [.b]
    | some (.slice _) => some [.q]
    | some (.struct fs) => cksF P (cksT P d) fs.toList 0
    | _ => none
/-- Cells of such kinds. -/
def Fits : List CK → List Value → Prop
  | [], [] => True
  | .i k :: l, c :: cs => (∃ n, c = .int k n ∧ (Lit.int k n).wf = true) ∧ Fits l cs
  | .s :: l, c :: cs => (∃ t : ByteArray, c = .string t ∧ t.size ≤ maxLen) ∧ Fits l cs
  | .b :: l, c :: cs => (∃ x, c = .bool x) ∧ Fits l cs
  | .q :: l, c :: cs => (∃ (b : Option Addr) (n m : Nat), c = .slice b n m) ∧ Fits l cs
  | _, _ => False
theorem Fits.append : ∀ {l m : List CK} {cs ds : List Value}, Fits l cs → Fits m ds → Fits (l ++ m) (cs ++ ds)
  | [], m, [], ds, _, h => h
  | [], m, _ :: _, ds, h, _ => h.elim
  | k :: l, m, [], ds, h, _ => by cases k <;> exact h.elim
  | k :: l, m, c :: cs, ds, h, h' => by
    cases k with
    | i k => exact ⟨h.1, Fits.append h.2 h'⟩
    | s => exact ⟨h.1, Fits.append h.2 h'⟩
    | b => exact ⟨h.1, Fits.append h.2 h'⟩
    | q => exact ⟨h.1, Fits.append h.2 h'⟩
theorem Fits.length : ∀ {l : List CK} {cs : List Value}, Fits l cs → cs.length = l.length
  | [], [], _ => rfl
  | [], _ :: _, h => h.elim
  | k :: l, [], h => by cases k <;> exact h.elim
  | k :: l, c :: cs, h => by
    have : Fits l cs := by cases k <;> exact h.2
    simp [Fits.length this]
theorem cksF_fits {ct : TypeId → Option (List CK)} {cs : List Value} : ∀ (fs : List Field) (off : Nat) (l : List CK), cksF P ct fs off = some l → cs.length = off + l.length →
    (∀ f ∈ fs, ∀ a, ct f.type = some a → Fits a ((cs.drop f.offset).take (P.cellsOf f.type))) → Fits l (cs.drop off)
  | [], off, l, h, hl, _ => by
    have h : some ([] : List CK) = some l := h
    cases h
    rw [List.drop_eq_nil_of_le (by simp at hl; omega)]
    exact True.intro
  | f :: fs, off, l, h, hl, hp => by
    unfold cksF at h
    split at h
    · rename_i ho
      split at h
      · rename_i a ha
        split at h
        · rename_i hc
          simp only [Option.map_eq_some_iff] at h
          obtain ⟨m, hm, rfl⟩ := h
          have h1 := hp f (by simp) a ha
          rw [ho, ← hc] at h1
          have h2 := cksF_fits fs (off + a.length) m hm (by simp at hl; omega) (fun g hg => hp g (by simp [hg]))
          have e : cs.drop off = (cs.drop off).take a.length ++ cs.drop (off + a.length) := by
            rw [← List.drop_drop, List.take_append_drop]
          rw [e]
          exact Fits.append h1 h2
        · cases h
      · cases h
    · cases h
theorem trod_sl {t e : TypeId} {fuel : Nat} {cs : List Value} {x : DataW H × List MemPlace} (ht : P.underlying t = some (.slice e)) (h : DataW.trod enc P w base sp hd fuel t cs = some x) : Fits [.q] cs := by
  rcases DataW.trod_slice ht h with ⟨rfl, _⟩ | ⟨a, len, cap, _, _, _, _, rfl, _⟩
  · exact ⟨⟨none, 0, 0, rfl⟩, True.intro⟩
  · exact ⟨⟨some a, len, cap, rfl⟩, True.intro⟩
theorem trod_fits : ∀ (d : Nat) (t : TypeId) (l : List CK), cksT P d t = some l → l.length = P.cellsOf t → ∀ {fuel : Nat} {cs : List Value} {x : DataW H × List MemPlace}, DataW.trod enc P w base sp hd fuel t cs = some x → Fits l cs
  | 0, t, l, hf, _, _, _, _, _ => by cases hf
  | d + 1, t, l, hf, hlen, fuel, cs, x, h => by
    unfold cksT at hf
    split at hf
    · rename_i k ht
      cases hf
      obtain ⟨n, rfl, _, hw⟩ := DataW.trod_int ht h
      exact ⟨⟨n, rfl, hw⟩, True.intro⟩
    · rename_i ht
      cases hf
      obtain ⟨s, rfl, _, hs⟩ := DataW.trod_string ht h
      exact ⟨⟨s, rfl, hs⟩, True.intro⟩
    · rename_i ht
      cases hf
      obtain ⟨b, rfl, _⟩ := DataW.trod_bool ht h
      exact ⟨⟨b, rfl⟩, True.intro⟩
    · rename_i el ht
      cases hf
      exact trod_sl ht h
    · rename_i fs ht
      obtain ⟨xs, n, rfl, rfl, hl, hxs, hp⟩ := DataW.trod_struct ht h
      refine cksF_fits fs.toList 0 l hf (by rw [hl, hlen]; omega) (fun f hfm a ha => ?_)
      obtain ⟨i, hi⟩ := List.mem_iff_getElem?.1 hfm
      have hi' : fs[i]? = some f := by simpa using hi
      have hlt : i < xs.length := by
        rcases Nat.lt_or_ge i fs.size with hh | hh
        · omega
        · rw [Array.getElem?_eq_none hh] at hi'; cases hi'
      have e := hp i f hi'
      rw [List.getElem?_eq_getElem hlt] at e
      have hal : a.length = P.cellsOf f.type := cksF_len hf f hfm a ha
      exact trod_fits d f.type a ha hal e
    · cases hf
where
  cksF_len {ct : TypeId → Option (List CK)} : ∀ {fs : List Field} {off : Nat} {l : List CK}, cksF P ct fs off = some l → ∀ f ∈ fs, ∀ a, ct f.type = some a → a.length = P.cellsOf f.type
  | [], _, _, _, f, hf, _, _ => by cases hf
  | g :: fs, off, l, h, f, hf, a, ha => by
    unfold cksF at h
    split at h
    · split at h
      · rename_i b hb
        split at h
        · rename_i hc
          simp only [Option.map_eq_some_iff] at h
          obtain ⟨m, hm, rfl⟩ := h
          rcases List.mem_cons.1 hf with rfl | hf
          · rw [hb] at ha; cases ha; exact hc
          · exact cksF_len hm f hf a ha
        · cases h
      · cases h
    · cases h
end
end Ab

/- E, part 40: package variables: they lie in their blocks, and a call leaves them as they were. -/
namespace Ab
open Go Go.RowKit

noncomputable def mkCtxG (P : Program) (hk : Tr (List AV → St → T (AV × St))) (en gl : Nat) : Ctx := ⟨Tr.ofList P.funcs.toList, mkTT P, gl, hk, en⟩
theorem mkCtxG_ok {P : Program} (h : (mkCtx P).Ok P) (hk : Tr (List AV → St → T (AV × St))) (en gl : Nat) : (mkCtxG P hk en gl).Ok P :=
  ⟨h.fn, h.name, h.info, h.desc, h.zero, h.agg, h.kinds, h.guard, h.mixed⟩

/-- A value without places. -/
noncomputable def AV.flat (v : AV) : Bool := match v with
  | .bool _ => true
  | .int _ _ => true
  | .str _ => true
  | _ => false
theorem conc_flat {v : AV} (h : v.flat = true) (L L' : Nat → Loc) (ρ : Env) : conc L ρ v = conc L' ρ v := by
  cases v <;> first | rfl | cases h
noncomputable def allFlat (l : List AV) : Bool := List.rec (motive := fun _ => Bool) true (fun v _ ih => bif v.flat then ih else false) l
theorem band_true {a b : Bool} (h : (bif a then b else false) = true) : a = true ∧ b = true := by cases a <;> cases b <;> simp_all
theorem allFlat_conc (L L' : Nat → Loc) (ρ : Env) : ∀ {l : List AV}, allFlat l = true → l.map (conc L ρ) = l.map (conc L' ρ)
  | [], _ => rfl
  | v :: l, h => by
    have h : (bif v.flat then allFlat l else false) = true := h
    obtain ⟨h1, h2⟩ := band_true h
    rw [List.map_cons, List.map_cons, conc_flat h1 L L' ρ, allFlat_conc L L' ρ h2]
/-- The same block that is read alone, of flat cells. -/
noncomputable def flatSame (o o' : AObj) : Bool := match o, o' with
  | .ro i cs, .ro i' cs' => bif Nat.beq i i' then (bif sames cs' cs then allFlat cs else false) else false
  | _, _ => false
theorem flatSame_at {o o' : AObj} (h : flatSame o o' = true) {L L' : Nat → Loc} {ρ : Env} {w : World} {l l' : Loc} (hb : l.b = l'.b) (hz : l'.o = 0) (ho : ObjAt L ρ w l o') : ObjAt L' ρ w l' o := by
  unfold flatSame at h
  split at h
  · obtain ⟨h0, h3⟩ := band_true h
    obtain ⟨h1, h2⟩ := band_true h3
    have h1 := sames_eq _ _ h1
    have h0 := Nat.eq_of_beq_eq_true h0
    clear h h3
    subst h1; subst h0
    obtain ⟨a0, a1⟩ := ho
    exact ⟨hz, by rw [← hb, a1, allFlat_conc L L' ρ h2]⟩
  · cases h
theorem flatSame_back {o o' : AObj} (h : flatSame o o' = true) {L L' : Nat → Loc} {ρ : Env} {w : World} {l l' : Loc} (hb : l.b = l'.b) (hz : l'.o = 0) (ho : ObjAt L ρ w l o) : ObjAt L' ρ w l' o' := by
  unfold flatSame at h
  split at h
  · obtain ⟨h0, h3⟩ := band_true h
    obtain ⟨h1, h2⟩ := band_true h3
    have h1 := sames_eq _ _ h1
    have h0 := Nat.eq_of_beq_eq_true h0
    clear h h3
    subst h1; subst h0
    obtain ⟨a0, a1⟩ := ho
    exact ⟨hz, by rw [← hb, a1, allFlat_conc L L' ρ h2]⟩
  · cases h

/-- Some objects are as they were. -/
noncomputable def keepsG (gs : List (Nat × AObj)) (H : Tr AObj) : Bool :=
  List.rec (motive := fun _ => Bool) true (fun p _ ih => match H.get p.1 with
    | some o => bif flatSame p.2 o then ih else false
    | none => false) gs
theorem keepsG_at {H : Tr AObj} : ∀ {gs : List (Nat × AObj)}, keepsG gs H = true → ∀ p ∈ gs, ∃ o, H.get p.1 = some o ∧ flatSame p.2 o = true
  | [], _, p, hp => by cases hp
  | q :: gs, h, p, hp => by
    have h : (match H.get q.1 with
      | some o => bif flatSame q.2 o then keepsG gs H else false
      | none => false) = true := h
    split at h
    · rename_i o ho
      obtain ⟨h1, h2⟩ := band_true h
      rcases List.mem_cons.1 hp with rfl | hp
      · exact ⟨o, ho, h1⟩
      · exact keepsG_at h2 p hp
    · cases h
/-- The heap of some objects. -/
noncomputable def heapG (gs : List (Nat × AObj)) : Tr AObj := List.rec (motive := fun _ => Tr AObj) .nil (fun p _ ih => ih.set p.1 p.2) gs
theorem heapG_get : ∀ {gs : List (Nat × AObj)} {id : Nat} {o : AObj}, (heapG gs).get id = some o → (id, o) ∈ gs
  | [], id, o, h => by cases (h : (Tr.nil : Tr AObj).get id = some o)
  | q :: gs, id, o, h => by
    have h : ((heapG gs).set q.1 q.2).get id = some o := h
    rw [Tr.get_set] at h
    split at h
    · rename_i e
      cases h
      subst e
      exact List.mem_cons_self
    · exact List.mem_cons_of_mem _ (heapG_get h)
/-- A state of which package variables alone are known, and facts. -/
noncomputable def St.glob (gs : List (Nat × AObj)) (gl : Nat) (fx : Facts) : St := ⟨heapG gs, gl, fx⟩
/-- A call, and package variables are as they were. -/
noncomputable def keepT (gs : List (Nat × AObj)) (x : T (AV × St)) : T (AV × St) := x.bind fun p => T.chk (keepsG gs p.2.H) 353 (.ret p)
theorem keepT_at {ρ : Env} {gs : List (Nat × AObj)} {x : T (AV × St)} {p : AV × St} (h : (keepT gs x).at_ ρ = some p) : x.at_ ρ = some p ∧ keepsG gs p.2.H = true := by
  unfold keepT at h
  replace h := T.at_bind_some.1 h; obtain ⟨q, hq, h⟩ := h
  replace h := chk_at h; obtain ⟨h1, h⟩ := h
  have h : some q = some p := h
  cases h
  exact ⟨hq, h1⟩
/-- Package variables' objects, in a world. -/
def GAt (ρ : Env) (gs : List (Nat × AObj)) (w : World) : Prop := ∀ p ∈ gs, ∀ L, ObjAt L ρ w ⟨p.1, 0, 0⟩ p.2
/-- What a call leaves alone: old memory, but for package variables, and these say what they said. -/
structure GBelow (ρ : Env) (gs : List (Nat × AObj)) (w w' : World) : Prop where
  size : w.heap.size ≤ w'.heap.size
  os : w'.os = w.os
  tape : w'.tape = w.tape
  output : w'.output = w.output
  keep : ∀ b, b < w.heap.size → (∀ p ∈ gs, p.1 ≠ b) → w'.heap[b]? = w.heap[b]?
  at_ : GAt ρ gs w'
/-- Package variables' objects hold flat values, so that they are read the same wherever. -/
noncomputable def flatG (gs : List (Nat × AObj)) : Bool := List.rec (motive := fun _ => Bool) true (fun p _ ih => bif flatSame p.2 p.2 then ih else false) gs
theorem flatG_at : ∀ {gs : List (Nat × AObj)}, flatG gs = true → ∀ p ∈ gs, flatSame p.2 p.2 = true
  | [], _, p, hp => by cases hp
  | q :: gs, h, p, hp => by
    have h : (bif flatSame q.2 q.2 then flatG gs else false) = true := h
    obtain ⟨h1, h2⟩ := band_true h
    rcases List.mem_cons.1 hp with rfl | hp
    · exact h1
    · exact flatG_at h2 p hp
theorem sim_glob {gs : List (Nat × AObj)} {ρ : Env} {gl : Nat} (hgl : ρ.gl = gl) (hlt : ∀ p ∈ gs, p.1 < gl) (hf : flatG gs = true) {w : World} (hw : GAt ρ gs w) {L : Nat → Loc} (hp : Pin L ρ) : Sim L ρ (heapG gs) w := by
  refine ⟨fun id o ho => ?_, fun i j oi oj hi hj hb => ?_, hp⟩
  · have hm := heapG_get ho
    have hl := hp id (by rw [hgl]; exact hlt _ hm)
    exact flatSame_at (flatG_at hf _ hm) (L := L) hl.1.symm hl.2 (hw _ hm L)
  · have h1 := (hp i (by rw [hgl]; exact hlt _ (heapG_get hi))).1
    have h2 := (hp j (by rw [hgl]; exact hlt _ (heapG_get hj))).1
    rw [← h1, ← h2, hb]
/-- A call where package variables alone are known. -/
theorem call_glob {P : Program} {cx : Ctx} (ok : cx.Ok P) (ρ : Env) (hgl : cx.gl = ρ.gl) {gs : List (Nat × AObj)} (hlt : ∀ p ∈ gs, p.1 < ρ.gl) (hf : flatG gs = true)
    (hh : HooksOk P ρ cx) {f : FuncId} {args : List AV} {vals : Array Value} {k : Nat} {fx : Facts} (hx : FxOk ρ fx) (hv : ∀ L, Pin L ρ → vals = (args.map (conc L ρ)).toArray)
    {b : Bool} {st' : St} (h : (keepT gs (callN cx k f args (St.glob gs ρ.gl fx))).at_ ρ = some (.bool b, st')) (n : Nat) {w : World} (hw : GAt ρ gs w) :
    CallsIn Fence.wide n P f vals w fun e w' => e = .returned (.bool b) ∧ GBelow ρ gs w w' := by
  obtain ⟨h, hk⟩ := keepT_at h
  obtain ⟨_, _, hc⟩ := callN_sound (ρ := ρ) ok hh (Nat.le_of_eq hgl) k f args (St.glob gs ρ.gl fx) (.bool b) st' hx h
  have pin0 : Pin (fun i => ⟨i, 0, 0⟩) ρ := fun g _ => ⟨rfl, rfl⟩
  have pinA : ∀ L', Agree ρ.gl (fun i => ⟨i, 0, 0⟩) L' → Pin L' ρ := fun L' ha => pin0.agree (Nat.le_refl _) ha
  have hc := hc (fun i => ⟨i, 0, 0⟩) w n vals (fun L' ha => sim_glob rfl hlt hf hw (pinA L' ha)) (fun L' ha => hv L' (pinA L' ha))
  refine CallsIn.mono hc (fun e w' he => ?_)
  obtain ⟨x, rfl, L1, a1, n1, hfr, _, hx⟩ := he
  have a1 : Agree ρ.gl (fun i => ⟨i, 0, 0⟩) L1 := a1
  refine ⟨by rw [(hx L1 (Agree.refl _ _)).1]; rfl, ⟨hfr.size, hfr.os, hfr.tape, hfr.output, fun b hb hn => hfr.keep b hb (fun id o ho => hn _ (heapG_get ho)), fun p hp L => ?_⟩⟩
  obtain ⟨o, ho, hs⟩ := keepsG_at hk p hp
  have h1 := (hx L1 (Agree.refl _ _)).2.at_ p.1 o ho
  have h3 := a1 p.1 (hlt p hp)
  exact flatSame_at hs (l' := ⟨p.1, 0, 0⟩) (by rw [h3]) rfl h1
theorem flatSame_ro {o o' : AObj} (h : flatSame o o' = true) : ∃ i cs, o = .ro i cs := by
  unfold flatSame at h
  split at h
  · exact ⟨_, _, rfl⟩
  · cases h
theorem GBelow.below {ρ : Env} {gs : List (Nat × AObj)} (hf : flatG gs = true) {w w' : World} (hw : GAt ρ gs w) (h : GBelow ρ gs w w') : Below w.heap.size w w' := by
  refine ⟨h.os, h.tape, h.output, h.size, fun b hb => ?_⟩
  by_cases hm : ∃ p ∈ gs, p.1 = b
  · obtain ⟨p, hp, rfl⟩ := hm
    obtain ⟨i, cs, e⟩ := flatSame_ro (flatG_at hf p hp)
    have h1 := hw p hp (fun _ => ⟨0, 0, 0⟩)
    have h2 := h.at_ p hp (fun _ => ⟨0, 0, 0⟩)
    rw [e] at h1 h2
    exact h2.2.trans h1.2.symm
  · exact h.keep b hb fun p hp e => hm ⟨p, hp, e⟩
/-- A LAW THAT ANSWERS TRUE, where package variables are known. -/
theorem law_glob {P : Program} {cx : Ctx} (ok : cx.Ok P) (ρ : Env) (hgl : cx.gl = ρ.gl) {gs : List (Nat × AObj)} (hlt : ∀ p ∈ gs, p.1 < ρ.gl) (hf : flatG gs = true)
    (hh : HooksOk P ρ cx) {f : FuncId} {args : List AV} {vals : Array Value} {k : Nat} {fx : Facts} (hx : FxOk ρ fx) (hv : ∀ L, Pin L ρ → vals = (args.map (conc L ρ)).toArray)
    {l : List Atom} (hl : ¬ ∀ A ∈ l, A.den ρ = false) (h : (summ (keepT gs (callNF cx k f args (St.glob gs ρ.gl fx)))).allBut l [] = true) {w : World} (hw : GAt ρ gs w) :
    Calls P f vals w fun e w' => ∃ v, e = .returned v ∧ v = .bool true ∧ Below w.heap.size w w' := by
  have h := Sum.allBut_at hl (ρ := ρ) (fun _ hp => by cases hp) h
  obtain ⟨st', h⟩ := summ_at _ h
  rw [callNF_eq] at h
  exact callsIn_wide.1 (CallsIn.mono (call_glob ok ρ hgl hlt hf hh hx hv h 0 hw) fun e w' he => ⟨_, he.1, rfl, he.2.below hf hw⟩)
theorem law_globYes {P : Program} {cx : Ctx} (ok : cx.Ok P) (ρ : Env) (hgl : cx.gl = ρ.gl) {gs : List (Nat × AObj)} (hlt : ∀ p ∈ gs, p.1 < ρ.gl) (hf : flatG gs = true)
    (hh : HooksOk P ρ cx) {f : FuncId} {args : List AV} {vals : Array Value} {k : Nat} {fx : Facts} (hx : FxOk ρ fx) (hv : ∀ L, Pin L ρ → vals = (args.map (conc L ρ)).toArray)
    (h : (summ (keepT gs (callNF cx k f args (St.glob gs ρ.gl fx)))).allYes = true) {w : World} (hw : GAt ρ gs w) :
    Calls P f vals w fun e w' => ∃ v, e = .returned v ∧ v = .bool true ∧ Below w.heap.size w w' := by
  have h := Sum.allYes_at (ρ := ρ) h
  obtain ⟨st', h⟩ := summ_at _ h
  rw [callNF_eq] at h
  exact callsIn_wide.1 (CallsIn.mono (call_glob ok ρ hgl hlt hf hh hx hv h 0 hw) fun e w' he => ⟨_, he.1, rfl, he.2.below hf hw⟩)
/-- A FUNCTION WITHOUT PARAMETERS THAT ANSWERS TRUE WHERE PACKAGE VARIABLES ARE SO: its summary. -/
noncomputable def globHook (gs : List (Nat × AObj)) : List AV → St → T (AV × St) := fun args st => match args with
  | [] => T.chk (keepsG gs st.H) 354 (.ret (.bool true, st))
  | _ => .bad 350
theorem globHook_ok {P : Program} {cx : Ctx} (ok : cx.Ok P) {f : FuncId} {k : Nat} (ρ : Env) (hgl : cx.gl = ρ.gl) {gs : List (Nat × AObj)} (hlt : ∀ p ∈ gs, p.1 < ρ.gl) (hf : flatG gs = true)
    (hh : HooksOk P ρ cx) (h : (summ (keepT gs (callNF cx k f [] (St.glob gs ρ.gl [])))).allYes = true) : HookSound P ρ f (globHook gs) := by
  intro args st v st' hx hr
  have h := Sum.allYes_at (ρ := ρ) h
  obtain ⟨st1, h⟩ := summ_at _ h
  rw [callNF_eq] at h
  cases args with
  | cons a l => cases hr
  | nil =>
    replace hr := chk_at (c := keepsG gs st.H) hr
    obtain ⟨hk, hr⟩ := hr
    have hr : some ((AV.bool true, st) : AV × St) = some (v, st') := hr
    simp only [Option.some.injEq, Prod.mk.injEq] at hr
    obtain ⟨rfl, rfl⟩ := hr
    refine ⟨(callN_sound (ρ := ρ) ok hh (Nat.le_of_eq hgl) k f [] (St.glob gs ρ.gl []) (.bool true) st1 (fun p hp => by cases hp) (keepT_at h).1).1, ⟨hx, Nat.le_refl _⟩, fun L w n vals hs hv => ?_⟩
    have hgn := gl_le hs
    have hL := hs L (Agree.refl _ _)
    have hw : GAt ρ gs w := fun p hp L' => by
      obtain ⟨o, ho, hso⟩ := keepsG_at hk p hp
      have h3 := hL.pin p.1 (hlt p hp)
      exact flatSame_at hso (L' := L') (l' := ⟨p.1, 0, 0⟩) h3.1 rfl (hL.at_ p.1 o ho)
    refine CallsIn.mono (call_glob ok ρ hgl hlt hf hh (fun p hp => by cases hp) (fun L' _ => by rw [hv L (Agree.refl _ _)]; rfl) h n hw) (fun e w' he => ?_)
    obtain ⟨rfl, hb⟩ := he
    have lt : ∀ L', Agree st.nx L L' → ∀ id o, st.H.get id = some o → (L' id).b < w.heap.size := fun L' ha id o ho => by
      obtain ⟨y, hy⟩ := ((hs L' ha).at_ id o ho).block
      exact lt_of_some hy
    refine ⟨_, rfl, L, Agree.refl _ _, Nat.le_refl _, ⟨hb.size, hb.os, hb.tape, hb.output, fun b hb' hn => hb.keep b hb' (fun p hp e => ?_), fun b _ hn => hn⟩, hx, fun L' ha => ⟨rfl, ⟨fun id o ho => ?_, (hs L' ha).inj, (hs L' ha).pin⟩⟩⟩
    · obtain ⟨o, ho, _⟩ := keepsG_at hk p hp
      exact hn p.1 o ho (by rw [(hL.pin p.1 (hlt p hp)).1, e])
    · have hL' := hs L' ha
      by_cases hm : ∃ p ∈ gs, p.1 = id
      · obtain ⟨p, hp, rfl⟩ := hm
        obtain ⟨o', ho', hso⟩ := keepsG_at hk p hp
        rw [ho] at ho'
        cases ho'
        have h3 := hL'.pin p.1 (hlt p hp)
        exact flatSame_back hso (L := L') (l := ⟨p.1, 0, 0⟩) h3.1.symm h3.2 (hb.at_ p hp L')
      · refine (hL'.at_ id o ho).keep (hb.keep _ (lt L' ha id o ho) fun p hp e => hm ⟨p, hp, ?_⟩)
        obtain ⟨o', ho', _⟩ := keepsG_at hk p hp
        exact hL'.inj p.1 id o' o ho' ho (by rw [(hL'.pin p.1 (hlt p hp)).1, e])
end Ab

/- E, part 41: a function that answers a truth of its arguments and leaves all alone: its summary asks one symbol. -/
namespace Ab
open Go Go.RowKit

/-- All of a summary's leaves are truths. -/
noncomputable def Sum.allBool (s : Sum) : Bool := Sum.rec (motive := fun _ => Bool) (fun _ => false) true true false (fun _ _ _ x y => bif x then y else false) s
theorem summ_bool {ρ : Env} : ∀ (t : T (AV × St)), (summ t).allBool = true → ∃ b st', t.at_ ρ = some (.bool b, st')
  | .bad c, h => by cases h
  | .ret (v, st), h => by
    have h : Sum.allBool (match (generalizing := false) v with | .bool true => .yes | .bool false => .no | _ => .other) = true := h
    split at h
    · exact ⟨true, st, rfl⟩
    · exact ⟨false, st, rfl⟩
    · cases h
  | .split c x y, h => by
    have h : (bif (summ x).allBool then (summ y).allBool else false) = true := h
    obtain ⟨h1, h2⟩ := band_true h
    rw [T.at_split]
    split
    · exact summ_bool x h1
    · exact summ_bool y h2
/-- A call that answers a truth, the same wherever. -/
theorem tell_calls {P : Program} {cx : Ctx} (ok : cx.Ok P) (hgl : cx.gl = 0) (ρ : Env) (hh : HooksOk P ρ cx) {f : FuncId} {args : List AV} {vals : Array Value} {k : Nat} (hv : ∀ L, vals = (args.map (conc L ρ)).toArray)
    (h : (summ (callNF cx k f args (St.with_ []))).allBool = true) (h0 : ρ.gl = 0 := by rfl) :
    ∃ b, (∃ fn, P.funcs[f]? = some fn ∧ fn.name ≠ "runtime.NumGoroutine" ∧ fn.body.isNone = false) ∧ ∀ n w, CallsIn Fence.wide n P f vals w fun e w' => e = .returned (.bool b) ∧ Below w.heap.size w w' := by
  obtain ⟨b, st', hb⟩ := summ_bool (ρ := ρ) _ h
  rw [callNF_eq] at hb
  exact ⟨b, (callN_sound (ρ := ρ) ok hh (by rw [hgl]; exact Nat.zero_le _) k f args (St.with_ []) (.bool b) st' (fun p hp => by cases hp) hb).1, fun n w => call_calls ok hgl ρ h0 hh (fun p hp => by cases hp) hv hb n w⟩
/-- The summary. -/
noncomputable def tellHook (args0 : List AV) (i : Nat) : List AV → St → T (AV × St) := fun args st =>
  T.chk (sames args args0) 355 ((dec (.eq (.v i) (.c 1)) st.fx).bind fun p => .ret (.bool p.1, ⟨st.H, st.nx, p.2⟩))
theorem tellHook_sound {P : Program} {ρ : Env} {f : FuncId} {args0 : List AV} {i : Nat} {vals : Array Value} {b : Bool} (hfn : ∃ fn, P.funcs[f]? = some fn ∧ fn.name ≠ "runtime.NumGoroutine" ∧ fn.body.isNone = false)
    (hc : ∀ n w, CallsIn Fence.wide n P f vals w fun e w' => e = .returned (.bool b) ∧ Below w.heap.size w w') (hv : ∀ L, vals = (args0.map (conc L ρ)).toArray) (hi : ρ.num i = if b then 1 else 0) : HookSound P ρ f (tellHook args0 i) := by
  intro args st v st' hx h
  unfold tellHook at h
  replace h := chk_at h; obtain ⟨h1, h⟩ := h
  replace h := T.at_bind_some.1 h; obtain ⟨p, hp, h⟩ := h
  have h1 := sames_eq _ _ h1
  subst h1
  have h : some ((AV.bool p.1, (⟨st.H, st.nx, p.2⟩ : St)) : AV × St) = some (v, st') := h
  simp only [Option.some.injEq, Prod.mk.injEq] at h
  obtain ⟨rfl, rfl⟩ := h
  obtain ⟨hd, hx'⟩ := dec_at (b := p.1) (fx' := p.2) hx hp
  have hb : p.1 = b := by
    rw [← hd]
    show ((Tm.den ρ (.v i)) == (Tm.den ρ (.c 1))) = b
    show (ρ.num i == 1) = b
    rw [hi]
    cases b <;> rfl
  refine ⟨hfn, ⟨hx', Nat.le_refl _⟩, fun L w n vals' hs hv' => ?_⟩
  have e : vals' = vals := (hv' L (Agree.refl _ _)).trans (hv L).symm
  subst e
  refine CallsIn.mono (hc n w) (fun e w' he => ?_)
  obtain ⟨rfl, hbl⟩ := he
  have lt : ∀ L', Agree st.nx L L' → ∀ id o, st.H.get id = some o → (L' id).b < w.heap.size := fun L' ha id o ho => by
    obtain ⟨y, hy⟩ := ((hs L' ha).at_ id o ho).block
    exact lt_of_some hy
  exact ⟨_, rfl, L, Agree.refl _ _, Nat.le_refl _, ⟨hbl.size, hbl.os, hbl.tape, hbl.output, fun b hb' _ => hbl.block b hb', fun b _ hn => hn⟩, hx',
    fun L' ha => ⟨by rw [hb]; rfl, ⟨fun id o ho => ((hs L' ha).at_ id o ho).keep (hbl.block _ (lt L' ha id o ho)), (hs L' ha).inj, (hs L' ha).pin⟩⟩⟩
theorem HksOk.ctxG {P : Program} {ρ : Env} {t : Tr (List AV → St → T (AV × St))} {en gl : Nat} (ht : HksOk P ρ t) : HooksOk P ρ (mkCtxG P t en gl) := ht
end Ab

/- E, part 42: a laid package variable of three whole numbers; flat parameters opened. -/
namespace Ab
open Go Go.ChangeShapes Go.WideShapes Go.ChangeAt Go.ChangeMaps Go.RowKit

theorem drop_take1 {α : Type} {x : α} : ∀ {l : List α} {i : Nat}, l[i]? = some x → (l.drop i).take 1 = [x]
  | [], i, h => by simp at h
  | y :: l, 0, h => by simp at h; simp [h]
  | y :: l, i + 1, h => by simpa using drop_take1 (l := l) (i := i) (by simpa using h)
/-- What a variable of three whole numbers holds, where the card lays it. -/
theorem laid_three {P : Program} {W : World} {name : String} {g t : Nat} {f0 f1 f2 : Field} {x y z : Int} (h : laidMetH P [(name, .agg [.lit (.int .i64 x), .lit (.int .i64 y), .lit (.int .i64 z)])] W)
    (hg : P.globalNamed name = some g) (ht : (P.globals[g]?).map (·.type) = some t) (hu : P.underlying t = some (.struct #[f0, f1, f2])) (u0 : P.underlying f0.type = some (.int .i64)) (u1 : P.underlying f1.type = some (.int .i64))
    (u2 : P.underlying f2.type = some (.int .i64)) (o0 : f0.offset = 0) (o1 : f1.offset = 1) (o2 : f2.offset = 2) (c : P.cellsOf t = 3) (c0 : P.cellsOf f0.type = 1) (c1 : P.cellsOf f1.type = 1) (c2 : P.cellsOf f2.type = 1) :
    ∃ q : TypeId × (Nat × Nat), W.heap[g]? = some (.cells #[.int .i64 x, .int .i64 y, .int .i64 z] q.1 q.2) := by
  have h : laidMet P [(name, .agg [.lit (.int .i64 x), .lit (.int .i64 y), .lit (.int .i64 z)])] W := h
  obtain ⟨ps, ⟨g0, t0, cs0, fu, p0, q0, hg0, ht0, hv0, hd0, _⟩, _, _⟩ := h
  obtain rfl := Option.some.inj (hg.symm.trans hg0)
  obtain rfl := Option.some.inj (ht.symm.trans ht0)
  obtain ⟨xs, n, _, hx, hl, hlen, hf⟩ := DataW.trod_struct hu hd0
  have hcs : cs0 = #[.int .i64 x, .int .i64 y, .int .i64 z] := by
    rw [c] at hl
    match xs, hlen with
    | [y0, y1, y2], _ =>
      have e0 := hf 0 f0 rfl
      have e1 := hf 1 f1 rfl
      have e2 := hf 2 f2 rfl
      rw [c0, o0] at e0
      rw [c1, o1] at e1
      rw [c2, o2] at e2
      obtain ⟨l⟩ := cs0
      match l, hl with
      | [a0, a1, a2], _ =>
        obtain ⟨n0, b0, d0, _⟩ := DataW.trod_int u0 e0
        obtain ⟨n1, b1, d1, _⟩ := DataW.trod_int u1 e1
        obtain ⟨n2, b2, d2, _⟩ := DataW.trod_int u2 e2
        simp at b0 b1 b2
        subst b0 b1 b2 d0 d1 d2
        simp at hx
        obtain ⟨⟨rfl, rfl, rfl⟩, _⟩ := hx
        rfl
  subst hcs
  unfold World.var? at hv0
  rw [hg] at hv0
  simp only [Option.bind_some] at hv0
  split at hv0
  · rename_i cs el fz hb
    simp only [Option.some.injEq] at hv0
    subst hv0
    exact ⟨(el, fz), hb⟩
  · cases hv0
/-- A flat parameter of some cells: what it is. -/
theorem open_flat {H : Type} {enc : TypeId × Value → H} {P : Program} {w : World} {base b0 : Nat} {sp : Nat → Bool} {hd : Bool} {r : Reach} {t : TypeId} {fs : Array Field} {l : List CK} (hu : P.underlying t = some (.struct fs)) (hl : cksT P 4 t = some l) (hc : l.length = P.cellsOf t)
    {v : Value} {d : DataW H} {ps : List MemPlace} (hval : Value.okWide P w r b0 t v) (h : DataW.Trod enc P w base sp hd t v d ps) : ∃ cs : List Value, v = .agg cs.toArray ∧ Fits l cs := by
  obtain ⟨fuel, hf⟩ := h
  simp only [Value.okWide, hu] at hval
  obtain ⟨cs, rfl, hcs, _⟩ := hval
  exact ⟨cs.toList, by simp, trod_fits 4 t l hl hc hf⟩
end Ab

/- E, part 43: sorted keys, by one of some closures; any other call is run. Leaves on paths that contradict themselves. -/
namespace Ab
open Go Go.RowKit

noncomputable def memG (x : Nat) (l : List Nat) : Bool := List.rec (motive := fun _ => Bool) false (fun y _ ih => bif Nat.beq x y then true else ih) l
theorem memG_at {x : Nat} : ∀ {l : List Nat}, memG x l = true → x ∈ l
  | [], h => by cases h
  | y :: l, h => by
    have h : (bif Nat.beq x y then true else memG x l) = true := h
    cases hb : Nat.beq x y with
    | true => rw [Nat.eq_of_beq_eq_true hb]; exact List.mem_cons_self
    | false => rw [hb] at h; exact List.mem_cons_of_mem _ (memG_at h)
/-- The library's sorted keys of a map, where it is one of some closures that gives the keys; else the call is run. -/
noncomputable def sortedOr (gs : List FuncId) (el : TypeId) (cf : CallF) (f : FuncId) : List AV → St → T (AV × St) := fun args st => match args with
  | [.func g [] [.ptr id 0]] => bif memG g gs then sortedHook g el [.func g [] [.ptr id 0]] st else cf (.fn f) [.func g [] [.ptr id 0]] st
  | args => cf (.fn f) args st
theorem sortedOr_sound {P : Program} {ρ : Env} {gs : List FuncId} {el : TypeId} {cf : CallF} (hcf : CallSound P ρ cf) {f : FuncId} (hS : ∀ g ∈ gs, KeysSorted P f g el) (hfn : ∃ fn, P.funcs[f]? = some fn ∧ fn.name ≠ "runtime.NumGoroutine" ∧ fn.body.isNone = false) :
    HookSound P ρ f (sortedOr gs el cf f) := by
  intro args st v st' hx h
  unfold sortedOr at h
  split at h
  · rename_i g id
    cases hm : memG g gs with
    | true => rw [hm, cond_true] at h; exact sortedHook_sound (hS g (memG_at hm)) hfn _ st v st' hx h
    | false => rw [hm, cond_false] at h; exact hcf.1 f _ st v st' hx h
  · exact hcf.1 f _ st v st' hx h

/-- Of some atoms all are known to be so. -/
noncomputable def allSo (l : List (Atom × Bool)) (fx : Facts) : Bool :=
  List.rec (motive := fun _ => Bool) true (fun p _ ih => Option.rec (motive := fun _ => Bool) false (fun b => bif Bool.rec (Bool.rec true false p.2) p.2 b then ih else false) (known p.1 fx)) l
theorem allSo_at {ρ : Env} {fx : Facts} (hx : FxOk ρ fx) : ∀ {l : List (Atom × Bool)}, allSo l fx = true → ∀ p ∈ l, p.1.den ρ = p.2
  | [], _ => fun p h => by cases h
  | q :: l, h => by
    have h : (Option.rec (motive := fun _ => Bool) false (fun b => bif Bool.rec (Bool.rec true false q.2) q.2 b then allSo l fx else false) (known q.1 fx) : Bool) = true := h
    cases hk : known q.1 fx with
    | none => rw [hk] at h; cases h
    | some b =>
      rw [hk] at h
      have h : (bif (Bool.rec (Bool.rec true false q.2) q.2 b : Bool) then allSo l fx else false) = true := h
      obtain ⟨h1, h2⟩ := band_true h
      have hb : b = q.2 := by
        cases b <;> cases hq : q.2 <;> rw [hq] at h1 <;> first | rfl | cases h1
      intro p hp
      rcases List.mem_cons.1 hp with rfl | hp
      · rw [known_some hx hk, hb]
      · exact allSo_at hx h2 p hp
/-- All leaves are 'yes', but for those of paths on which all of some facts hold. -/
noncomputable def Sum.allUnless (l : List (Atom × Bool)) (s : Sum) : Facts → Bool :=
  Sum.rec (motive := fun _ => Facts → Bool) (fun _ fx => allSo l fx) (fun _ => true) (fun fx => allSo l fx) (fun fx => allSo l fx)
    (fun c _ _ x y fx => bif x ((c, true) :: fx) then y ((c, false) :: fx) else false) s
theorem Sum.allUnless_at {ρ : Env} {l : List (Atom × Bool)} (hl : ¬ ∀ p ∈ l, p.1.den ρ = p.2) : ∀ {s : Sum} {fx : Facts}, FxOk ρ fx → s.allUnless l fx = true → Sum.atS ρ s
  | .bad _, fx, hx, h => (hl (allSo_at hx h)).elim
  | .yes, _, _, _ => trivial
  | .no, fx, hx, h => (hl (allSo_at hx h)).elim
  | .other, fx, hx, h => (hl (allSo_at hx h)).elim
  | .split c t f, fx, hx, h => by
    have h : (bif t.allUnless l ((c, true) :: fx) then f.allUnless l ((c, false) :: fx) else false) = true := h
    obtain ⟨h1, h2⟩ := band_true h
    unfold Sum.atS
    split
    · rename_i hc
      exact Sum.allUnless_at hl (hx.cons hc) h1
    · rename_i hc
      exact Sum.allUnless_at hl (hx.cons (by simpa using hc)) h2
theorem law_globUnless {P : Program} {cx : Ctx} (ok : cx.Ok P) (ρ : Env) (hgl : cx.gl = ρ.gl) {gs : List (Nat × AObj)} (hlt : ∀ p ∈ gs, p.1 < ρ.gl) (hf : flatG gs = true)
    (hh : HooksOk P ρ cx) {f : FuncId} {args : List AV} {vals : Array Value} {k : Nat} {fx : Facts} (hx : FxOk ρ fx) (hv : ∀ L, Pin L ρ → vals = (args.map (conc L ρ)).toArray)
    {l : List (Atom × Bool)} (hl : ¬ ∀ p ∈ l, p.1.den ρ = p.2) (h : (summ (keepT gs (callNF cx k f args (St.glob gs ρ.gl fx)))).allUnless l [] = true) {w : World} (hw : GAt ρ gs w) :
    Calls P f vals w fun e w' => ∃ v, e = .returned v ∧ v = .bool true ∧ Below w.heap.size w w' := by
  have h := Sum.allUnless_at hl (ρ := ρ) (fun _ hp => by cases hp) h
  obtain ⟨st', h⟩ := summ_at _ h
  rw [callNF_eq] at h
  exact callsIn_wide.1 (CallsIn.mono (call_glob ok ρ hgl hlt hf hh hx hv h 0 hw) fun e w' he => ⟨_, he.1, rfl, he.2.below hf hw⟩)
end Ab

/- E, part 44: the row's 'post' where the arguments hold slices: old memory is left alone, so they read as they did. -/
namespace Ab
open Go Go.ChangeShapes Go.WideShapes Go.ChangeAt Go.ChangeMaps Go.RowKit

section
variable {H : Type} {enc : TypeId × Value → H} {P : Program}
theorem trodAll_stays (hl : laidOutB P = true) {W W' : World} {sp' : Nat → Bool} : ∀ {ts : List TypeId} {vs : List Value} {ds : List (DataW H)} {ps : List MemPlace}, (∀ t ∈ ts, P.readableRec t = true ∧ t < P.types.size) →
    DataW.TrodAll enc P W 0 (fun _ => true) true ts vs ds ps → (∀ p ∈ ps, W.sameAt W' p) → (∀ p ∈ ps, sp' p.block = true) → DataW.TrodAll enc P W' 0 sp' true ts vs ds ps
  | [], _, _, _, _, h, _, _ => by
    obtain ⟨rfl, rfl, rfl⟩ := trodAll_nil h
    exact rfl
  | t :: ts, _, _, _, ht, h, hs, hp => by
    obtain ⟨v, vs1, d, ds1, a, b, rfl, rfl, rfl, h1, h2⟩ := trodAll_cons h
    exact ⟨a, b, WideElems.Trod_stays hl (ht t List.mem_cons_self).1 (ht t List.mem_cons_self).2 h1 (fun p hp' => hs p (List.mem_append_left _ hp')) (fun p hp' => hp p (List.mem_append_left _ hp')),
      trodAll_stays hl (fun u hu => ht u (List.mem_cons_of_mem _ hu)) h2 (fun p hp' => hs p (List.mem_append_right _ hp')) (fun p hp' => hp p (List.mem_append_right _ hp')), rfl⟩
theorem frozen_below {W W' : World} (hb : Below W.heap.size W W') {a : Addr} (ha : a.block < W.heap.size) : W'.frozen? a = W.frozen? a := by
  unfold World.frozen?
  rw [hb.block a.block ha]
/-- What the row asks behind the call: the arguments, whatever they hold, read as they did. -/
theorem post_old {f : Func} {s : ChangeSpec} {apart fresh handsOn again : Bool} {W W' : World} {args : Array Value} {v : Value} {ds : List (DataW H)} {before : List MemPlace}
    (hl : laidOutB P = true) (ht : ∀ t ∈ f.params.toList, P.readableRec t = true ∧ t < P.types.size) (hvs : s.vars = [])
    (hW : DataW.Whole enc P f.params.toList s.vars apart W args.toList ds [] before) (hA : DataW.TrodAll enc P W 0 (fun _ => true) true f.params.toList args.toList ds before) (hb : Below W.heap.size W W')
    (hargs : (s.fn H (ds ++ [])).args = ds) (hsv : (s.fn H (ds ++ [])).vars = [])
    (hres : ∀ (b : Nat) (sp : Nat → Bool) (hd : Bool), DataW.TrodAll enc P W' b sp hd f.resultTypes.toList (v.resultList f.resultTypes.size) (s.fn H (ds ++ [])).results [])
    (hok : ∀ (j : Nat) (t : TypeId) (r : Value), f.resultTypes[j]? = some t → (v.resultList f.resultTypes.size)[j]? = some r → Value.okWide P W' .any 0 t r) :
    s.post enc P f apart fresh handsOn again W args v W' := by
  have hlt := hW.lt
  have stay : ∀ sp : Nat → Bool, (∀ p ∈ before, sp p.block = true) → DataW.TrodAll enc P W' 0 sp true f.params.toList args.toList (s.fn H (ds ++ [])).args before := fun sp hsp => by
    rw [hargs]
    exact trodAll_stays hl ht hA (fun p hp => hb.same (hlt p hp)) hsp
  have vars : ∀ sp : Nat → Bool, DataW.TrodVars enc P W' sp s.vars (s.fn H (ds ++ [])).vars [] := fun sp => by
    rw [hvs, hsv]
    exact rfl
  refine ⟨ds, [], before, [], before, [], hW, hres _ _ _, stay _ (fun p hp => by simpa using hlt p hp), vars _, hb.frame _, fun _ => ?_⟩
  obtain ⟨pa, pv, _, _, e, hz, hn⟩ := hW
  refine ⟨hok, _, _, ([] ++ before) ++ [], ⟨[] ++ before, [], trodAll_append (stay _ (fun _ _ => rfl)) (hres _ _ _), vars _, rfl, ?_, ?_⟩, ?_⟩
  · intro b off hp
    have hp : MemPlace.cell b off ∈ before := by simpa using hp
    rw [frozen_below hb (a := ⟨b, off, none⟩) (hlt _ hp)]
    exact hz b off hp
  · intro ha
    simpa using hn ha
  · intro p hp _
    simpa using hp
/-- A slice among the parameters: what it is. -/
theorem open_sl {w : World} {base b0 : Nat} {sp : Nat → Bool} {hd : Bool} {r : Reach} {t e : TypeId} (hu : P.underlying t = some (.slice e)) {v : Value} {d : DataW H} {ps : List MemPlace}
    (hval : Value.okWide P w r b0 t v) (h : DataW.Trod enc P w base sp hd t v d ps) : ∃ (b : Option Addr) (n m : Nat), v = .slice b n m := by
  obtain ⟨fuel, hf⟩ := h
  have hfit := trod_sl hu hf
  have hc : Cell.okWide P w r b0 t v := by
    unfold Value.okWide at hval
    rw [hu] at hval
    exact hval
  cases v
  case agg cs =>
    exfalso
    unfold Cell.okWide at hc
    rw [hu] at hc
    have hc : Cell.ok P w r b0 t (.agg cs) := hc
    unfold Cell.ok at hc
    rw [hu] at hc
    exact hc
  case tuple cs =>
    exfalso
    unfold Cell.okWide at hc
    rw [hu] at hc
    have hc : Cell.ok P w r b0 t (.tuple cs) := hc
    unfold Cell.ok at hc
    rw [hu] at hc
    exact hc
  all_goals (obtain ⟨⟨b, n, m, e⟩, _⟩ := hfit; exact ⟨b, n, m, e⟩)
end
end Ab

/- E, part 58: a function of plain arguments that answers a plain value and leaves all alone: its summary is a function of the arguments. -/
namespace Ab
open Go Go.RowKit

noncomputable def pureHook (g : List AV → Option AV) : List AV → St → T (AV × St) := fun args st => T.opt (g args) 360 fun r => T.chk r.flat 361 (.ret (r, st))
theorem pureHook_sound {P : Program} {ρ : Env} {f : FuncId} {g : List AV → Option AV} (hfn : ∃ fn, P.funcs[f]? = some fn ∧ fn.name ≠ "runtime.NumGoroutine" ∧ fn.body.isNone = false)
    (hc : ∀ args r, g args = some r → ∀ (L : Nat → Loc) (w : World), Calls P f (args.map (conc L ρ)).toArray w fun e w' => e = .returned (conc L ρ r) ∧ w' = w) : HookSound P ρ f (pureHook g) := by
  intro args st v st' hx h
  unfold pureHook at h
  cases hg : g args with
  | none => rw [hg] at h; cases h
  | some r =>
    rw [hg] at h
    have h : (T.chk r.flat 361 (.ret (r, st)) : T (AV × St)).at_ ρ = some (v, st') := h
    replace h := chk_at h; obtain ⟨h1, h⟩ := h
    have h : some ((r, st) : AV × St) = some (v, st') := h
    simp only [Option.some.injEq, Prod.mk.injEq] at h
    obtain ⟨rfl, rfl⟩ := h
    refine ⟨hfn, ⟨hx, Nat.le_refl _⟩, fun L w n vals hs hv => ?_⟩
    rw [hv L (Agree.refl _ _)]
    refine CallsIn.mono (callsIn_wide.2 (hc args r hg L w)) (fun e w' he => ?_)
    obtain ⟨rfl, rfl⟩ := he
    exact ⟨_, rfl, Turns.same hs (fun L' _ => conc_flat h1 L L' ρ) hx rfl rfl rfl rfl⟩
/-- The place of a byte in a text, both known. -/
noncomputable def ixByteG : List AV → Option AV := fun args => match args with
  | [.str (.c s), .int .u8 (.c c)] => some (.int .i64 (.c (Lib.indexByte s c.toNat.toUInt8)))
  | _ => none
/-- How often a byte stands in a text, both known. -/
noncomputable def countG : List AV → Option AV := fun args => match args with
  | [.str (.c s), .str (.c [c])] => some (.int .i64 (.c ((Lib.countByte s c : Nat) : Int)))
  | _ => none
theorem ixByteG_sound {P : Program} {ρ : Env} {f : FuncId} (hc : ∀ (s : ByteArray) (c : Int) (w : World), Calls P f #[.string s, .int .u8 c] w fun e w' => e = .returned (.int .i64 (Lib.indexByte s.data.toList c.toNat.toUInt8)) ∧ w' = w) :
    ∀ args r, ixByteG args = some r → ∀ (L : Nat → Loc) (w : World), Calls P f (args.map (conc L ρ)).toArray w fun e w' => e = .returned (conc L ρ r) ∧ w' = w := by
  intro args r h L w
  unfold ixByteG at h
  split at h
  · cases h
    exact hc _ _ w
  · cases h
theorem countG_sound {P : Program} {ρ : Env} {f : FuncId} (hc : ∀ (s : ByteArray) (c : UInt8) (w : World), Calls P f #[.string s, .string ⟨#[c]⟩] w fun e w' => e = .returned (.int .i64 (Lib.countByte s.data.toList c)) ∧ w' = w) :
    ∀ args r, countG args = some r → ∀ (L : Nat → Loc) (w : World), Calls P f (args.map (conc L ρ)).toArray w fun e w' => e = .returned (conc L ρ r) ∧ w' = w := by
  intro args r h L w
  unfold countG at h
  split at h
  · cases h
    exact hc _ _ w
  · cases h
/-- Plain values, and tuples of them. -/
noncomputable def AV.flatT (v : AV) : Bool := match v with
  | .tuple vs => allFlat vs
  | v => v.flat
theorem conc_flatT {v : AV} (h : v.flatT = true) (L L' : Nat → Loc) (ρ : Env) : conc L ρ v = conc L' ρ v := by
  unfold AV.flatT at h
  split at h
  · rename_i vs
    have := allFlat_conc L L' ρ h
    rw [conc_tuple, conc_tuple, this]
  · exact conc_flat h L L' ρ
/-- The same, of a function that makes memory of its own and leaves all old memory alone. -/
noncomputable def plainHook (g : List AV → Option AV) : List AV → St → T (AV × St) := fun args st => T.opt (g args) 360 fun r => T.chk r.flatT 361 (.ret (r, st))
theorem plainHook_sound {P : Program} {ρ : Env} {f : FuncId} {g : List AV → Option AV} (hfn : ∃ fn, P.funcs[f]? = some fn ∧ fn.name ≠ "runtime.NumGoroutine" ∧ fn.body.isNone = false)
    (hc : ∀ args r, g args = some r → ∀ (L : Nat → Loc) (w : World), Calls P f (args.map (conc L ρ)).toArray w fun e w' => e = .returned (conc L ρ r) ∧ Below w.heap.size w w') : HookSound P ρ f (plainHook g) := by
  intro args st v st' hx h
  unfold plainHook at h
  cases hg : g args with
  | none => rw [hg] at h; cases h
  | some r =>
    rw [hg] at h
    have h : (T.chk r.flatT 361 (.ret (r, st)) : T (AV × St)).at_ ρ = some (v, st') := h
    replace h := chk_at h; obtain ⟨h1, h⟩ := h
    have h : some ((r, st) : AV × St) = some (v, st') := h
    simp only [Option.some.injEq, Prod.mk.injEq] at h
    obtain ⟨rfl, rfl⟩ := h
    refine ⟨hfn, ⟨hx, Nat.le_refl _⟩, fun L w n vals hs hv => ?_⟩
    rw [hv L (Agree.refl _ _)]
    refine CallsIn.mono (callsIn_wide.2 (hc args r hg L w)) (fun e w' he => ?_)
    obtain ⟨rfl, hbl⟩ := he
    have lt : ∀ L', Agree st.nx L L' → ∀ id o, st.H.get id = some o → (L' id).b < w.heap.size := fun L' ha id o ho => by
      obtain ⟨y, hy⟩ := ((hs L' ha).at_ id o ho).block
      exact lt_of_some hy
    exact ⟨_, rfl, L, Agree.refl _ _, Nat.le_refl _, ⟨hbl.size, hbl.os, hbl.tape, hbl.output, fun b hb' _ => hbl.block b hb', fun b _ hn => hn⟩, hx,
      fun L' ha => ⟨conc_flatT h1 L L' ρ, ⟨fun id o ho => ((hs L' ha).at_ id o ho).keep (hbl.block _ (lt L' ha id o ho)), (hs L' ha).inj, (hs L' ha).pin⟩⟩⟩
/-- A number of one digit, read from its text. -/
noncomputable def digitG : List AV → Option AV := fun args => match args with
  | [.str (.c [d])] => bif Nat.ble 48 d.toNat && Nat.ble d.toNat 57 then some (.tuple [.int .i64 (.c ((Nat.sub d.toNat 48 : Nat) : Int)), .bool true]) else none
  | _ => none
theorem digitG_sound {P : Program} {ρ : Env} {f : FuncId} (hc : ∀ (d : UInt8), 48 ≤ d.toNat → d.toNat ≤ 57 → ∀ w : World, Calls P f #[.string ⟨#[d]⟩] w fun e w' => e = .returned (.tuple #[.int .i64 ((d.toNat - 48 : Nat) : Int), .bool true]) ∧ Below w.heap.size w w') :
    ∀ args r, digitG args = some r → ∀ (L : Nat → Loc) (w : World), Calls P f (args.map (conc L ρ)).toArray w fun e w' => e = .returned (conc L ρ r) ∧ Below w.heap.size w w' := by
  intro args r h L w
  unfold digitG at h
  split at h
  · rename_i d
    cases hd : (Nat.ble 48 d.toNat && Nat.ble d.toNat 57) with
    | false => rw [hd] at h; cases h
    | true =>
      rw [hd] at h
      cases h
      rw [Bool.and_eq_true] at hd
      exact hc d (Nat.le_of_ble_eq_true hd.1) (Nat.le_of_ble_eq_true hd.2) w
  · cases h
end Ab
