/- Entries that came in: what they are; and what a row asks behind the call. -/
import Derived.Test.YtdohclfkbfeihaaDqTimes
import Derived.Deep.Slices
import Derived.Deep.MidRow
import Derived.ChangeArms
import Derived.ChangeShapes
import Derived.WideShapes
import Derived.Carry
import Derived.SizedLaws
namespace Go.Proofs.Ytdohclfkbfeihaa
open Go.ChangeShapes Go.WideShapes Go.ChangeAt Go.ChangeMaps Go.RowKit Go.Deep
theorem Try.cells32 : Try.prog.cellsOf 32 = 4 := by kernel_rfl
theorem cons_of_length {α : Type} {l : List α} {n : Nat} (h : l.length = n + 1) : ∃ a r, l = a :: r ∧ r.length = n := by
  cases l with
  | nil => cases h
  | cons a r => exact ⟨a, r, rfl, by simpa using h⟩
section
variable {H : Type} {enc : TypeId × Value → H} {W : World} {base : Nat} {sp : Nat → Bool} {hd : Bool}
theorem one_num {fuel : Nat} {t : TypeId} {q : IntKind} (ht : Try.prog.underlying t = some (.int q)) {cs : List Value} {xs : List (DataW H × List MemPlace)} {i : Nat} (hi : i < xs.length) (h : DataW.trod enc Try.prog W base sp hd fuel t cs = xs[i]?) : ∃ n : Int, cs = [.int q n] ∧ (Lit.int q n).wf = true := by
  rw [List.getElem?_eq_getElem hi] at h
  obtain ⟨n, h1, _, h2⟩ := DataW.trod_int ht h
  exact ⟨n, h1, h2⟩
theorem open_tid2 {fuel : Nat} {cs : List Value} {x : DataW H × List MemPlace} (hf : DataW.trod enc Try.prog W base sp hd fuel 30 cs = some x) : ∃ n o : Int, cs = [.int .u64 n, .int .i64 o] ∧ (Lit.int .u64 n).wf = true ∧ (Lit.int .i64 o).wf = true := by
  obtain ⟨xs, n, _, _, hl, hxl, hx⟩ := DataW.trod_struct Try.underlying30 hf
  rw [Try.cells30] at hl
  obtain ⟨c0, l, rfl, h0⟩ := cons_of_length hl
  obtain ⟨c1, l, rfl, h1⟩ := cons_of_length (n := 0) h0
  obtain rfl := List.length_eq_zero_iff.1 h1
  have hxl : xs.length = 2 := hxl
  have g0 := hx 0 { name := "Num", type := 28, offset := 0, embedded := false, tag := "", pkgPath := "", byteOffset := 0 } rfl
  have g1 := hx 1 { name := "Node", type := 3, offset := 1, embedded := false, tag := "", pkgPath := "", byteOffset := 8 } rfl
  simp only [Try.cells28, Try.cells3, List.drop_zero, List.drop_succ_cons, List.take_succ_cons, List.take_zero] at g0 g1
  obtain ⟨n0, e0, w0⟩ := one_num Try.underlying28 (by omega) g0
  obtain ⟨n1, e1, w1⟩ := one_num Try.underlying3 (by omega) g1
  simp only [List.cons.injEq, and_true] at e0 e1
  subst e0 e1
  exact ⟨n0, n1, rfl, w0, w1⟩
theorem open_ent {fuel : Nat} {cs : List Value} {x : DataW H × List MemPlace} (hf : DataW.trod enc Try.prog W base sp hd fuel 32 cs = some x) : ∃ e : Ent, cs = e.cells.toList ∧ e.wf := by
  obtain ⟨xs, n, _, _, hl, hxl, hx⟩ := DataW.trod_struct Try.underlying32 hf
  rw [Try.cells32] at hl
  obtain ⟨c0, l, rfl, h0⟩ := cons_of_length hl
  obtain ⟨c1, l, rfl, h1⟩ := cons_of_length (n := 2) h0
  obtain ⟨c2, l, rfl, h2⟩ := cons_of_length (n := 1) h1
  obtain ⟨c3, l, rfl, h3⟩ := cons_of_length (n := 0) h2
  obtain rfl := List.length_eq_zero_iff.1 h3
  have hxl : xs.length = 3 := hxl
  have g0 := hx 0 { name := "At", type := 3, offset := 0, embedded := false, tag := "", pkgPath := "", byteOffset := 0 } rfl
  have g1 := hx 1 { name := "Kind", type := 27, offset := 1, embedded := false, tag := "", pkgPath := "", byteOffset := 8 } rfl
  have g2 := hx 2 { name := "Tid", type := 30, offset := 2, embedded := false, tag := "", pkgPath := "", byteOffset := 16 } rfl
  simp only [Try.cells27, Try.cells3, Try.cells30, List.drop_zero, List.drop_succ_cons, List.take_succ_cons, List.take_zero] at g0 g1 g2
  obtain ⟨n0, e0, w0⟩ := one_num Try.underlying3 (by omega) g0
  obtain ⟨n1, e1, w1⟩ := one_num Try.underlying27 (by omega) g1
  rw [List.getElem?_eq_getElem (by omega)] at g2
  obtain ⟨n2, n3, e2, w2, w3⟩ := open_tid2 g2
  simp only [List.cons.injEq, and_true] at e0 e1 e2
  obtain ⟨e2, e3⟩ := e2
  subst e0 e1 e2 e3
  exact ⟨⟨n0, n1, n2, n3⟩, rfl, w0, w1, w2, w3⟩
theorem choose_list {α : Type} (n : Nat) {p : Nat → α → Prop} (h : ∀ i, i < n → ∃ b, p i b) : ∃ bs : List α, bs.length = n ∧ ∀ (i : Nat) b, bs[i]? = some b → p i b := by
  induction n with
  | zero => exact ⟨[], rfl, fun i b h => by cases h⟩
  | succ n ih =>
    obtain ⟨bs, hl, hp⟩ := ih (fun i hi => h i (by omega))
    obtain ⟨b, hb⟩ := h n (by omega)
    refine ⟨bs ++ [b], by simp [hl], fun i x hx => ?_⟩
    rcases Nat.lt_or_ge i bs.length with hi | hi
    · rw [List.getElem?_append_left hi] at hx
      exact hp i x hx
    · rw [List.getElem?_append_right hi] at hx
      have hlt : i - bs.length < 1 := by
        rcases Nat.lt_or_ge (i - bs.length) 1 with h1 | h1
        · exact h1
        · rw [List.getElem?_eq_none (by simpa using h1)] at hx; cases hx
      have e : i = n := by omega
      subst e
      rw [show i - bs.length = 0 from by omega] at hx
      cases hx
      exact hb
set_option maxRecDepth 100000 in
/-- A list of structs of c cells. -/
theorem open_rows {α : Type} {t e c : TypeId} (hu : Try.prog.underlying t = some (.slice e)) (hc : Try.prog.cellsOf e = c) (hc0 : 0 < c) (cells : α → List Value) (ok : α → Prop)
    (ho : ∀ {fuel : Nat} {cs : List Value} {x : DataW H × List MemPlace}, DataW.trod enc Try.prog W base sp hd fuel e cs = some x → ∃ a, cs = cells a ∧ ok a)
    {v : Value} {r : Reach} {b0 : Nat} {d : DataW H} {ps : List MemPlace} (hval : Value.okWide Try.prog W r b0 t v) (h : DataW.Trod enc Try.prog W base sp hd t v d ps) :
    ∃ (o : Option Addr) (cp : Nat) (rs : List α), v = .slice o rs.length cp ∧ ∀ (i : Nat) a, rs[i]? = some a → ∃ g off, o = some ⟨g, off, none⟩ ∧ ok a ∧ ∀ (j : Nat) u, (cells a)[j]? = some u → W.cell? ⟨g, off + i * c + j, none⟩ = some u := by
  obtain ⟨a0, len, cap, rfl⟩ := okWide_slice hu hval
  obtain ⟨fuel, hf⟩ := h
  rcases open_slice hu hf with ⟨h1, _⟩ | ⟨a, len', cap', m, n, D, Pl, h1, _, hlc, _, hmm, hx, hi⟩
  · have h1 : [Value.slice a0 len cap] = [.slice none 0 0] := h1
    simp only [List.cons.injEq, Value.slice.injEq, and_true] at h1
    obtain ⟨rfl, rfl, rfl⟩ := h1
    exact ⟨none, 0, [], rfl, fun i r h => by cases h⟩
  · have h1 : [Value.slice a0 len cap] = [.slice (some a) len' cap'] := h1
    simp only [List.cons.injEq, Value.slice.injEq, and_true] at h1
    obtain ⟨rfl, rfl, rfl⟩ := h1
    have hlm : len ≤ m := by rw [hmm]; split <;> omega
    rcases Nat.eq_zero_or_pos len with h0 | h0
    · subst h0
      exact ⟨some a, cap, [], rfl, fun i r h => by cases h⟩
    have hspot : a.spot = none := by
      obtain ⟨cs', hc', _⟩ := hi 0 (by omega)
      rw [hc] at hc'
      obtain ⟨_, hclen, hcell⟩ := World.cells?_some hc'
      have h2 := hcell 0 (by omega)
      have e0 : (a.add (0 * c)).add 0 = a := by simp [Addr.add]
      rw [e0, List.getElem?_eq_getElem (by rw [hclen]; exact hc0)] at h2
      cases hs : a.spot with
      | none => rfl
      | some s =>
        unfold World.cell? at h2
        split at h2
        · rw [hs] at h2
          simp at h2
        · cases h2
    obtain ⟨g, off, spt⟩ := a
    simp only at hspot
    subst hspot
    obtain ⟨rs, hrl, hrs⟩ := choose_list len (p := fun i s => ok s ∧ ∀ (j : Nat) u, (cells s)[j]? = some u → W.cell? ⟨g, off + i * c + j, none⟩ = some u) (fun i hi' => by
      obtain ⟨cs', hc', ht⟩ := hi i (by omega)
      obtain ⟨s, hcs, hok⟩ := ho ht
      rw [hc] at hc'
      obtain ⟨_, hclen, hcell⟩ := World.cells?_some hc'
      refine ⟨s, hok, fun j v hv => ?_⟩
      have hj : j < c := by
        rw [← hclen, hcs]
        exact (List.getElem?_eq_some_iff.1 hv).1
      have h2 := hcell j hj
      rw [Addr.add_mid, Addr.add_mid, hcs, hv] at h2
      exact h2)
    subst hrl
    exact ⟨some ⟨g, off, none⟩, cap, rs, rfl, fun i r hr => ⟨g, off, rfl, hrs i r hr⟩⟩
theorem open_entries {v : Value} {r : Reach} {b0 : Nat} {d : DataW H} {ps : List MemPlace} (hval : Value.okWide Try.prog W r b0 22 v) (h : DataW.Trod enc Try.prog W base sp hd 22 v d ps) :
    ∃ (o : Option Addr) (cp : Nat) (rs : List Ent), v = .slice o rs.length cp ∧ ListIn W o rs := by
  obtain ⟨o, cp, rs, hv, hr⟩ := open_rows Try.underlying22 Try.cells32 (by decide) (fun e : Ent => e.cells.toList) Ent.wf open_ent hval h
  refine ⟨o, cp, rs, hv, fun i e he => ?_⟩
  obtain ⟨g, off, ho, wf, hc⟩ := hr i e he
  exact ⟨g, off, ho, wf, hc 0 _ rfl, hc 1 _ rfl, hc 2 _ rfl, hc 3 _ rfl⟩
end
section
variable {H : Type} {enc : TypeId × Value → H} {P : Program}
theorem trodAll_stays (hl : laidOutB P = true) {W W' : World} {sp' : Nat → Bool} : ∀ {ts : List TypeId} {vs : List Value} {ds : List (DataW H)} {ps : List MemPlace}, (∀ t ∈ ts, P.readableRec t = true ∧ t < P.types.size) →
    DataW.TrodAll enc P W 0 (fun _ => true) true ts vs ds ps → (∀ p ∈ ps, W.sameAt W' p) → (∀ p ∈ ps, sp' p.block = true) → DataW.TrodAll enc P W' 0 sp' true ts vs ds ps
  | [], _, _, _, _, h, _, _ => by
    obtain ⟨rfl, rfl, rfl⟩ := trodAll_nil h
    exact rfl
  | t :: ts, _, _, _, ht, h, hs, hp => by
    obtain ⟨v, vs1, d, ds1, a, b, rfl, rfl, rfl, h1, h2⟩ := trodAll_cons h
    exact ⟨a, b, WideElems.Trod_stays hl (ht t List.mem_cons_self).1 (ht t List.mem_cons_self).2 h1 (fun p hp' => hs p (List.mem_append_left _ hp')) (fun p hp' => hp p (List.mem_append_left _ hp')),
      trodAll_stays hl (fun u hu => ht u (List.mem_cons_of_mem _ hu)) h2 (fun p hp' => hs p (List.mem_append_right _ hp')) (fun p hp' => hp p (List.mem_append_right _ hp')), rfl⟩
theorem frozen_below {W W' : World} (hb : Below W.heap.size W W') {a : Addr} (ha : a.block < W.heap.size) : W'.frozen? a = W.frozen? a := by
  unfold World.frozen?
  rw [hb.block a.block ha]
/-- What the row asks behind the call: the arguments, whatever they hold, read as they did. -/
theorem post_old {f : Func} {s : ChangeSpec} {apart fresh handsOn again : Bool} {W W' : World} {args : Array Value} {v : Value} {ds : List (DataW H)} {before : List MemPlace}
    (hl : laidOutB P = true) (ht : ∀ t ∈ f.params.toList, P.readableRec t = true ∧ t < P.types.size) (hvs : s.vars = [])
    (hW : DataW.Whole enc P f.params.toList s.vars apart W args.toList ds [] before) (hA : DataW.TrodAll enc P W 0 (fun _ => true) true f.params.toList args.toList ds before) (hb : Below W.heap.size W W')
    (hargs : (s.fn H (ds ++ [])).args = ds) (hsv : (s.fn H (ds ++ [])).vars = [])
    (hres : ∀ (b : Nat) (sp : Nat → Bool) (hd : Bool), DataW.TrodAll enc P W' b sp hd f.resultTypes.toList (v.resultList f.resultTypes.size) (s.fn H (ds ++ [])).results [])
    (hok : ∀ (j : Nat) (t : TypeId) (r : Value), f.resultTypes[j]? = some t → (v.resultList f.resultTypes.size)[j]? = some r → Value.okWide P W' .any 0 t r) :
    s.post enc P f apart fresh handsOn again W args v W' := by
  have hlt := hW.lt
  have stay : ∀ sp : Nat → Bool, (∀ p ∈ before, sp p.block = true) → DataW.TrodAll enc P W' 0 sp true f.params.toList args.toList (s.fn H (ds ++ [])).args before := fun sp hsp => by
    rw [hargs]
    exact trodAll_stays hl ht hA (fun p hp => hb.same (hlt p hp)) hsp
  have vars : ∀ sp : Nat → Bool, DataW.TrodVars enc P W' sp s.vars (s.fn H (ds ++ [])).vars [] := fun sp => by
    rw [hvs, hsv]
    exact rfl
  refine ⟨ds, [], before, [], before, [], hW, hres _ _ _, stay _ (fun p hp => by simpa using hlt p hp), vars _, hb.frame _, fun _ => ?_⟩
  obtain ⟨pa, pv, _, _, e, hz, hn⟩ := hW
  refine ⟨hok, _, _, ([] ++ before) ++ [], ⟨[] ++ before, [], trodAll_append (stay _ (fun _ _ => rfl)) (hres _ _ _), vars _, rfl, ?_, ?_⟩, ?_⟩
  · intro b off hp
    have hp : MemPlace.cell b off ∈ before := by simpa using hp
    rw [frozen_below hb (a := ⟨b, off, none⟩) (hlt _ hp)]
    exact hz b off hp
  · intro ha
    simpa using hn ha
  · intro p hp _
    simpa using hp
end
end Go.Proofs.Ytdohclfkbfeihaa
