/- script.Parse, walked. -/
import Derived.Test.YtcdpepaffpboeaaDoorScStep
import Derived.Handy
namespace Go.Proofs.YtcdpepaffpboeaaDoor
open Go.RowKit Go.Shelf
/-- Steps of lines. -/
def stepsF : List ByteArray → Option (List StepR)
  | [] => some []
  | s :: r => match stepS s with
    | some v => (stepsF r).map (v :: ·)
    | none => none
theorem stepsF_app : ∀ (a b : List ByteArray), stepsF (a ++ b) = (stepsF a).bind fun x => (stepsF b).map (x ++ ·)
  | [], b => by simp [stepsF]
  | s :: a, b => by
    simp only [List.cons_append, stepsF, stepsF_app a b]
    cases stepS s with
    | none => rfl
    | some v => cases stepsF a <;> cases stepsF b <;> rfl
theorem stepsF_length : ∀ (a : List ByteArray) (ns : List StepR), stepsF a = some ns → ns.length = a.length
  | [], ns, h => by cases h; rfl
  | s :: a, ns, h => by
    simp only [stepsF] at h
    cases hq : stepS s with
    | none => rw [hq] at h; cases h
    | some v =>
      rw [hq] at h
      cases hm : stepsF a with
      | none => rw [hm] at h; cases h
      | some x =>
        rw [hm] at h
        cases h
        simp [stepsF_length a x hm]
/-- What Parse says. -/
def parseS (s : ByteArray) : Option (List StepR) := if ((spl 10 s).getLastD ⟨#[]⟩).data.toList ≠ [] then none else stepsF (spl 10 s).dropLast
/-- The cells of steps, one behind the other. -/
def flatC : List StepR → List Value → List Value
  | r :: rs, kv :: kvs => (r.cells kv).toList ++ flatC rs kvs
  | _, _ => []
theorem flatC_app : ∀ (rs : List StepR) (kvs : List Value) (r : StepR) (kv : Value), kvs.length = rs.length → flatC (rs ++ [r]) (kvs ++ [kv]) = flatC rs kvs ++ (r.cells kv).toList
  | [], [], r, kv, _ => by simp [flatC]
  | r0 :: rs, kv0 :: kvs, r, kv, h => by
    simp only [List.cons_append, flatC, flatC_app rs kvs r kv (by simpa using h), List.append_assoc]
  | [], _ :: _, _, _, h => by cases h
  | _ :: _, [], _, _, h => by cases h
theorem flatC_length : ∀ (rs : List StepR) (kvs : List Value), kvs.length = rs.length → (flatC rs kvs).length = 11 * rs.length
  | [], [], _ => rfl
  | r0 :: rs, kv0 :: kvs, h => by
    simp only [flatC, List.length_append, List.length_cons, flatC_length rs kvs (by simpa using h)]
    have : (r0.cells kv0).toList.length = 11 := rfl
    omega
  | [], _ :: _, h => by cases h
  | _ :: _, [], h => by cases h
/-- Truths of steps. -/
def KeepsAt (w : World) (base : Nat) (rs : List StepR) (kvs : List Value) : Prop := ∀ (i : Nat) r kv, rs[i]? = some r → kvs[i]? = some kv → w.ownsRow base 4 1 kv r.keep.length (r.keep.map boolV)
/-- A list of steps, in memory that lies behind 'base'. -/
def StepsAt (w : World) (base : Nat) (v : Value) (rs : List StepR) : Prop := ∃ kvs : List Value, kvs.length = rs.length ∧ w.ownsRow base 27 11 v rs.length (flatC rs kvs) ∧ KeepsAt w base rs kvs
theorem StepsAt.below {w w' : World} {base : Nat} {v : Value} {rs : List StepR} (h : StepsAt w base v rs) (hb : Below w.heap.size w w') : StepsAt w' base v rs := by
  obtain ⟨kvs, h1, h2, h3⟩ := h
  exact ⟨kvs, h1, ownsRow_below h2 hb, fun i r kv hr hk => ownsRow_below (h3 i r kv hr hk) hb⟩
/-- A row of truths stays while a row of another type grows. -/
theorem own_grown {w w' : World} {base base' n n' size : Nat} {v v' : Value} {xs xs' : List Value} {e e' : TypeId} (h : w.ownsRow base e 1 v n xs) (hr : w.ownsRow base' e' size v' n' xs') (hne : e ≠ e') (hg : w.grownBy w' v'.ownBlock) : w'.ownsRow base e 1 v n xs := by
  obtain ⟨hl, h0 | ⟨g, cap, cur, hv, hbs, hh, r⟩⟩ := h
  · exact ⟨hl, .inl h0⟩
  · refine ⟨hl, .inr ⟨g, cap, cur, hv, hbs, ?_, r⟩⟩
    rw [hg.block g (lt_of_block hh) (fun e1 => ?_)]
    · exact hh
    · obtain ⟨_, ⟨rfl, _⟩ | ⟨g', cap', cur', rfl, _, hh', _⟩⟩ := hr
      · cases e1
      · have e1 : some g = some g' := e1
        cases e1
        rw [hh] at hh'
        cases hh'
        exact hne rfl
def parseC (o : Option (List StepR)) : Int := match o with | some _ => 0 | none => 2
theorem own_base {w : World} {base base' n size : Nat} {v : Value} {xs : List Value} {e : TypeId} (h : w.ownsRow base e size v n xs) (hb : base' ≤ base) : w.ownsRow base' e size v n xs := by
  obtain ⟨hl, h0 | ⟨g, cap, cur, hv, hbs, r⟩⟩ := h
  · exact ⟨hl, .inl h0⟩
  · exact ⟨hl, .inr ⟨g, cap, cur, hv, Nat.le_trans hb hbs, r⟩⟩
theorem StepsAt.base {w : World} {base base' : Nat} {v : Value} {rs : List StepR} (h : StepsAt w base v rs) (hb : base' ≤ base) : StepsAt w base' v rs := by
  obtain ⟨kvs, h1, h2, h3⟩ := h
  exact ⟨kvs, h1, own_base h2 hb, fun i r kv hr hk => own_base (h3 i r kv hr hk) hb⟩
theorem StepsAt.nil (w : World) (base : Nat) : StepsAt w base (.slice none 0 0) [] := ⟨[], rfl, World.ownsRow_nil _ _ _ _, fun i r kv h => by cases h⟩
theorem own_slice {w : World} {base n size : Nat} {v : Value} {xs : List Value} {e : TypeId} (h : w.ownsRow base e size v n xs) : ∃ o c, v = .slice o n c := by
  obtain ⟨_, ⟨rfl, rfl⟩ | ⟨g, cap, cur, rfl, _⟩⟩ := h
  · exact ⟨_, _, rfl⟩
  · exact ⟨_, _, rfl⟩
theorem Tryd.infoStep : (Tryd.prog.info? 27).map (fun i => (i.zero, i.size, i.bytes)) = some (some (.agg #[.int .i64 0, .int .i64 0, .int .i64 0, .int .i64 0, .int .i64 0, .string ⟨#[]⟩, .string ⟨#[]⟩, .int .i64 0, .int .i64 0, .slice none 0 0, .int .i64 0]), 11, 120) := by kernel_rfl
set_option maxHeartbeats 8000000 in
set_option maxRecDepth 1000000 in
theorem Tryd.Parse_walk (s : ByteArray) (w : World) (hS : SV w) (hs : s.size ≤ 100000) :
    Calls Tryd.prog 17 #[.string s] w fun e w' => ∃ v c, e = .returned (.tuple #[v, .int .i64 c]) ∧ c = parseC (parseS s) ∧ StepsAt w' w.heap.size v ((parseS s).getD []) ∧ Below w.heap.size w w' := by
  obtain ⟨i0, hi, hz0, hz1, hz2⟩ := info_parts Tryd.infoStep
  have hlen : 0 < (spl 10 s).length := by rw [spl_length]; omega
  have hl2 : (spl 10 s).length ≤ 100001 := Nat.le_trans (spl_le 10 s) (by omega)
  have hzs : ∀ x ∈ spl 10 s, x.size ≤ s.size := fun x hx => spl_size 10 s x hx
  go_enter Tryd.func17, Tryd.ntmps17
  go_wp2_with (go_at_call 20; refine (Tryd.Split_at 10 s _ (by omega) hS.ml).mono ?_)
  rintro e w1 ⟨g, rfl, hgl, hgw, hb1⟩
  have S1 := hS.below hb1
  have hgl1 := lt_of_block hgw
  have hps : Keep (parseS s = if ((spl 10 s).getLastD ⟨#[]⟩).data.toList ≠ [] then none else stepsF (spl 10 s).dropLast) := ⟨rfl⟩
  generalize spl 10 s = ws at *
  replace hzs := Keep.mk hzs
  obtain ⟨xl, hxl⟩ : ∃ xl, xl = ws.getLastD ⟨#[]⟩ := ⟨_, rfl⟩
  have hwl : w1.cell? ⟨g, ws.length - 1, none⟩ = some (.string xl) := by
    rw [Lib.cell_of_heap hgw, hxl]
    simp [List.getElem?_eq_getElem (show ws.length - 1 < ws.length by omega), List.getLastD_eq_getLast?, List.getLast?_eq_getElem?]
  rw [← hxl] at hps
  clear hxl
  cases he : xl.toList.isEmpty
  · have hno : parseS s = none := by
      rw [hps.out, if_pos]
      rw [← toL]
      intro e
      rw [e] at he
      cases he
    have hne : (!xl.toList.isEmpty) = true := by rw [he]; rfl
    go_wp2
    all_goals
      go_ret2
      exact ⟨_, _, rfl, by rw [hno]; rfl, by rw [hno]; exact StepsAt.nil _ _, hb1⟩
  · have hyes : parseS s = stepsF ws.dropLast := by
      rw [hps.out, if_neg]
      rw [← toL]
      intro h
      exact h (by simpa using he)
    clear hps
    go_wp2
    clear hwl
    go_loopw [5, 25] (fun v5 v25 wr => ∃ (k : Nat) (rs : List StepR), v25 = .int .i64 (k : Int) ∧ k ≤ ws.length - 1 ∧ stepsF (ws.dropLast.take k) = some rs ∧ StepsAt wr w1.heap.size v5 rs ∧ Below w1.heap.size w1 wr) (fun _ v _ => ws.length - 1 - (intOf v).toNat)
    case atStart =>
      exact ⟨0, [], rfl, Nat.zero_le _, rfl, StepsAt.nil _ _, Below.refl _ _⟩
    case round =>
      obtain ⟨k, rs, rfl, hk, hrs, hat, hb⟩ := hrel
      by_cases hp : k < ws.length - 1
      · obtain ⟨x, hx⟩ : ∃ x, ws[k]? = some x := ⟨ws[k]'(by omega), List.getElem?_eq_getElem (by omega)⟩
        have hck : wr.cell? ⟨g, k, none⟩ = some (.string x) := by
          rw [hb.cell (p := ⟨g, k, none⟩) hgl1, Lib.cell_of_heap hgw]
          simp [hx]
        have hxs : x.size ≤ 100000 := Nat.le_trans (hzs.out x (List.mem_of_getElem? hx)) hs
        have hdl : k < ws.dropLast.length := by simp; omega
        have hxd : ws.dropLast[k] = x := by
          rw [List.getElem_dropLast]
          have := List.getElem?_eq_getElem (l := ws) (show k < ws.length by omega)
          rw [hx] at this
          exact (Option.some.inj this).symm
        have hst := stepsF_app (ws.dropLast.take k) [x]
        rw [← hxd, ← take_succ_get ws.dropLast k hdl, hrs, hxd] at hst
        have hall := stepsF_app (ws.dropLast.take (k + 1)) (ws.dropLast.drop (k + 1))
        rw [List.take_append_drop] at hall
        have Sr := S1.below hb
        have hW := Keep.mk (Tryd.Step_walk x wr Sr hxs)
        replace hst := Keep.mk hst
        replace hall := Keep.mk hall
        replace hyes := Keep.mk hyes
        replace hat := Keep.mk hat
        clear hx hxd hgw
        go_wp2_with (go_at_call 9; refine hW.out.mono ?_)
        rintro e u1 ⟨vs, bs, rfl, hbs, hvs, b1⟩
        cases hq : stepS x with
        | none =>
          rw [hq] at hbs hvs
          simp only [Option.isSome_none] at hbs
          obtain ⟨kv, rfl, hkv⟩ := hvs
          obtain ⟨ko, kc, rfl⟩ := own_slice hkv
          clear hkv
          subst hbs
          have hno : parseS s = none := by
            rw [hyes.out, hall.out, hst.out]
            simp [stepsF, hq]
          simp only [Option.getD_none, StepR.zero, StepR.cells]
          go_wp2
          go_ret2
          refine ⟨_, _, rfl, by rw [hno]; rfl, by rw [hno]; exact StepsAt.nil _ _, below_next (below_next (below_next hb1 hb) b1) ?_⟩
          go_grown
        | some r =>
          rw [hq] at hbs hvs
          simp only [Option.isSome_some] at hbs
          obtain ⟨kv, rfl, hkv⟩ := hvs
          obtain ⟨ko, kc, rfl⟩ := own_slice hkv
          subst hbs
          replace hkv := Keep.mk hkv
          simp only [Option.getD_some, StepR.cells] at hkv ⊢
          have hlrs := stepsF_length _ _ hrs
          rw [List.length_take_of_le (by simp; omega)] at hlrs
          have hsizes : w1.heap.size ≤ wr.heap.size := hb.size
          have hsizes2 : wr.heap.size ≤ u1.heap.size := b1.size
          obtain ⟨kvs, hkl, hown, hkp⟩ := hat.out.below b1
          replace hkp := Keep.mk hkp
          replace hrs := Keep.mk hrs
          clear hat hW
          go_wp2_with (at_builtin; refine wpList_append_own _ rfl _ _ 38 rfl w1.heap.size 27 i0 (.agg #[.int .i64 0, .int .i64 0, .int .i64 0, .int .i64 0, .int .i64 0, .string ⟨#[]⟩, .string ⟨#[]⟩, .int .i64 0, .int .i64 0, .slice none 0 0, .int .i64 0]) 11 120 Tryd.underlying38 hi hz0 hz1 hz2 rfl (by decide) _ _ _ rfl ((hown.alloc _).alloc _) ⟨u1.heap.size + 1, 0, none⟩ 1 1 [.int .i64 r.kind, .int .i64 r.node, .int .i64 r.sess, .int .i64 r.req, .int .i64 r.ckind, .string r.key, .string r.val, .int .i64 r.dest, .int .i64 r.n, .slice ko r.keep.length kc, .int .i64 r.tear] rfl rfl ?c1 ?c2 ?c3 ?c4 ?c5 ?_)
          case c1 =>
            intro j u hj
            have ha : (⟨u1.heap.size + 1, 0, none⟩ : Addr).add j = ⟨u1.heap.size + 1, j, none⟩ := by rw [Addr.add_lit, Nat.zero_add]
            rw [ha, Lib.cell_of_heap (heap_alloc2_new u1 _ _), ← Array.getElem?_toList]
            exact hj
          case c2 =>
            intro u hu
            simp only [List.mem_cons, List.not_mem_nil, or_false] at hu
            rcases hu with rfl | rfl | rfl | rfl | rfl | rfl | rfl | rfl | rfl | rfl | rfl <;> rfl
          case c3 => unfold maxLen; omega
          case c4 => omega
          case c5 => simp; omega
          intro v' w2 hown' hgrow _
          have hst' : stepsF (ws.dropLast.take (k + 1)) = some (rs ++ [r]) := by rw [hst.out]; simp [stepsF, hq]
          have hb2 : Below w1.heap.size w1 w2 := by
            refine (((hb.trans (b1.mono hsizes)).alloc (by omega) _).alloc (by simp; omega) _).grown hgrow (by simp; omega) (fun q hq => (hown.lt q hq).1)
          have hat2 : StepsAt w2 w1.heap.size v' (rs ++ [r]) := by
            refine ⟨kvs ++ [.slice ko r.keep.length kc], by simp [hkl], ?_, ?_⟩
            · rw [flatC_app rs kvs r _ hkl]
              rw [List.length_append, List.length_singleton, hlrs]
              exact hown'
            · have hold : ∀ {n kv xs}, u1.ownsRow w1.heap.size 4 1 kv n xs → w2.ownsRow w1.heap.size 4 1 kv n xs := fun h => own_grown ((h.alloc _).alloc _) ((hown.alloc _).alloc _) (by decide) hgrow
              intro i r' kv' hr' hk'
              rcases Nat.lt_or_ge i rs.length with hi' | hi'
              · rw [List.getElem?_append_left hi'] at hr'
                rw [List.getElem?_append_left (by omega)] at hk'
                exact hold (hkp.out i r' kv' hr' hk')
              · rw [List.getElem?_append_right hi'] at hr'
                rw [List.getElem?_append_right (by omega), hkl] at hk'
                cases hi0 : i - rs.length with
                | zero =>
                  rw [hi0] at hr' hk'
                  simp at hr' hk'
                  subst hr' hk'
                  exact hold (own_base hkv.out hsizes)
                | succ j =>
                  rw [hi0] at hr'
                  simp at hr'
          replace hat2 := Keep.mk hat2
          clear hown' hown hgrow hkp hkv
          go_wp2
          go_roundw
          case rel =>
            have R : ((k : Int) + 1 = ((k + 1 : Nat) : Int)) ∧ k + 1 ≤ ws.length - 1 ∧ stepsF (ws.dropLast.take (k + 1)) = some (rs ++ [r]) ∧ StepsAt w2 w1.heap.size v' (rs ++ [r]) ∧ Below w1.heap.size w1 w2 := ⟨by omega, by omega, hst', hat2.out, hb2⟩
            first
              | exact ⟨k + 1, _, by rw [← R.1], R.2⟩
              | ((repeat apply Exists.intro); exact ⟨⟨k + 1, _, by rw [← R.1], R.2⟩, rfl⟩)
          case measure =>
            simp [intOf]
            omega
      · have hk : k = ws.length - 1 := by omega
        rw [hk, List.take_of_length_le (by simp)] at hrs
        clear hgw
        go_wp2
        go_ret2
        exact ⟨_, _, rfl, by rw [hyes, hrs]; rfl, by rw [hyes, hrs]; exact hat.base hb1.size, below_next hb1 hb⟩
end Go.Proofs.YtcdpepaffpboeaaDoor
