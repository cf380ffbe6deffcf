/- ScriptParses: the law, walked. -/
import Derived.Test.YtcdpepaffpboeaaDoorScParsesP
import Derived.Deep.MidRow
namespace Go.Proofs.YtcdpepaffpboeaaDoor
open Go.RowKit Go.Shelf
/-- Steps that came in as a list. -/
def ListIn (w : World) (o : Option Addr) (rs : List StepR) : Prop := ∀ (i : Nat) r, rs[i]? = some r → ∃ g off o' c', o = some ⟨g, off, none⟩ ∧ (∀ (j : Nat) v, (r.cells (.slice o' r.keep.length c')).toList[j]? = some v → w.cell? ⟨g, off + i * 11 + j, none⟩ = some v) ∧ BoolsIn w o' r.keep ∧ Big r
/-- Steps in a row of its own, whose lists of truths lie where they lay in W. -/
def OwnIn (W w : World) (v : Value) (os : List StepR) : Prop := ∃ kvs : List Value, kvs.length = os.length ∧ w.ownsRow W.heap.size 27 11 v os.length (flatC os kvs) ∧ ∀ (i : Nat) r kv, os[i]? = some r → kvs[i]? = some kv → ∃ o c, kv = .slice o r.keep.length c ∧ BoolsIn W o r.keep
theorem OwnIn.below {W w w' : World} {v : Value} {os : List StepR} (h : OwnIn W w v os) (hb : Below w.heap.size w w') : OwnIn W w' v os := by
  obtain ⟨kvs, h1, h2, h3⟩ := h
  exact ⟨kvs, h1, ownsRow_below h2 hb, h3⟩
theorem OwnIn.empty (W : World) (w : World) (hW : W.heap.size ≤ w.heap.size) : OwnIn W (w.alloc (.cells #[] 27 (0, 0))) (.slice (some ⟨w.heap.size, 0, none⟩) 0 0) [] := by
  refine ⟨[], rfl, ⟨rfl, .inr ⟨w.heap.size, 0, #[], rfl, hW, heap_alloc_new w _, Nat.le_refl _, Nat.zero_le _, rfl, rfl⟩⟩, fun i r kv h => by cases h⟩
theorem flatC_get : ∀ (rs : List StepR) (kvs : List Value) (i : Nat) (r : StepR) (kv : Value), rs[i]? = some r → kvs[i]? = some kv → ∀ (j : Nat), j < 11 → (flatC rs kvs)[i * 11 + j]? = (r.cells kv)[j]?
  | [], _, i, r, kv, h, _ => by cases h
  | _ :: _, [], i, r, kv, _, h => by cases h
  | r0 :: rs, kv0 :: kvs, 0, r, kv, h1, h2 => fun j hj => by
    simp only [List.getElem?_cons_zero, Option.some.injEq] at h1 h2
    subst h1 h2
    show ((r0.cells kv0).toList ++ flatC rs kvs)[0 * 11 + j]? = _
    rw [Nat.zero_mul, Nat.zero_add, List.getElem?_append_left (by simpa [StepR.cells] using hj), Array.getElem?_toList]
  | r0 :: rs, kv0 :: kvs, i + 1, r, kv, h1, h2 => fun j hj => by
    simp only [List.getElem?_cons_succ] at h1 h2
    have ih := flatC_get rs kvs i r kv h1 h2 j hj
    show ((r0.cells kv0).toList ++ flatC rs kvs)[(i + 1) * 11 + j]? = _
    have hl : (r0.cells kv0).toList.length = 11 := rfl
    rw [List.getElem?_append_right (by omega), hl, show (i + 1) * 11 + j - 11 = i * 11 + j from by omega, ih]
/-- The cells of a step in a row. -/
theorem row_cells {w : World} {base c : Nat} {o : Option Addr} {rs : List StepR} {kvs : List Value} (h : w.ownsRow base 27 11 (.slice o rs.length c) rs.length (flatC rs kvs)) {i : Nat} {r : StepR} {kv : Value} (hr : rs[i]? = some r) (hk : kvs[i]? = some kv) :
    ∃ g, o = some ⟨g, 0, none⟩ ∧ g < w.heap.size ∧ ∀ j, w.cell? ⟨g, i * 11 + j, none⟩ = (r.cells kv)[j]? ∨ 11 ≤ j := by
  have hlt : i < rs.length := (List.getElem?_eq_some_iff.1 hr).1
  obtain ⟨hl, ⟨_, h0⟩ | ⟨g, cap, cur, hv, hb, hh, hc, _, _, hx⟩⟩ := h
  · omega
  · cases hv
    refine ⟨g, rfl, lt_of_block hh, fun j => ?_⟩
    rcases Nat.lt_or_ge j 11 with hj | hj
    · left
      rw [Lib.cell_of_heap hh]
      have h1 := flatC_get rs kvs i r kv hr hk j hj
      rw [← hx, List.getElem?_take] at h1
      rw [if_pos (by omega)] at h1
      rw [← Array.getElem?_toList]
      exact h1
    · exact .inr hj
theorem owns_length : ∀ rs : List StepR, (ownsS rs).length ≤ rs.length
  | [] => Nat.le_refl _
  | r :: rs => by
    have ih := owns_length rs
    show (pieceO r ++ ownsS rs).length ≤ _
    rw [List.length_append, List.length_cons]
    have : (pieceO r).length ≤ 1 := by
      cases hl : lineS r with
      | none => rw [(piece_none hl).2.2]; exact Nat.zero_le _
      | some l =>
        cases hf : fitS r with
        | false => rw [(piece_no hf).2.2]; exact Nat.zero_le _
        | true => rw [(piece_yes hl hf).2.2]; exact Nat.le_refl _
    omega
set_option maxHeartbeats 16000000 in
set_option maxRecDepth 1000000 in
theorem Tryd.Parses_walk (o : Option Addr) (c : Nat) (rs : List StepR) (bad : ByteArray) (W : World) (hS : SV W) (hin : ListIn W o rs)
    (hH : ∀ w, SV w → Calls Tryd.prog 8 #[] w fun e w' => e = .returned (.bool true) ∧ Below w.heap.size w w') :
    Calls Tryd.prog 5 #[.slice o rs.length c, .string bad] W fun e w' => e = .returned (.bool true) ∧ Below W.heap.size W w' := by
  obtain ⟨i0, hi, hz0, hz1, hz2⟩ := info_parts Tryd.infoStep
  have hS0 := Keep.mk hS
  have hH1 := Keep.mk (hH W hS)
  replace hin := Keep.mk hin
  clear hH
  by_cases hn : rs.length ≤ 20
  · have hn' : ¬ (20 : Int) < (rs.length : Int) := by omega
    by_cases hbs : bad.size ≤ 100
    · have hbs' : ¬ (100 : Int) < (bad.size : Int) := by omega
      go_enter Tryd.func5, Tryd.ntmps5
      go_wp2_with (go_at_call 8; refine hH1.out.mono ?_)
      first | rintro e w1 rfl b1 | rintro e w1 ⟨rfl, b1⟩
      have S1 := hS.below b1
      replace b1 := Keep.mk b1
      clear hS hH1
      go_upto_region 7 with fail
      have hown := OwnIn.empty W w1 b1.out.size
      have b2 : Below W.heap.size W (w1.alloc (.cells #[] 27 (0, 0))) := b1.out.alloc (by have := b1.out.size; omega) _
      have hown2 := Keep.mk hown
      replace b2 := Keep.mk b2
      clear hown
      have S2 := Keep.mk (S1.below ((Below.refl _ w1).alloc (Nat.le_refl _) (.cells #[] 27 (0, 0))))
      clear S1 b1
      generalize w1.alloc (.cells #[] 27 (0, 0)) = w2 at *
      generalize w1.heap.size = gg at *
      go_wp2
      go_loopw [5, 6, 31] (fun v5 v6 v31 wr => ∃ k : Nat, v31 = .int .i64 (k : Int) ∧ v5 = .string ⟨(textS (rs.take k)).toArray⟩ ∧ k ≤ rs.length ∧ OwnIn W wr v6 (ownsS (rs.take k)) ∧ Below W.heap.size W wr ∧ SV wr) (fun _ _ v _ => rs.length - (intOf v).toNat)
      case atStart =>
        exact ⟨0, rfl, rfl, Nat.zero_le _, hown2.out, b2.out, S2.out⟩
      case round =>
        obtain ⟨k, rfl, rfl, hk, hown, hb, hS⟩ := hrel
        replace hown := Keep.mk hown
        by_cases hp : k < rs.length
        · obtain ⟨r, hr⟩ : ∃ r, rs[k]? = some r := ⟨rs[k], List.getElem?_eq_getElem hp⟩
          obtain ⟨g, off, o', c', rfl, hcells, hbools, hbig⟩ := hin.out k r hr
          have hltg : g < W.heap.size := lt_of_cell (hcells 0 _ rfl)
          have y : ∀ (j : Nat) v, (r.cells (.slice o' r.keep.length c')).toList[j]? = some v → wr.cell? ⟨g, off + k * 11 + j, none⟩ = some v := fun j v hv => by rw [hb.cell (p := ⟨g, off + k * 11 + j, none⟩) hltg]; exact hcells j v hv
          have y0 := y 0 _ rfl
          have y1 := y 1 _ rfl
          have y2 := y 2 _ rfl
          have y3 := y 3 _ rfl
          have y4 := y 4 _ rfl
          have y5 := y 5 _ rfl
          have y6 := y 6 _ rfl
          have y7 := y 7 _ rfl
          have y8 := y 8 _ rfl
          have y9 := y 9 _ rfl
          have y10 := y 10 _ rfl
          rw [Nat.add_zero] at y0
          clear y hcells
          replace hr := Keep.mk hr
          replace hb := Keep.mk hb
          replace hbools := Keep.mk hbools
          replace hbig := Keep.mk hbig
          replace hS := Keep.mk hS
          go_upto_region 10 with fail
          have hq3 := heap_alloc_new wr (.cells #[Value.int .i64 r.kind, .int .i64 r.node, .int .i64 r.sess, .int .i64 r.req, .int .i64 r.ckind, .string r.key, .string r.val, .int .i64 r.dest, .int .i64 r.n, .slice o' r.keep.length c', .int .i64 r.tear] 27 (0, 0))
          have b3 : Below wr.heap.size wr (wr.alloc (.cells #[Value.int .i64 r.kind, .int .i64 r.node, .int .i64 r.sess, .int .i64 r.req, .int .i64 r.ckind, .string r.key, .string r.val, .int .i64 r.dest, .int .i64 r.n, .slice o' r.keep.length c', .int .i64 r.tear] 27 (0, 0))) := (Below.refl _ wr).alloc (Nat.le_refl _) _
          have S3 := hS.out.below b3
          have hB3 := hb.out.trans (b3.mono hb.out.size)
          have hi3 : StepIn (wr.alloc (.cells #[Value.int .i64 r.kind, .int .i64 r.node, .int .i64 r.sess, .int .i64 r.req, .int .i64 r.ckind, .string r.key, .string r.val, .int .i64 r.dest, .int .i64 r.n, .slice o' r.keep.length c', .int .i64 r.tear] 27 (0, 0))) r (.agg #[Value.int .i64 r.kind, .int .i64 r.node, .int .i64 r.sess, .int .i64 r.req, .int .i64 r.ckind, .string r.key, .string r.val, .int .i64 r.dest, .int .i64 r.n, .slice o' r.keep.length c', .int .i64 r.tear]) := ⟨o', c', rfl, hbools.out.below hB3⟩
          have hown3 := Keep.mk (hown.out.below b3)
          replace hi3 := Keep.mk hi3
          replace hB3 := Keep.mk hB3
          have hL := Keep.mk (Tryd.line_walk r _ _ S3.toSVars hi3.out hbig.out)
          replace hq3 := Keep.mk hq3
          replace S3 := Keep.mk S3
          clear hS hb hown b3
          generalize wr.alloc (.cells #[Value.int .i64 r.kind, .int .i64 r.node, .int .i64 r.sess, .int .i64 r.req, .int .i64 r.ckind, .string r.key, .string r.val, .int .i64 r.dest, .int .i64 r.n, .slice o' r.keep.length c', .int .i64 r.tear] 27 (0, 0)) = w3 at *
          generalize wr.heap.size = p at *
          have hqc : ∀ j, w3.cell? ⟨p, j, none⟩ = #[Value.int .i64 r.kind, .int .i64 r.node, .int .i64 r.sess, .int .i64 r.req, .int .i64 r.ckind, .string r.key, .string r.val, .int .i64 r.dest, .int .i64 r.n, .slice o' r.keep.length c', .int .i64 r.tear][j]? := fun j => Lib.cell_of_heap hq3.out j
          clear y0 y1 y2 y3 y4 y5 y6 y7 y8 y9 y10
          go_wp2_with (go_at_call 11; refine hL.out.mono ?_)
          first | rintro e w4 rfl b4 | rintro e w4 ⟨rfl, b4⟩
          have S4 := Keep.mk (S3.out.below b4)
          have hB4 := Keep.mk (hB3.out.trans (b4.mono hB3.out.size))
          have hq4 := Keep.mk ((b4.block p (lt_of_block hq3.out)).trans hq3.out)
          have hi4 := Keep.mk (hi3.out.below b4)
          have hown4 := Keep.mk (hown3.out.below b4)
          clear hqc hL S3 hB3 hq3 hi3 hown3 b4
          have htk : textS (rs.take (k + 1)) = textS (rs.take k) ++ pieceL r ∧ ownsS (rs.take (k + 1)) = ownsS (rs.take k) ++ pieceO r := by
            unfold textS ownsS
            rw [List.take_add_one, hr.out]
            simp
          replace htk := Keep.mk htk
          cases hl : lineS r with
          | none =>
            simp only [Option.getD_none, Option.isSome_none]
            obtain ⟨h1, _, h3⟩ := piece_none hl
            have htk' := htk.out
            rw [h1, h3, List.append_nil, List.append_nil] at htk'
            replace htk' := Keep.mk htk'
            clear h1 h3
            replace hl := Keep.mk hl
            go_wp2
            go_roundw
            case rel =>
              have R : ((k : Int) + 1 = ((k + 1 : Nat) : Int)) ∧ k + 1 ≤ rs.length ∧ OwnIn W w4 u6 (ownsS (rs.take (k + 1))) ∧ Below W.heap.size W w4 ∧ SV w4 := ⟨by omega, by omega, by rw [htk'.out.2]; exact hown4.out, hB4.out, S4.out⟩
              first
                | exact ⟨k + 1, by rw [← R.1], by rw [htk'.out.1], R.2⟩
                | ((repeat apply Exists.intro); exact ⟨⟨k + 1, by rw [← R.1], by rw [htk'.out.1], R.2⟩, rfl⟩)
            case measure =>
              simp [intOf]
              omega
          | some l =>
            simp only [Option.getD_some, Option.isSome_some]
            have hF := Keep.mk (Tryd.fit_walk r _ w4 hi4.out)
            have hqc : ∀ j, w4.cell? ⟨p, j, none⟩ = #[Value.int .i64 r.kind, .int .i64 r.node, .int .i64 r.sess, .int .i64 r.req, .int .i64 r.ckind, .string r.key, .string r.val, .int .i64 r.dest, .int .i64 r.n, .slice o' r.keep.length c', .int .i64 r.tear][j]? := fun j => Lib.cell_of_heap hq4.out j
            replace hl := Keep.mk hl
            go_wp2_with (go_at_call 16; refine hF.out.mono ?_)
            first | rintro e w5 rfl b5 | rintro e w5 ⟨rfl, b5⟩
            have S5 := Keep.mk (S4.out.below b5)
            have hB5 := Keep.mk (hB4.out.trans (b5.mono hB4.out.size))
            have hq5 := Keep.mk ((b5.block p (lt_of_block hq4.out)).trans hq4.out)
            have hi5 := Keep.mk (hi4.out.below b5)
            have hown5 := Keep.mk (hown4.out.below b5)
            clear hqc hF S4 hB4 hq4 hi4 hown4 b5
            cases hfit : fitS r
            · obtain ⟨h1, _, h3⟩ := piece_no hfit
              have htk' := htk.out
              rw [h1, h3, List.append_nil, List.append_nil] at htk'
              replace htk' := Keep.mk htk'
              clear h1 h3
              go_wp2
              go_roundw
              case rel =>
                have R : ((k : Int) + 1 = ((k + 1 : Nat) : Int)) ∧ k + 1 ≤ rs.length ∧ OwnIn W w5 u6 (ownsS (rs.take (k + 1))) ∧ Below W.heap.size W w5 ∧ SV w5 := ⟨by omega, by omega, by rw [htk'.out.2]; exact hown5.out, hB5.out, S5.out⟩
                first
                  | exact ⟨k + 1, by rw [← R.1], by rw [htk'.out.1], R.2⟩
                  | ((repeat apply Exists.intro); exact ⟨⟨k + 1, by rw [← R.1], by rw [htk'.out.1], R.2⟩, rfl⟩)
              case measure =>
                simp [intOf]
                omega
            · obtain ⟨h1, _, h3⟩ := piece_yes hl.out hfit
              have htk' := htk.out
              rw [h1, h3] at htk'
              clear h1 h3
              have hll := line_length hbig.out.toFits64 hfit hl.out
              have htl : (textS (rs.take k)).length ≤ 1001 * 20 := by
                have := text_length (rs := rs.take k) (fun r hr => by
                  obtain ⟨i, hi⟩ := List.getElem?_of_mem (List.mem_of_mem_take hr)
                  obtain ⟨_, _, _, _, _, _, _, hbg⟩ := hin.out i r hi
                  exact hbg.toFits64)
                rw [List.length_take] at this
                omega
              rw [← List.append_assoc] at htk'
              replace htk' := Keep.mk htk'
              generalize textS (rs.take k) = T at *
              have a1 : ∀ w1, (Op.stringOp .add ⟨T.toArray⟩ (mkB l)).run Tryd.prog w1 = .ok (.string ⟨(T ++ l).toArray⟩) w1 := add_lists T l (by omega)
              have a2 : ∀ w1, (Op.stringOp .add ⟨(T ++ l).toArray⟩ ⟨#[10]⟩).run Tryd.prog w1 = .ok (.string ⟨((T ++ l) ++ [10]).toArray⟩) w1 := add_lists (T ++ l) [10] (by simp only [List.length_append, List.length_singleton]; omega)
              clear htl hll
              generalize T ++ l = M at *
              generalize M ++ [10] = N at *
              generalize mkB l = lb at *
              have hqc : ∀ j, w5.cell? ⟨p, j, none⟩ = #[Value.int .i64 r.kind, .int .i64 r.node, .int .i64 r.sess, .int .i64 r.req, .int .i64 r.ckind, .string r.key, .string r.val, .int .i64 r.dest, .int .i64 r.n, .slice o' r.keep.length c', .int .i64 r.tear][j]? := fun j => Lib.cell_of_heap hq5.out j
              have hO := Keep.mk (Tryd.Only_walk2 r _ w5 hi5.out)
              go_wp2_with (go_at_call 12; refine hO.out.mono ?_)
              rintro e w6 ⟨v', rfl, hv', b6⟩
              obtain ⟨o2, c2, rfl, hb2⟩ := hv' W ⟨o', c', rfl, hbools.out⟩
              simp only [StepR.cells]
              have hB6 := hB5.out.trans (b6.mono hB5.out.size)
              have hown6 := hown5.out.below b6
              clear hqc hO S5 hB5 hq5 hi5 hown5 b6 hv' hbools hbig
              have hol := Nat.le_trans (owns_length (rs.take k)) (List.length_take_le k rs)
              generalize onlyS r = q at *
              generalize ownsS (rs.take k) = os at *
              obtain ⟨kvs, hkl, hown, hkp⟩ := hown6
              replace hkp := Keep.mk hkp
              replace hb2 := Keep.mk hb2
              have hsz := hB6.size
              replace hB6 := Keep.mk hB6
              go_wp2_with (at_builtin; refine wpList_append_own _ rfl _ _ 38 rfl W.heap.size 27 i0 (.agg #[.int .i64 0, .int .i64 0, .int .i64 0, .int .i64 0, .int .i64 0, .string ⟨#[]⟩, .string ⟨#[]⟩, .int .i64 0, .int .i64 0, .slice none 0 0, .int .i64 0]) 11 120 Tryd.underlying38 hi hz0 hz1 hz2 rfl (by decide) _ _ _ rfl (hown.alloc _) ⟨w6.heap.size, 0, none⟩ 1 1 [.int .i64 q.kind, .int .i64 q.node, .int .i64 q.sess, .int .i64 q.req, .int .i64 q.ckind, .string q.key, .string q.val, .int .i64 q.dest, .int .i64 q.n, .slice o2 q.keep.length c2, .int .i64 q.tear] rfl rfl ?c1 ?c2 ?c3 ?c4 ?c5 ?_)
              case c1 =>
                intro j u hj
                have ha : (⟨w6.heap.size, 0, none⟩ : Addr).add j = ⟨w6.heap.size, j, none⟩ := by rw [Addr.add_lit, Nat.zero_add]
                rw [ha, Lib.cell_of_heap (heap_alloc_new w6 _), ← Array.getElem?_toList]
                exact hj
              case c2 =>
                intro u hu
                simp only [List.mem_cons, List.not_mem_nil, or_false] at hu
                rcases hu with rfl | rfl | rfl | rfl | rfl | rfl | rfl | rfl | rfl | rfl | rfl <;> rfl
              case c3 => unfold maxLen; omega
              case c4 => omega
              case c5 => simp; omega
              intro v7 w7 hown' hgrow _
              have hB7 : Below W.heap.size W w7 := (hB6.out.alloc hsz _).grown hgrow (by simp; omega) (fun q hq => (hown.lt q hq).1)
              have S7 := hS0.out.below hB7
              have hown7 : OwnIn W w7 v7 (os ++ [q]) := by
                refine ⟨kvs ++ [.slice o2 q.keep.length c2], by simp [hkl], ?_, ?_⟩
                · rw [flatC_app os kvs q _ hkl]
                  rw [List.length_append, List.length_singleton]
                  exact hown'
                · intro i r' kv' hr' hk'
                  rcases Nat.lt_or_ge i os.length with hi' | hi'
                  · rw [List.getElem?_append_left hi'] at hr'
                    rw [List.getElem?_append_left (by omega)] at hk'
                    exact hkp.out i r' kv' hr' hk'
                  · rw [List.getElem?_append_right hi'] at hr'
                    rw [List.getElem?_append_right (by omega), hkl] at hk'
                    cases hi0 : i - os.length with
                    | zero =>
                      rw [hi0] at hr' hk'
                      simp at hr' hk'
                      subst hr' hk'
                      exact ⟨o2, c2, rfl, hb2.out⟩
                    | succ j =>
                      rw [hi0] at hr'
                      simp at hr'
              replace hown7 := Keep.mk hown7
              replace hB7 := Keep.mk hB7
              replace S7 := Keep.mk S7
              clear hown' hown hgrow hkp
              go_wp2
              go_roundw
              case rel =>
                have R : ((k : Int) + 1 = ((k + 1 : Nat) : Int)) ∧ k + 1 ≤ rs.length ∧ OwnIn W w7 v7 (ownsS (rs.take (k + 1))) ∧ Below W.heap.size W w7 ∧ SV w7 := ⟨by omega, by omega, by rw [htk'.out.2]; exact hown7.out, hB7.out, S7.out⟩
                first
                  | exact ⟨k + 1, by rw [← R.1], by rw [htk'.out.1], R.2⟩
                  | ((repeat apply Exists.intro); exact ⟨⟨k + 1, by rw [← R.1], by rw [htk'.out.1], R.2⟩, rfl⟩)
              case measure =>
                simp [intOf]
                omega
        · have hk : k = rs.length := by omega
          subst hk
          rw [List.take_length] at *
          have hfits : ∀ r, r ∈ rs → Fits64 r := fun r hr => by
            obtain ⟨i, hi⟩ := List.getElem?_of_mem hr
            obtain ⟨_, _, _, _, _, _, _, hbg⟩ := hin.out i r hi
            exact hbg.toFits64
          have htl := text_length hfits
          have hP := Tryd.Parse_walk (mkB (textS rs)) wr hS (by show (textS rs).length ≤ _; omega)
          rw [parse_lines hfits] at hP
          replace hP := Keep.mk hP
          replace hfits := Keep.mk hfits
          replace hb := Keep.mk hb
          replace hS := Keep.mk hS
          clear hp hk hin
          go_wp2_with (go_at_call 17; refine hP.out.mono ?_)
          rintro e w8 ⟨v8, c8, rfl, hc8, hat8, b8⟩
          have hc8 : c8 = 0 := hc8
          subst hc8
          have hat8 : StepsAt w8 wr.heap.size v8 (ownsS rs) := hat8
          have hB8 := Keep.mk (hb.out.trans (b8.mono hb.out.size))
          have hown8 := hown.out.below b8
          have S8 := Keep.mk (hS.out.below b8)
          clear hP hb hown hS b8
          generalize ownsS rs = os at *
          obtain ⟨kvs1, hl1, hrow1, hkp1⟩ := hat8
          obtain ⟨kvs2, hl2, hrow2, hkp2⟩ := hown8
          obtain ⟨o1, c1, rfl⟩ := own_slice hrow1
          obtain ⟨o2, c2, rfl⟩ := own_slice hrow2
          have hmx := own_max hrow1
          replace hrow1 := Keep.mk hrow1
          replace hrow2 := Keep.mk hrow2
          replace hkp1 := Keep.mk hkp1
          replace hkp2 := Keep.mk hkp2
          replace hl1 := Keep.mk hl1
          replace hl2 := Keep.mk hl2
          generalize wr.heap.size = base at *
          go_upto_region 18 with fail
          go_wp2
          go_loopw [71] (fun v71 wr => ∃ k : Nat, v71 = .int .i64 (k : Int) ∧ k ≤ os.length ∧ Below w8.heap.size w8 wr) (fun v _ => os.length - (intOf v).toNat)
          case atStart =>
            exact ⟨0, rfl, Nat.zero_le _, Below.refl _ _⟩
          case round =>
            obtain ⟨k, rfl, hk, hb⟩ := hrel
            by_cases hp : k < os.length
            · obtain ⟨r, hr⟩ : ∃ r, os[k]? = some r := ⟨os[k], List.getElem?_eq_getElem hp⟩
              obtain ⟨kv1, hkv1⟩ : ∃ kv, kvs1[k]? = some kv := ⟨kvs1[k]'(by rw [hl1.out]; exact hp), List.getElem?_eq_getElem (by rw [hl1.out]; exact hp)⟩
              obtain ⟨kv2, hkv2⟩ : ∃ kv, kvs2[k]? = some kv := ⟨kvs2[k]'(by rw [hl2.out]; exact hp), List.getElem?_eq_getElem (by rw [hl2.out]; exact hp)⟩
              have hin1 := hkp1.out k r kv1 hr hkv1
              obtain ⟨x2, y2, rfl, hin2⟩ := hkp2.out k r kv2 hr hkv2
              obtain ⟨x1, y1, rfl⟩ := own_slice hin1
              obtain ⟨g1, rfl, hg1, hcg1⟩ := row_cells hrow1.out hr hkv1
              obtain ⟨g2, rfl, hg2, hcg2⟩ := row_cells hrow2.out hr hkv2
              have hat1 : StepIn w8 r (.agg #[Value.int .i64 r.kind, .int .i64 r.node, .int .i64 r.sess, .int .i64 r.req, .int .i64 r.ckind, .string r.key, .string r.val, .int .i64 r.dest, .int .i64 r.n, .slice x1 r.keep.length y1, .int .i64 r.tear]) := ⟨x1, y1, rfl, bools_of_own hin1⟩
              have hat2 : StepIn w8 r (.agg #[Value.int .i64 r.kind, .int .i64 r.node, .int .i64 r.sess, .int .i64 r.req, .int .i64 r.ckind, .string r.key, .string r.val, .int .i64 r.dest, .int .i64 r.n, .slice x2 r.keep.length y2, .int .i64 r.tear]) := ⟨x2, y2, rfl, hin2.below hB8.out⟩
              have hat1 := Keep.mk (hat1.below hb)
              have hat2 := Keep.mk (hat2.below hb)
              clear hin1 hin2 hr hkv1 hkv2
              have d0 : wr.cell? ⟨g1, k * 11, none⟩ = some (.int .i64 r.kind) := by rw [hb.cell (p := ⟨g1, k * 11, none⟩) hg1]; exact ((hcg1 0).resolve_right (by decide)).trans rfl
              have d1 : wr.cell? ⟨g1, k * 11 + 1, none⟩ = some (.int .i64 r.node) := by rw [hb.cell (p := ⟨g1, k * 11 + 1, none⟩) hg1]; exact ((hcg1 1).resolve_right (by decide)).trans rfl
              have d2 : wr.cell? ⟨g1, k * 11 + 2, none⟩ = some (.int .i64 r.sess) := by rw [hb.cell (p := ⟨g1, k * 11 + 2, none⟩) hg1]; exact ((hcg1 2).resolve_right (by decide)).trans rfl
              have d3 : wr.cell? ⟨g1, k * 11 + 3, none⟩ = some (.int .i64 r.req) := by rw [hb.cell (p := ⟨g1, k * 11 + 3, none⟩) hg1]; exact ((hcg1 3).resolve_right (by decide)).trans rfl
              have d4 : wr.cell? ⟨g1, k * 11 + 4, none⟩ = some (.int .i64 r.ckind) := by rw [hb.cell (p := ⟨g1, k * 11 + 4, none⟩) hg1]; exact ((hcg1 4).resolve_right (by decide)).trans rfl
              have d5 : wr.cell? ⟨g1, k * 11 + 5, none⟩ = some (.string r.key) := by rw [hb.cell (p := ⟨g1, k * 11 + 5, none⟩) hg1]; exact ((hcg1 5).resolve_right (by decide)).trans rfl
              have d6 : wr.cell? ⟨g1, k * 11 + 6, none⟩ = some (.string r.val) := by rw [hb.cell (p := ⟨g1, k * 11 + 6, none⟩) hg1]; exact ((hcg1 6).resolve_right (by decide)).trans rfl
              have d7 : wr.cell? ⟨g1, k * 11 + 7, none⟩ = some (.int .i64 r.dest) := by rw [hb.cell (p := ⟨g1, k * 11 + 7, none⟩) hg1]; exact ((hcg1 7).resolve_right (by decide)).trans rfl
              have d8 : wr.cell? ⟨g1, k * 11 + 8, none⟩ = some (.int .i64 r.n) := by rw [hb.cell (p := ⟨g1, k * 11 + 8, none⟩) hg1]; exact ((hcg1 8).resolve_right (by decide)).trans rfl
              have d9 : wr.cell? ⟨g1, k * 11 + 9, none⟩ = some (.slice x1 r.keep.length y1) := by rw [hb.cell (p := ⟨g1, k * 11 + 9, none⟩) hg1]; exact ((hcg1 9).resolve_right (by decide)).trans rfl
              have d10 : wr.cell? ⟨g1, k * 11 + 10, none⟩ = some (.int .i64 r.tear) := by rw [hb.cell (p := ⟨g1, k * 11 + 10, none⟩) hg1]; exact ((hcg1 10).resolve_right (by decide)).trans rfl
              have e0 : wr.cell? ⟨g2, k * 11, none⟩ = some (.int .i64 r.kind) := by rw [hb.cell (p := ⟨g2, k * 11, none⟩) hg2]; exact ((hcg2 0).resolve_right (by decide)).trans rfl
              have e1 : wr.cell? ⟨g2, k * 11 + 1, none⟩ = some (.int .i64 r.node) := by rw [hb.cell (p := ⟨g2, k * 11 + 1, none⟩) hg2]; exact ((hcg2 1).resolve_right (by decide)).trans rfl
              have e2 : wr.cell? ⟨g2, k * 11 + 2, none⟩ = some (.int .i64 r.sess) := by rw [hb.cell (p := ⟨g2, k * 11 + 2, none⟩) hg2]; exact ((hcg2 2).resolve_right (by decide)).trans rfl
              have e3 : wr.cell? ⟨g2, k * 11 + 3, none⟩ = some (.int .i64 r.req) := by rw [hb.cell (p := ⟨g2, k * 11 + 3, none⟩) hg2]; exact ((hcg2 3).resolve_right (by decide)).trans rfl
              have e4 : wr.cell? ⟨g2, k * 11 + 4, none⟩ = some (.int .i64 r.ckind) := by rw [hb.cell (p := ⟨g2, k * 11 + 4, none⟩) hg2]; exact ((hcg2 4).resolve_right (by decide)).trans rfl
              have e5 : wr.cell? ⟨g2, k * 11 + 5, none⟩ = some (.string r.key) := by rw [hb.cell (p := ⟨g2, k * 11 + 5, none⟩) hg2]; exact ((hcg2 5).resolve_right (by decide)).trans rfl
              have e6 : wr.cell? ⟨g2, k * 11 + 6, none⟩ = some (.string r.val) := by rw [hb.cell (p := ⟨g2, k * 11 + 6, none⟩) hg2]; exact ((hcg2 6).resolve_right (by decide)).trans rfl
              have e7 : wr.cell? ⟨g2, k * 11 + 7, none⟩ = some (.int .i64 r.dest) := by rw [hb.cell (p := ⟨g2, k * 11 + 7, none⟩) hg2]; exact ((hcg2 7).resolve_right (by decide)).trans rfl
              have e8 : wr.cell? ⟨g2, k * 11 + 8, none⟩ = some (.int .i64 r.n) := by rw [hb.cell (p := ⟨g2, k * 11 + 8, none⟩) hg2]; exact ((hcg2 8).resolve_right (by decide)).trans rfl
              have e9 : wr.cell? ⟨g2, k * 11 + 9, none⟩ = some (.slice x2 r.keep.length y2) := by rw [hb.cell (p := ⟨g2, k * 11 + 9, none⟩) hg2]; exact ((hcg2 9).resolve_right (by decide)).trans rfl
              have e10 : wr.cell? ⟨g2, k * 11 + 10, none⟩ = some (.int .i64 r.tear) := by rw [hb.cell (p := ⟨g2, k * 11 + 10, none⟩) hg2]; exact ((hcg2 10).resolve_right (by decide)).trans rfl
              clear hcg1 hcg2
              have hbk := Keep.mk hb
              clear hb
              have hltg1 := lt_of_cell d0
              have hltg2 := lt_of_cell e0
              have hnext : ∀ w' w'', Below wr.heap.size wr w' → Below w'.heap.size w' w'' → (Below wr.heap.size wr w'' ∧ w''.cell? ⟨g1, k * 11, none⟩ = some (.int .i64 r.kind) ∧ w''.cell? ⟨g1, k * 11 + 1, none⟩ = some (.int .i64 r.node) ∧ w''.cell? ⟨g1, k * 11 + 2, none⟩ = some (.int .i64 r.sess) ∧ w''.cell? ⟨g1, k * 11 + 3, none⟩ = some (.int .i64 r.req) ∧ w''.cell? ⟨g1, k * 11 + 4, none⟩ = some (.int .i64 r.ckind) ∧ w''.cell? ⟨g1, k * 11 + 5, none⟩ = some (.string r.key) ∧ w''.cell? ⟨g1, k * 11 + 6, none⟩ = some (.string r.val) ∧ w''.cell? ⟨g1, k * 11 + 7, none⟩ = some (.int .i64 r.dest) ∧ w''.cell? ⟨g1, k * 11 + 8, none⟩ = some (.int .i64 r.n) ∧ w''.cell? ⟨g1, k * 11 + 9, none⟩ = some (.slice x1 r.keep.length y1) ∧ w''.cell? ⟨g1, k * 11 + 10, none⟩ = some (.int .i64 r.tear) ∧ w''.cell? ⟨g2, k * 11, none⟩ = some (.int .i64 r.kind) ∧ w''.cell? ⟨g2, k * 11 + 1, none⟩ = some (.int .i64 r.node) ∧ w''.cell? ⟨g2, k * 11 + 2, none⟩ = some (.int .i64 r.sess) ∧ w''.cell? ⟨g2, k * 11 + 3, none⟩ = some (.int .i64 r.req) ∧ w''.cell? ⟨g2, k * 11 + 4, none⟩ = some (.int .i64 r.ckind) ∧ w''.cell? ⟨g2, k * 11 + 5, none⟩ = some (.string r.key) ∧ w''.cell? ⟨g2, k * 11 + 6, none⟩ = some (.string r.val) ∧ w''.cell? ⟨g2, k * 11 + 7, none⟩ = some (.int .i64 r.dest) ∧ w''.cell? ⟨g2, k * 11 + 8, none⟩ = some (.int .i64 r.n) ∧ w''.cell? ⟨g2, k * 11 + 9, none⟩ = some (.slice x2 r.keep.length y2) ∧ w''.cell? ⟨g2, k * 11 + 10, none⟩ = some (.int .i64 r.tear)) := fun w' w'' h1 h2 => by
                have hb := below_next h1 h2
                exact ⟨hb, by rw [hb.cell (p := ⟨g1, k * 11, none⟩) hltg1]; exact d0, by rw [hb.cell (p := ⟨g1, k * 11 + 1, none⟩) hltg1]; exact d1, by rw [hb.cell (p := ⟨g1, k * 11 + 2, none⟩) hltg1]; exact d2, by rw [hb.cell (p := ⟨g1, k * 11 + 3, none⟩) hltg1]; exact d3, by rw [hb.cell (p := ⟨g1, k * 11 + 4, none⟩) hltg1]; exact d4, by rw [hb.cell (p := ⟨g1, k * 11 + 5, none⟩) hltg1]; exact d5, by rw [hb.cell (p := ⟨g1, k * 11 + 6, none⟩) hltg1]; exact d6, by rw [hb.cell (p := ⟨g1, k * 11 + 7, none⟩) hltg1]; exact d7, by rw [hb.cell (p := ⟨g1, k * 11 + 8, none⟩) hltg1]; exact d8, by rw [hb.cell (p := ⟨g1, k * 11 + 9, none⟩) hltg1]; exact d9, by rw [hb.cell (p := ⟨g1, k * 11 + 10, none⟩) hltg1]; exact d10, by rw [hb.cell (p := ⟨g2, k * 11, none⟩) hltg2]; exact e0, by rw [hb.cell (p := ⟨g2, k * 11 + 1, none⟩) hltg2]; exact e1, by rw [hb.cell (p := ⟨g2, k * 11 + 2, none⟩) hltg2]; exact e2, by rw [hb.cell (p := ⟨g2, k * 11 + 3, none⟩) hltg2]; exact e3, by rw [hb.cell (p := ⟨g2, k * 11 + 4, none⟩) hltg2]; exact e4, by rw [hb.cell (p := ⟨g2, k * 11 + 5, none⟩) hltg2]; exact e5, by rw [hb.cell (p := ⟨g2, k * 11 + 6, none⟩) hltg2]; exact e6, by rw [hb.cell (p := ⟨g2, k * 11 + 7, none⟩) hltg2]; exact e7, by rw [hb.cell (p := ⟨g2, k * 11 + 8, none⟩) hltg2]; exact e8, by rw [hb.cell (p := ⟨g2, k * 11 + 9, none⟩) hltg2]; exact e9, by rw [hb.cell (p := ⟨g2, k * 11 + 10, none⟩) hltg2]; exact e10⟩
              have hb00 : Below wr.heap.size wr wr.drew := (Below.refl _ _).drew
              clear hc8
              have ix1 : (0 : Int) ≤ (k : Int) := by omega
              have ix2 : (k : Int) < (os.length : Int) := by omega
              have hss := Keep.mk (sameS_self r)
              go_upto_region 21 with fail
              go_region_held3 (fun w' => Below wr.heap.size wr w' ∧ w'.cell? ⟨g1, k * 11, none⟩ = some (.int .i64 r.kind) ∧ w'.cell? ⟨g1, k * 11 + 1, none⟩ = some (.int .i64 r.node) ∧ w'.cell? ⟨g1, k * 11 + 2, none⟩ = some (.int .i64 r.sess) ∧ w'.cell? ⟨g1, k * 11 + 3, none⟩ = some (.int .i64 r.req) ∧ w'.cell? ⟨g1, k * 11 + 4, none⟩ = some (.int .i64 r.ckind) ∧ w'.cell? ⟨g1, k * 11 + 5, none⟩ = some (.string r.key) ∧ w'.cell? ⟨g1, k * 11 + 6, none⟩ = some (.string r.val) ∧ w'.cell? ⟨g1, k * 11 + 7, none⟩ = some (.int .i64 r.dest) ∧ w'.cell? ⟨g1, k * 11 + 8, none⟩ = some (.int .i64 r.n) ∧ w'.cell? ⟨g1, k * 11 + 9, none⟩ = some (.slice x1 r.keep.length y1) ∧ w'.cell? ⟨g1, k * 11 + 10, none⟩ = some (.int .i64 r.tear) ∧ w'.cell? ⟨g2, k * 11, none⟩ = some (.int .i64 r.kind) ∧ w'.cell? ⟨g2, k * 11 + 1, none⟩ = some (.int .i64 r.node) ∧ w'.cell? ⟨g2, k * 11 + 2, none⟩ = some (.int .i64 r.sess) ∧ w'.cell? ⟨g2, k * 11 + 3, none⟩ = some (.int .i64 r.req) ∧ w'.cell? ⟨g2, k * 11 + 4, none⟩ = some (.int .i64 r.ckind) ∧ w'.cell? ⟨g2, k * 11 + 5, none⟩ = some (.string r.key) ∧ w'.cell? ⟨g2, k * 11 + 6, none⟩ = some (.string r.val) ∧ w'.cell? ⟨g2, k * 11 + 7, none⟩ = some (.int .i64 r.dest) ∧ w'.cell? ⟨g2, k * 11 + 8, none⟩ = some (.int .i64 r.n) ∧ w'.cell? ⟨g2, k * 11 + 9, none⟩ = some (.slice x2 r.keep.length y2) ∧ w'.cell? ⟨g2, k * 11 + 10, none⟩ = some (.int .i64 r.tear)) (first | exact ⟨hb00, d0, d1, d2, d3, d4, d5, d6, d7, d8, d9, d10, e0, e1, e2, e3, e4, e5, e6, e7, e8, e9, e10⟩ | assumption | go_keep)
                (first | (go_at_call 10; refine (Tryd.SameIn_walk r r _ _ _ (hat1.out.below (by first | exact Below.refl _ _ | assumption | exact hb00 | exact And.left (by assumption))) (hat2.out.below (by first | exact Below.refl _ _ | assumption | exact hb00 | exact And.left (by assumption)))).mono ?_; rintro e w'' ⟨rfl, hb⟩; rw [hss.out]; have q := hnext _ _ (by first | exact Below.refl _ _ | assumption | exact hb00 | exact And.left (by assumption)) hb))
              · rename_i hb _ hheld
                have hfin := hheld.1
                clear hheld d0 d1 d2 d3 d4 d5 d6 d7 d8 d9 d10 e0 e1 e2 e3 e4 e5 e6 e7 e8 e9 e10 hb00 hnext
                go_wp2
                go_roundw
                case rel =>
                  have R : ((k : Int) + 1 = ((k + 1 : Nat) : Int)) ∧ k + 1 ≤ os.length ∧ Below w8.heap.size w8 w'' := ⟨by omega, by omega, below_next hbk.out hfin⟩
                  first
                    | exact ⟨k + 1, by rw [← R.1], R.2⟩
                    | ((repeat apply Exists.intro); exact ⟨⟨k + 1, by rw [← R.1], R.2⟩, rfl⟩)
                case measure =>
                  simp [intOf]
                  omega
            · have hk : k = os.length := by omega
              subst hk
              have hB9 := Keep.mk (hB8.out.trans (hb.mono hB8.out.size))
              have S9 := S8.out.below hb
              have htl2 : (textS rs).length ≤ 20020 := by omega
              clear hrow1 hrow2 hkp1 hkp2 hl1 hl2 hB8 S8 hb hp hk htl
              have hp1 := parse_end rs [116, 105, 99, 107, 32, 48] (by decide) (by decide)
              have hp2 := parse_no bad.data.toList (textS rs)
              have hbz := size_list bad
              generalize textS rs = T at *
              have a1 : ∀ w1, (Op.stringOp .add ⟨T.toArray⟩ ⟨#[116, 105, 99, 107, 32, 48]⟩).run Tryd.prog w1 = .ok (.string (mkB (T ++ [116, 105, 99, 107, 32, 48]))) w1 := add_lists T [116, 105, 99, 107, 32, 48] (by simp only [List.length_cons, List.length_nil]; omega)
              have hP1 := Tryd.Parse_walk (mkB (T ++ [116, 105, 99, 107, 32, 48])) wr S9 (by show (T ++ [116, 105, 99, 107, 32, 48]).length ≤ _; rw [List.length_append]; simp only [List.length_cons, List.length_nil]; omega)
              rw [hp1] at hP1
              replace hP1 := Keep.mk hP1
              replace hp2 := Keep.mk hp2
              replace S9 := Keep.mk S9
              clear hp1
              go_wp2_with (go_at_call 17; refine hP1.out.mono ?_)
              rintro e w10 ⟨v10, c10, rfl, hc10, hat10, b10⟩
              have hc10 : c10 = 2 := hc10
              subst hc10
              obtain ⟨_, _, hrow10, _⟩ := hat10
              obtain ⟨o10, d10, rfl⟩ := own_slice hrow10
              have hB10 := Keep.mk (hB9.out.trans (b10.mono hB9.out.size))
              have S10 := S9.out.below b10
              clear hrow10 hP1 S9 b10 hB9 a1
              have a2 : ∀ w1, (Op.stringOp .add ⟨#[116, 105, 99, 107, 32, 48, 10, 110, 111]⟩ bad).run Tryd.prog w1 = .ok (.string (mkB ([116, 105, 99, 107, 32, 48, 10, 110, 111] ++ bad.data.toList))) w1 := add_lists [116, 105, 99, 107, 32, 48, 10, 110, 111] bad.data.toList (by simp only [List.length_cons, List.length_nil]; omega)
              have a3 : ∀ w1, (Op.stringOp .add (mkB ([116, 105, 99, 107, 32, 48, 10, 110, 111] ++ bad.data.toList)) ⟨#[10]⟩).run Tryd.prog w1 = .ok (.string (mkB (([116, 105, 99, 107, 32, 48, 10, 110, 111] ++ bad.data.toList) ++ [10]))) w1 := add_lists ([116, 105, 99, 107, 32, 48, 10, 110, 111] ++ bad.data.toList) [10] (by simp only [List.length_append, List.length_cons, List.length_nil]; omega)
              have a4 : ∀ w1, (Op.stringOp .add (mkB (([116, 105, 99, 107, 32, 48, 10, 110, 111] ++ bad.data.toList) ++ [10])) ⟨T.toArray⟩).run Tryd.prog w1 = .ok (.string (mkB ((([116, 105, 99, 107, 32, 48, 10, 110, 111] ++ bad.data.toList) ++ [10]) ++ T))) w1 := add_lists (([116, 105, 99, 107, 32, 48, 10, 110, 111] ++ bad.data.toList) ++ [10]) T (by simp only [List.length_append, List.length_cons, List.length_nil]; omega)
              have hP2 := Tryd.Parse_walk (mkB ((([116, 105, 99, 107, 32, 48, 10, 110, 111] ++ bad.data.toList) ++ [10]) ++ T)) w10 S10 (by show ((([116, 105, 99, 107, 32, 48, 10, 110, 111] ++ bad.data.toList) ++ [10]) ++ T).length ≤ _; simp only [List.length_append, List.length_cons, List.length_nil]; omega)
              have hp3 : parseS (mkB ((([116, 105, 99, 107, 32, 48, 10, 110, 111] ++ bad.data.toList) ++ [10]) ++ T)) = none := by
                have e : ((([116, 105, 99, 107, 32, 48, 10, 110, 111] ++ bad.data.toList) ++ [10]) ++ T) = [116, 105, 99, 107, 32, 48] ++ 10 :: ([110, 111] ++ (bad.data.toList ++ 10 :: T)) := by simp
                rw [e]
                exact hp2.out
              rw [hp3] at hP2
              replace hP2 := Keep.mk hP2
              clear hp3 hp2 S10
              generalize mkB ((([116, 105, 99, 107, 32, 48, 10, 110, 111] ++ bad.data.toList) ++ [10]) ++ T) = B4 at *
              generalize mkB (([116, 105, 99, 107, 32, 48, 10, 110, 111] ++ bad.data.toList) ++ [10]) = B3 at *
              generalize mkB ([116, 105, 99, 107, 32, 48, 10, 110, 111] ++ bad.data.toList) = B2 at *
              go_wp2_with (go_at_call 17; refine hP2.out.mono ?_)
              rintro e w11 ⟨v11, c11, rfl, hc11, hat11, b11⟩
              have hc11 : c11 = 2 := hc11
              subst hc11
              obtain ⟨_, _, hrow11, _⟩ := hat11
              obtain ⟨o11, d11, rfl⟩ := own_slice hrow11
              have hB11 := hB10.out.trans (b11.mono hB10.out.size)
              clear hrow11 hP2 b11 hB10 a2 a3 a4
              replace hB11 := Keep.mk hB11
              go_wp2
              go_ret
              exact ⟨rfl, hB11.out⟩
    · have hbs' : (100 : Int) < (bad.size : Int) := by omega
      go_enter Tryd.func5, Tryd.ntmps5
      go_wp2_with (go_at_call 8; refine hH1.out.mono ?_)
      first | rintro e w1 rfl b1 | rintro e w1 ⟨rfl, b1⟩
      replace b1 := Keep.mk b1
      go_wp2
      go_ret
      exact ⟨rfl, b1.out⟩
  · have hn' : (20 : Int) < (rs.length : Int) := by omega
    go_enter Tryd.func5, Tryd.ntmps5
    go_wp2_with (go_at_call 8; refine hH1.out.mono ?_)
    first | rintro e w1 rfl b1 | rintro e w1 ⟨rfl, b1⟩
    replace b1 := Keep.mk b1
    go_wp2
    go_ret
    exact ⟨rfl, b1.out⟩
end Go.Proofs.YtcdpepaffpboeaaDoor
