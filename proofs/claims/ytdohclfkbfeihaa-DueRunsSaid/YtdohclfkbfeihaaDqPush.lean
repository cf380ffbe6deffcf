/- An entry is laid at the end. -/
import Derived.Test.YtdohclfkbfeihaaDqPop
import Derived.Maps.AppendAt
import Derived.Deep.RegionLaw
namespace Go.Proofs.Ytdohclfkbfeihaa
open Go.RowKit Go.Maps
theorem Idx.push {es : List Ent} {e : Ent} {D : DataW Unit} (I : Idx es D) (T : Tidy D) (wf : ∀ x ∈ es, x.wf) (we : e.wf) (hne : ∀ x ∈ es, x.nm ≠ e.nm) : Idx (es ++ [e]) (D.put e.nl (zi es.length)) := by
  have ke := isKey_nl we
  have h1 : Maps.has D e.nl = false := by
    cases hh : Maps.has D e.nl
    · rfl
    · obtain ⟨x, hx, hn⟩ := I.only e we hh
      exact absurd hn (hne x hx)
  refine ⟨?_, fun q x hq => ?_, fun x wx hx => ?_⟩
  · rw [size_put T, h1, I.size]
    simp
  · rcases Nat.lt_or_ge q es.length with h | h
    · rw [List.getElem?_append_left h] at hq
      have hm := List.mem_of_getElem? hq
      have n1 : x.nl ≠ e.nl := fun h => hne x hm (nl_inj (wf x hm) we h)
      obtain ⟨o1, o2⟩ := I.at_ q x hq
      exact ⟨by rw [has_put_other n1]; exact o1, by rw [atKey_put_other n1]; exact o2⟩
    · have hlt : q < es.length + 1 := by simpa using (List.getElem?_eq_some_iff.1 hq).1
      have hq' : q = es.length := by omega
      subst hq'
      simp at hq
      subst hq
      exact ⟨has_put_same T.isMap ke _, atKey_put_same T.isMap ke _ _⟩
  · by_cases q1 : x.nl = e.nl
    · exact ⟨e, by simp, (nl_inj wx we q1).symm⟩
    · rw [has_put_other q1] at hx
      obtain ⟨y, hy, hn⟩ := I.only x wx hx
      exact ⟨y, by simp [hy], hn⟩
theorem step_append_run {P : Program} {ops : Array Oper} {o : Oper} {a : Act} {w : World} {K : Act → World → Prop} {Q : Exit → Act → World → Prop} {E : Prop}
    (hg : o.guard = none) (s x : Operand) (t : TypeId) (hop : o.op = Op.call { callee := Callee.builtin Builtin.append, args := #[s, x], argTypes := #[t, t] })
    {v y v' : Value} {w' : World} {ty : TypeId} (hty : o.type = ty) (hs : a.eval s = v) (hx : a.eval x = y) (hrun : (Builtin.append_ #[t, t] ty #[v, y]).run P w = .ok v' w')
    (hK : K (a.put o.dst v') w') : if Region.wanted o (yielded ops a.tmps) = true then Oper.wp P o a w K Q else E := by
  have hw : Region.wanted o (yielded ops a.tmps) = true := by simp [Region.wanted, hg]
  rw [if_pos hw]
  subst hty
  unfold Oper.wp execOp
  simp only [hop, resolve, invoke, builtin, Sem.run_bind, Sem.run_pure, Result.andThen_ok, List.map_toArray, List.map_cons, List.map_nil, hs, hx, hrun]
  exact hK
theorem Try.assert32 (v : Value) (w : World) : (Instr.typeAssert (.iface 32 v) 20 32 true).run Try.prog w = .ok (.tuple #[v, .bool true]) w := by kernel_rfl
set_option maxHeartbeats 1000000 in
set_option maxRecDepth 1000000 in
theorem Try.Push_walk {w : World} {base l m : Nat} {v : Value} {es : List Ent} {e : Ent} (h : LAt w base l m v es) (hsm : es.length ≤ 1000) (hbs : base ≤ w.heap.size) (we : e.wf) (hne : ∀ x ∈ es, x.nm ≠ e.nm) :
    Calls Try.prog 43 #[.pointer (some ⟨l, 0, none⟩), .iface 32 e.val] w fun x w' => ∃ v', x = .returned (.tuple #[]) ∧ LAt w' base l m v' (es ++ [e]) ∧ Turn l m v v' w w' := by
  obtain ⟨i0, hi, hz0, hz1, hz2⟩ := info_parts Try.info32
  unfold Ent.val Ent.cells
  replace we := Keep.mk we
  replace hne := Keep.mk hne
  have hb1 : Below w.heap.size w (w.alloc (.cells #[.int .i64 e.t, .int .i64 e.k, .int .u64 e.n, .int .i64 e.o] 32 (0, 0))) := (Below.refl _ w).alloc (Nat.le_refl _) _
  have hp1 : (w.alloc (.cells #[.int .i64 e.t, .int .i64 e.k, .int .u64 e.n, .int .i64 e.o] 32 (0, 0))).heap[w.heap.size]? = some (.cells #[.int .i64 e.t, .int .i64 e.k, .int .u64 e.n, .int .i64 e.o] 32 (0, 0)) := (MapKept.heap_alloc w _).1
  have h1 := h.below hb1
  have hT1 := Turn.of_below (l := l) (m := m) (v := v) hb1
  replace h := Keep.mk h
  replace hb1 := Keep.mk hb1
  replace hp1 := Keep.mk hp1
  replace h1 := Keep.mk h1
  replace hT1 := Keep.mk hT1
  have ta := Try.assert32
  go_enter Try.func43, Try.ntmps43
  go_upto_region 2 with fail
  clear ta
  generalize hpe : w.heap.size = p at *
  generalize w.alloc (.cells #[.int .i64 e.t, .int .i64 e.k, .int .u64 e.n, .int .i64 e.o] 32 (0, 0)) = w1 at *
  obtain ⟨o, cap, hv⟩ := h1.out.lenV
  have c0 : w1.cell? ⟨l, 0, none⟩ = some (.slice o es.length cap) := by rw [← hv, Lib.cell_of_heap h1.out.cell]; rfl
  have c1 : w1.cell? ⟨l, 1, none⟩ = some (.map (some m)) := by rw [Lib.cell_of_heap h1.out.cell]; rfl
  have x1 : w1.cell? ⟨p, 1, none⟩ = some (.int .i64 e.k) := by rw [Lib.cell_of_heap hp1.out]; rfl
  have x2 : w1.cell? ⟨p, 2, none⟩ = some (.int .u64 e.n) := by rw [Lib.cell_of_heap hp1.out]; rfl
  have x3 : w1.cell? ⟨p, 3, none⟩ = some (.int .i64 e.o) := by rw [Lib.cell_of_heap hp1.out]; rfl
  obtain ⟨D, hD, hI⟩ := h1.out.map
  have hTd := hD.tidy Try.keyed56
  obtain ⟨w3, hr3, hD3, ht3⟩ := hD.drew.store Try.keyed56 Try.underlying50 (t := 50) (by unfold maxLen; omega) (keyOf_ent we.out) (elem_zi es.length (by omega))
  unfold Ent.key at hr3
  have hml : m ≠ l := fun q => by obtain ⟨es', ck, hb', _⟩ := hD; rw [q, h1.out.cell] at hb'; cases hb'
  have hmp : m ≠ p := fun q => by obtain ⟨es', ck, hb', _⟩ := hD; rw [q, hp1.out] at hb'; cases hb'
  have hmv : v.ownBlock ≠ some m := fun q => by
    obtain ⟨es', ck, hb', _⟩ := hD
    rcases h1.out.row.2 with ⟨r, _⟩ | ⟨g, c, cur, r, _, hg, _⟩
    · rw [r] at q; cases q
    · rw [r] at q; cases q; rw [hg] at hb'; cases hb'
  have hI3 := hI.push hTd h1.out.wf we.out hne.out
  have hl3 : w3.heap[l]? = some (.cells #[v, .map (some m)] 52 (0, 0)) := by rw [ht3.grown.block l (lt_of_block h1.out.cell) (by simp; exact Ne.symm hml)]; exact h1.out.cell
  have hp3 : w3.heap[p]? = some (.cells #[.int .i64 e.t, .int .i64 e.k, .int .u64 e.n, .int .i64 e.o] 32 (0, 0)) := by rw [ht3.grown.block p (lt_of_block hp1.out) (by simp; exact Ne.symm hmp)]; exact hp1.out
  have hrow3 : w3.ownsRow base 32 4 v es.length (flat es) := h1.out.row.drew.kept ht3.grown (.inr hmv)
  have hT3 : Turn l m v v w w3 := hT1.out.trans (Turn.of_map h1.out.cell ht3)
  have hsz3 : base ≤ w3.heap.size := by have := hT3.size; omega
  have hlv : v.ownBlock ≠ some l := fun q => by
    rcases h1.out.row.2 with ⟨r, _⟩ | ⟨g, c, cur, r, _, hg, _⟩
    · rw [r] at q; cases q
    · rw [r] at q; cases q; rw [h1.out.cell] at hg; cases hg
  -- the row grows
  have hB4 : Below w3.heap.size w3 (w3.alloc (.cells #[.int .i64 e.t, .int .i64 e.k, .int .u64 e.n, .int .i64 e.o] 32 (0, 0))).drew := ((Below.refl _ w3).alloc (Nat.le_refl _) _).drew
  have hq4 : (w3.alloc (.cells #[.int .i64 e.t, .int .i64 e.k, .int .u64 e.n, .int .i64 e.o] 32 (0, 0))).drew.heap[w3.heap.size]? = some (.cells #[.int .i64 e.t, .int .i64 e.k, .int .u64 e.n, .int .i64 e.o] 32 (0, 0)) := (MapKept.heap_alloc w3 _).1
  have hg4 : w3.grownBy (w3.alloc (.cells #[.int .i64 e.t, .int .i64 e.k, .int .u64 e.n, .int .i64 e.o] 32 (0, 0))).drew none := ⟨hB4.os, hB4.tape, hB4.output, hB4.size, fun k hk _ => hB4.block k hk⟩
  have hrow4 := hrow3.kept hg4 (by cases v.ownBlock <;> simp)
  have hT4 : Turn l m v v w (w3.alloc (.cells #[.int .i64 e.t, .int .i64 e.k, .int .u64 e.n, .int .i64 e.o] 32 (0, 0))).drew := hT3.trans (Turn.of_below hB4)
  have hsz4 := hB4.size
  have hl4 : (w3.alloc (.cells #[.int .i64 e.t, .int .i64 e.k, .int .u64 e.n, .int .i64 e.o] 32 (0, 0))).drew.heap[l]? = _ := (hB4.block l (lt_of_block hl3)).trans hl3
  have hD4 := hD3.kept hg4 (by simp)
  obtain ⟨v', w5, hr5, hrow5, hg5, hn5, hloc5⟩ := run_append_own_at (P := Try.prog) (w3.alloc (.cells #[.int .i64 e.t, .int .i64 e.k, .int .u64 e.n, .int .i64 e.o] 32 (0, 0))).drew base 22 22 32 i0 _ 4 32 Try.underlying22 hi hz0 hz1 hz2 rfl (by decide) v es.length (flat es) hrow4 ⟨w3.heap.size, 0, none⟩ 1 1 [.int .i64 e.t, .int .i64 e.k, .int .u64 e.n, .int .i64 e.o] rfl
    (fun j u hj => by
      have hadd : (⟨w3.heap.size, 0, none⟩ : Addr).add j = ⟨w3.heap.size, j, none⟩ := by unfold Addr.add; split <;> simp_all
      rw [hadd, Lib.cell_of_heap hq4, ← hj, ← Array.getElem?_toList]) (fun u hu => by simp at hu; rcases hu with rfl | rfl | rfl | rfl <;> rfl) (by unfold maxLen; omega) (by omega) (by omega)
  obtain ⟨o', c', rfl⟩ : ∃ o' c', v' = .slice o' (es.length + 1) c' := by
    rcases hrow5.2 with ⟨_, r0⟩ | ⟨g, c, cur, r, _⟩
    · omega
    · exact ⟨_, _, r⟩
  have hlen5 : (es ++ [e]).length = es.length + 1 := by simp
  have hl5 : w5.heap[l]? = some (.cells #[v, .map (some m)] 52 (0, 0)) := by rw [hg5.block l (lt_of_block hl4) (Ne.symm hlv)]; exact hl4
  have hD5 := hD4.kept hg5 (Ne.symm hmv)
  have hs6 := heap_setCell_same w5 l 0 _ 52 (.slice o' (es.length + 1) c') hl5
  have ho6 : ∀ k, k ≠ l → (w5.setCell ⟨l, 0, none⟩ (.slice o' (es.length + 1) c')).heap[k]? = w5.heap[k]? := fun k hk => heap_setCell_other w5 ⟨l, 0, none⟩ k _ hk
  have hlv' : (Value.slice o' (es.length + 1) c').ownBlock ≠ some l := fun q => by
    rcases hloc5 with r | r
    · exact hlv (r.symm.trans q)
    · rw [q] at r
      have := lt_of_block hl4
      cases r
      omega
  have hfin : LAt (w5.setCell ⟨l, 0, none⟩ (.slice o' (es.length + 1) c')) base l m (.slice o' (es.length + 1) c') (es ++ [e]) := by
    refine ⟨hs6, ?_, ⟨_, ?_, hI3⟩, ?_, ?_⟩
    · have hx : flat (es ++ [e]) = flat es ++ [.int .i64 e.t, .int .i64 e.k, .int .u64 e.n, .int .i64 e.o] := by rw [flat_app]; rfl
      rw [hx, hlen5]
      exact hrow5.kept ⟨rfl, rfl, rfl, by simp [World.setCell], fun k hk hne => ho6 k (fun q => hne (by rw [q]))⟩ (.inr hlv') (row := some l)
    · refine own_size hI3.size ?_ (n := es.length + 1)
      exact hD5.setCell (a := ⟨l, 0, none⟩) hml (.slice o' (es.length + 1) c')
    · intro x hx
      rcases List.mem_append.1 hx with hx | hx
      · exact h1.out.wf x hx
      · rw [List.mem_singleton] at hx
        subst hx
        exact we.out
    · refine List.pairwise_append.2 ⟨h1.out.nd, by simp, fun a ha b hb => ?_⟩
      rw [List.mem_singleton] at hb
      subst hb
      exact hne.out a ha
  have hT6 : Turn l m v (.slice o' (es.length + 1) c') w (w5.setCell ⟨l, 0, none⟩ (.slice o' (es.length + 1) c')) := by
    refine hT4.trans ⟨hg5.os, hg5.tape, hg5.output, ?_, fun k hk h1 h2 h3 => ?_, fun k hk => ?_⟩
    · simp only [World.setCell, Array.size_modify]
      exact hg5.size
    · rw [ho6 k h1]
      exact hg5.block k hk (fun q => h3 q.symm)
    · rcases hloc5 with r | r
      · exact .inl (r.symm.trans hk)
      · rw [hk] at r
        cases r
        exact .inr (Nat.le_refl _)
  have c3 : w3.cell? ⟨l, 0, none⟩ = some (.slice o es.length cap) := by rw [← hv, Lib.cell_of_heap hl3]; rfl
  have z0 : w3.cell? ⟨p, 0, none⟩ = some (.int .i64 e.t) := by rw [Lib.cell_of_heap hp3]; rfl
  have z1 : w3.cell? ⟨p, 1, none⟩ = some (.int .i64 e.k) := by rw [Lib.cell_of_heap hp3]; rfl
  have z2 : w3.cell? ⟨p, 2, none⟩ = some (.int .u64 e.n) := by rw [Lib.cell_of_heap hp3]; rfl
  have z3 : w3.cell? ⟨p, 3, none⟩ = some (.int .i64 e.o) := by rw [Lib.cell_of_heap hp3]; rfl
  have c5 : w5.cell? ⟨l, 0, none⟩ = some (.slice o es.length cap) := by rw [← hv, Lib.cell_of_heap hl5]; rfl
  have f5 := Lib.frozen_of_heap hl5 0
  have hlz := lt_of_block hl3
  have hpz := lt_of_block hp3
  rw [hv] at hr5
  replace hv := Keep.mk hv
  replace hfin := Keep.mk hfin
  replace hT6 := Keep.mk hT6
  clear hB4 hq4 hg4 hrow4 hT4 hsz4 hl4 hD4 hn5 hrow5 hg5 hloc5 hl5 hD5 hs6 ho6 hlv' hl3 hp3 hrow3 hT3 hsz3 hlv hD hI hTd hD3 ht3 hml hmp hmv hI3 h1 hT1 hp1 hb1 h
  go_upto_region 2 with fail
  go_cut [] from 6 (fun wx => w3 = wx)
  case first =>
    go_region
    go_wp2_with fail
    go_meet
    exact rfl
  case rest =>
    subst hcut
    clear hr3 c0 c1 x1 x2 x3
    go_upto_region 3 with fail
    go_region_law (refine step_append_run rfl (.tmp 31) (.tmp 33) 22 rfl rfl rfl rfl hr5 ?_)
    all_goals
      go_wp2
      go_returns
      exact ⟨_, rfl, hfin.out, hT6.out⟩
end Go.Proofs.Ytdohclfkbfeihaa
