/- An entry changes places with itself. -/
import Derived.Test.YtdohclfkbfeihaaDqSwap
namespace Go.Proofs.Ytdohclfkbfeihaa
open Go.RowKit Go.Maps
theorem set_self2 {es : List Ent} {i : Nat} {a : Ent} (ha : es[i]? = some a) : (es.set i a).set i a = es := by
  obtain ⟨hi, rfl⟩ := List.getElem?_eq_some_iff.1 ha
  rw [List.set_getElem_self, List.set_getElem_self]
theorem Idx.touch {es : List Ent} {D : DataW Unit} (I : Idx es D) (T : Tidy D) (wf : ∀ e ∈ es, e.wf) {i : Nat} {a : Ent} (ha : es[i]? = some a) : Idx es (D.put a.nl (zi i)) := by
  have wa := wf a (List.mem_of_getElem? ha)
  have ka := isKey_nl wa
  have h1 := I.at_ i a ha
  refine ⟨by rw [size_put T, h1.1, if_pos rfl, I.size], fun q e hq => ?_, fun x wx hx => ?_⟩
  · by_cases q1 : e.nl = a.nl
    · obtain ⟨o1, o2⟩ := I.at_ q e hq
      rw [q1] at o2 ⊢
      refine ⟨has_put_same T.isMap ka _, ?_⟩
      rw [atKey_put_same T.isMap ka]
      exact h1.2.symm.trans o2
    · obtain ⟨o1, o2⟩ := I.at_ q e hq
      exact ⟨by rw [has_put_other q1]; exact o1, by rw [atKey_put_other q1]; exact o2⟩
  · by_cases q1 : x.nl = a.nl
    · exact ⟨a, List.mem_of_getElem? ha, (nl_inj wx wa q1).symm⟩
    · rw [has_put_other q1] at hx
      exact I.only x wx hx
set_option maxHeartbeats 1000000 in
set_option maxRecDepth 1000000 in
theorem Try.Swap_self {w : World} {base l m : Nat} {v : Value} {es : List Ent} (h : LAt w base l m v es) (hsm : es.length ≤ 1000) {i : Nat} {a : Ent} (ha : es[i]? = some a) :
    Calls Try.prog 44 #[.pointer (some ⟨l, 0, none⟩), .int .i64 i, .int .i64 i] w fun e w' => e = .returned (.tuple #[]) ∧ LAt w' base l m v es ∧ Turn l m v v w w' := by
  have hi : i < es.length := (List.getElem?_eq_some_iff.1 ha).1
  obtain ⟨g, cap, cur, rfl, hbg, hh, hnc, hcm, hcs, hx⟩ := h.slice (by omega)
  have c0 : w.cell? ⟨l, 0, none⟩ = some (.slice (some ⟨g, 0, none⟩) es.length cap) := by rw [Lib.cell_of_heap h.cell]; rfl
  have c1 : w.cell? ⟨l, 1, none⟩ = some (.map (some m)) := by rw [Lib.cell_of_heap h.cell]; rfl
  obtain ⟨x0, x1, x2, x3⟩ := row_cell hh hx ha
  have f0 := Lib.frozen_of_heap hh (i * 4)
  have f1 := Lib.frozen_of_heap hh (i * 4 + 1)
  have f2 := Lib.frozen_of_heap hh (i * 4 + 2)
  have f3 := Lib.frozen_of_heap hh (i * 4 + 3)
  have i1 : (0 : Int) ≤ (i : Int) := by omega
  have i2 : (i : Int) < (es.length : Int) := by omega
  have hlg : l ≠ g := fun e => by have := h.cell; rw [e, hh] at this; cases this
  have hmg : m ≠ g := fun e => by obtain ⟨D, ⟨es', ck, hb', _⟩, _⟩ := h.map; rw [e, hh] at hb'; cases hb'
  have hml : m ≠ l := fun e => by obtain ⟨D, ⟨es', ck, hb', _⟩, _⟩ := h.map; rw [e, h.cell] at hb'; cases hb'
  -- the world behind the two stores
  have hst := (swap_store (a := a) (b := a) h hi hi hh hcs hx).drew
  rw [set_self2 ha] at hst
  have wf := h.wf
  have nd := h.nd
  have wa := wf a (List.mem_of_getElem? ha)
  replace h := Keep.mk h
  replace ha := Keep.mk ha
  replace hh := Keep.mk hh
  replace hx := Keep.mk hx
  replace wf := Keep.mk wf
  replace nd := Keep.mk nd
  replace wa := Keep.mk wa
  replace hst := Keep.mk hst
  generalize hn : es.length = n at *
  replace hn := Keep.mk hn
  unfold setEnt at hst
  go_enter Try.func44, Try.ntmps44
  go_upto_region 0 with fail
  go_cut [] from 6 (fun wx => Stored l m g n cap es es w wx)
  case first =>
    go_region
    go_wp2_with fail
    go_meet
    exact hst.out
  case rest =>
    clear hst c0 c1 x0 x1 x2 x3 f0 f1 f2 f3
    obtain ⟨⟨D, hI, hD⟩, ⟨cur', hg1, hs1, hx1⟩, hl1, hT⟩ := hcut
    replace hI := Keep.mk hI
    replace hx1 := Keep.mk hx1
    replace hT := Keep.mk hT
    have c0 : wc.cell? ⟨l, 0, none⟩ = some (.slice (some ⟨g, 0, none⟩) n cap) := by rw [Lib.cell_of_heap hl1]; rfl
    have c1 : wc.cell? ⟨l, 1, none⟩ = some (.map (some m)) := by rw [Lib.cell_of_heap hl1]; rfl
    obtain ⟨_, x1, x2, x3⟩ := row_cell hg1 (by rw [hn.out]; exact hx1.out) ha.out
    replace hg1 := Keep.mk hg1
    replace hl1 := Keep.mk hl1
    have hT1 := hD.tidy Try.keyed56
    obtain ⟨w3, hr3, hD3, ht3⟩ := hD.drew.store Try.keyed56 Try.underlying50 (t := 50) (by unfold maxLen; omega) (keyOf_ent wa.out) (elem_zi i (by omega))
    unfold Ent.key at hr3
    replace hD := Keep.mk hD
    replace hT1 := Keep.mk hT1
    replace ht3 := Keep.mk ht3
    replace hD3 := Keep.mk hD3
    go_upto_region 1 with fail
    go_cut [] from 6 (fun wx => w3 = wx)
    case first =>
      go_region
      go_wp2_with fail
      go_meet
      exact rfl
    case rest =>
      subst hcut
      clear hr3 c0 c1 x1 x2 x3
      have hg3 : w3.heap[g]? = some (.cells cur' 32 (0, 0)) := by rw [ht3.out.grown.block g (lt_of_block hg1.out) (by simp; exact Ne.symm hmg)]; exact hg1.out
      have hl3 : w3.heap[l]? = some (.cells #[.slice (some ⟨g, 0, none⟩) n cap, .map (some m)] 52 (0, 0)) := by rw [ht3.out.grown.block l (lt_of_block hl1.out) (by simp; exact Ne.symm hml)]; exact hl1.out
      have c0 : w3.cell? ⟨l, 0, none⟩ = some (.slice (some ⟨g, 0, none⟩) n cap) := by rw [Lib.cell_of_heap hl3]; rfl
      have c1 : w3.cell? ⟨l, 1, none⟩ = some (.map (some m)) := by rw [Lib.cell_of_heap hl3]; rfl
      obtain ⟨_, y1, y2, y3⟩ := row_cell hg3 (by rw [hn.out]; exact hx1.out) ha.out
      replace hg3 := Keep.mk hg3
      replace hl3 := Keep.mk hl3
      obtain ⟨w5, hr5, hD5, ht5⟩ := hD3.out.drew.store Try.keyed56 Try.underlying50 (t := 50) (by unfold maxLen; omega) (keyOf_ent wa.out) (elem_zi i (by omega))
      unfold Ent.key at hr5
      replace hD5 := Keep.mk hD5
      replace ht5 := Keep.mk ht5
      go_upto_region 2 with fail
      go_region
      · skip
        have hl5 : w5.heap[l]? = some (.cells #[.slice (some ⟨g, 0, none⟩) n cap, .map (some m)] 52 (0, 0)) := by rw [ht5.out.grown.block l (lt_of_block hl3.out) (by simp; exact Ne.symm hml)]; exact hl3.out
        have hg5 : w5.heap[g]? = some (.cells cur' 32 (0, 0)) := by rw [ht5.out.grown.block g (lt_of_block hg3.out) (by simp; exact Ne.symm hmg)]; exact hg3.out
        have hT5 : Turn l m (.slice (some ⟨g, 0, none⟩) n cap) (.slice (some ⟨g, 0, none⟩) n cap) w w5 := (hT.out.trans (Turn.of_map hl1.out ht3.out)).trans (Turn.of_map hl3.out ht5.out)
        have hfin : LAt w5 base l m (.slice (some ⟨g, 0, none⟩) n cap) es := by
          have hI5 := (hI.out.touch hT1.out wf.out ha.out).touch (hT1.out.put (isKey_nl wa.out) _) wf.out ha.out
          exact ⟨hl5, ⟨flat_length es, .inr ⟨g, cap, cur', by rw [hn.out], hbg, hg5, by rw [hn.out]; exact hnc, hcm, hs1, by rw [hn.out]; exact hx1.out⟩⟩, ⟨_, own_size hI5.size hD5.out, hI5⟩, wf.out, nd.out⟩
        replace hfin := Keep.mk hfin
        replace hT5 := Keep.mk hT5
        clear hl5 hg5 hr5 c0 c1 y1 y2 y3
        go_wp2
        go_returns
        exact ⟨rfl, hfin.out, hT5.out⟩
end Go.Proofs.Ytdohclfkbfeihaa
