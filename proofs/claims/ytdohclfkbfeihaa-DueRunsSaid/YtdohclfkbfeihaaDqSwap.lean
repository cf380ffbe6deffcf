/- Two entries change places. -/
import Derived.Test.YtdohclfkbfeihaaDqHeap
namespace Go.Proofs.Ytdohclfkbfeihaa
open Go.RowKit Go.Maps
theorem Turn.drew {l m : Nat} {v v' : Value} {w w' : World} (h : Turn l m v v' w w') : Turn l m v v' w w'.drew := ⟨h.os, h.tape, h.output, h.size, h.block, h.own⟩
theorem Turn.of_map {l m : Nat} {v : Value} {w w' : World} {o : Obj} (_ : w.heap[l]? = some o) (h : w.drew.mapTurned w' m) : Turn l m v v w w' := ⟨h.grown.os, h.grown.tape, h.grown.output, h.grown.size, fun k hk _ h2 _ => h.grown.block k hk (by simp; exact h2), fun _ h => .inl h⟩
theorem swap_nd {es : List Ent} (nd : es.Pairwise fun a b => a.nm ≠ b.nm) {i j : Nat} {a b : Ent} (hij : i ≠ j) (ha : es[i]? = some a) (hb : es[j]? = some b) : ((es.set i b).set j a).Pairwise fun a b => a.nm ≠ b.nm := by
  rw [List.pairwise_iff_getElem]
  intro p q hp hq hpq
  have e1 := swap_get hij ha hb p
  have e2 := swap_get hij ha hb q
  rw [List.getElem?_eq_getElem hp] at e1
  rw [List.getElem?_eq_getElem hq] at e2
  refine nm_ne nd e1.symm e2.symm ?_
  intro e
  split at e <;> (try split at e) <;> (try split at e) <;> (try split at e) <;> omega
theorem own_size {w : World} {m n k : Nat} {D : DataW Unit} (hs : Maps.size D = k) (h : w.ownsMap Try.prog 56 (plainElem Try.prog 3) m n D) : w.ownsMap Try.prog 56 (plainElem Try.prog 3) m k D := by
  rw [← hs]
  exact own_tight h
theorem elem_zi (i : Nat) (h : i ≤ 100000) : plainElem (H := Unit) Try.prog 3 (.int .i64 (i : Int)) = some (zi i, []) := plainElem_int Try.underlying3 (WalkArith.wf_i64 (by omega))
theorem own_tight' {w : World} {m n k : Nat} {D : DataW Unit} (hs : Maps.size D = k) (h : w.ownsMap Try.prog 56 (plainElem Try.prog 3) m n D) : w.ownsMap Try.prog 56 (plainElem Try.prog 3) m k D := by
  rw [← hs]
  exact own_tight h
/-- What the two stores leave. -/
structure Stored (l m g n cap : Nat) (es es' : List Ent) (w w' : World) : Prop where
  map : ∃ D, Idx es D ∧ w'.ownsMap Try.prog 56 (plainElem Try.prog 3) m n D
  row : ∃ cur', w'.heap[g]? = some (.cells cur' 32 (0, 0)) ∧ cur'.size = cap * 4 ∧ cur'.toList.take (n * 4) = flat es'
  cell : w'.heap[l]? = some (.cells #[.slice (some ⟨g, 0, none⟩) n cap, .map (some m)] 52 (0, 0))
  turn : Turn l m (.slice (some ⟨g, 0, none⟩) n cap) (.slice (some ⟨g, 0, none⟩) n cap) w w'
theorem Stored.drew {l m g n cap : Nat} {es es' : List Ent} {w w' : World} (h : Stored l m g n cap es es' w w') : Stored l m g n cap es es' w w'.drew := ⟨h.map, h.row, h.cell, h.turn.drew⟩
theorem swap_store {w : World} {base l m g cap : Nat} {cur : Array Value} {es : List Ent} (h : LAt w base l m (.slice (some ⟨g, 0, none⟩) es.length cap) es) {i j : Nat} {a b : Ent} (hi : i < es.length) (hj : j < es.length)
    (hh : w.heap[g]? = some (.cells cur 32 (0, 0))) (hc : cur.size = cap * 4) (hx : cur.toList.take (es.length * 4) = flat es) : Stored l m g es.length cap es ((es.set i b).set j a) w (setEnt (setEnt w g i b) g j a) := by
  have hlg : l ≠ g := fun e => by have := h.cell; rw [e, hh] at this; cases this
  obtain ⟨D, hD, hI⟩ := h.map
  have hmg : m ≠ g := fun e => by obtain ⟨es', ck, hb', _⟩ := hD; rw [e, hh] at hb'; cases hb'
  obtain ⟨cur1, r1, r2, r3⟩ := setEnt_row (e := b) hh hx hi
  obtain ⟨cur2, s1, s2, s3⟩ := setEnt_row (e := a) (es := es.set i b) (i := j) r1 (by simpa using r3) (by simpa using hj)
  have ho : ∀ k, k ≠ g → (setEnt (setEnt w g i b) g j a).heap[k]? = w.heap[k]? := fun k h4 => by rw [setEnt_other _ _ _ _ _ h4, setEnt_other _ _ _ _ _ h4]
  have hz : (setEnt (setEnt w g i b) g j a).heap.size = w.heap.size := by rw [setEnt_size, setEnt_size]
  have h1 : (setEnt (setEnt w g i b) g j a).os = w.os := (setEnt_os _ _ _ _).trans (setEnt_os _ _ _ _)
  have h2 : (setEnt (setEnt w g i b) g j a).tape = w.tape := (setEnt_tape _ _ _ _).trans (setEnt_tape _ _ _ _)
  have h3 : (setEnt (setEnt w g i b) g j a).output = w.output := (setEnt_output _ _ _ _).trans (setEnt_output _ _ _ _)
  generalize setEnt (setEnt w g i b) g j a = X at *
  refine ⟨⟨D, hI, ?_⟩, ⟨cur2, s1, by rw [s2, r2, hc], by simpa using s3⟩, by rw [ho l hlg]; exact h.cell, h1, h2, h3, by omega, fun k _ _ _ h3 => ho k (fun e => h3 (by rw [e]; rfl)), fun k h => .inl h⟩
  obtain ⟨es', ck, hb', rest⟩ := hD
  exact ⟨es', ck, by rw [ho m hmg]; exact hb', rest⟩
set_option maxHeartbeats 1000000 in
set_option maxRecDepth 1000000 in
theorem Try.Swap_walk {w : World} {base l m : Nat} {v : Value} {es : List Ent} (h : LAt w base l m v es) (hsm : es.length ≤ 1000) {i j : Nat} {a b : Ent} (hij : i < j) (ha : es[i]? = some a) (hb : es[j]? = some b) :
    Calls Try.prog 44 #[.pointer (some ⟨l, 0, none⟩), .int .i64 i, .int .i64 j] w fun e w' => e = .returned (.tuple #[]) ∧ LAt w' base l m v ((es.set i b).set j a) ∧ Turn l m v v w w' := by
  have hi : i < es.length := (List.getElem?_eq_some_iff.1 ha).1
  have hj : j < es.length := (List.getElem?_eq_some_iff.1 hb).1
  obtain ⟨g, cap, cur, rfl, hbg, hh, hnc, hcm, hcs, hx⟩ := h.slice (by omega)
  have c0 : w.cell? ⟨l, 0, none⟩ = some (.slice (some ⟨g, 0, none⟩) es.length cap) := by rw [Lib.cell_of_heap h.cell]; rfl
  have c1 : w.cell? ⟨l, 1, none⟩ = some (.map (some m)) := by rw [Lib.cell_of_heap h.cell]; rfl
  obtain ⟨x0, x1, x2, x3⟩ := row_cell hh hx ha
  obtain ⟨y0, y1, y2, y3⟩ := row_cell hh hx hb
  have f0 := Lib.frozen_of_heap hh (i * 4)
  have f1 := Lib.frozen_of_heap hh (i * 4 + 1)
  have f2 := Lib.frozen_of_heap hh (i * 4 + 2)
  have f3 := Lib.frozen_of_heap hh (i * 4 + 3)
  have e0 := Lib.frozen_of_heap hh (j * 4)
  have e1 := Lib.frozen_of_heap hh (j * 4 + 1)
  have e2 := Lib.frozen_of_heap hh (j * 4 + 2)
  have e3 := Lib.frozen_of_heap hh (j * 4 + 3)
  have i1 : (0 : Int) ≤ (i : Int) := by omega
  have i2 : (i : Int) < (es.length : Int) := by omega
  have j1 : (0 : Int) ≤ (j : Int) := by omega
  have j2 : (j : Int) < (es.length : Int) := by omega
  have hlg : l ≠ g := fun e => by have := h.cell; rw [e, hh] at this; cases this
  have hmg : m ≠ g := fun e => by obtain ⟨D, ⟨es', ck, hb', _⟩, _⟩ := h.map; rw [e, hh] at hb'; cases hb'
  have hml : m ≠ l := fun e => by obtain ⟨D, ⟨es', ck, hb', _⟩, _⟩ := h.map; rw [e, h.cell] at hb'; cases hb'
  -- the world behind the two stores
  have hst := (swap_store (a := a) (b := b) h hi hj hh hcs hx).drew
  have wf := h.wf
  have nd := h.nd
  have wa := wf a (List.mem_of_getElem? ha)
  have wb := wf b (List.mem_of_getElem? hb)
  have ha' : ((es.set i b).set j a)[j]? = some a := List.getElem?_set_self (by simpa using hj)
  have hb' : ((es.set i b).set j a)[i]? = some b := by rw [List.getElem?_set_ne (by omega)]; exact List.getElem?_set_self hi
  have hlen : ((es.set i b).set j a).length = es.length := by simp
  replace h := Keep.mk h
  replace ha := Keep.mk ha
  replace hb := Keep.mk hb
  replace ha' := Keep.mk ha'
  replace hb' := Keep.mk hb'
  replace hh := Keep.mk hh
  replace hx := Keep.mk hx
  replace wf := Keep.mk wf
  replace nd := Keep.mk nd
  replace wa := Keep.mk wa
  replace wb := Keep.mk wb
  replace hst := Keep.mk hst
  replace hlen := Keep.mk hlen
  generalize hn : es.length = n at *
  replace hn := Keep.mk hn
  unfold setEnt at hst
  go_enter Try.func44, Try.ntmps44
  go_upto_region 0 with fail
  go_cut [] from 6 (fun wx => Stored l m g n cap es ((es.set i b).set j a) w wx)
  case first =>
    go_region
    go_wp2_with fail
    go_meet
    exact hst.out
  case rest =>
    clear hst c0 c1 x0 x1 x2 x3 y0 y1 y2 y3 f0 f1 f2 f3 e0 e1 e2 e3
    obtain ⟨⟨D, hI, hD⟩, ⟨cur', hg1, hs1, hx1⟩, hl1, hT⟩ := hcut
    replace hI := Keep.mk hI
    replace hx1 := Keep.mk hx1
    replace hT := Keep.mk hT
    have c0 : wc.cell? ⟨l, 0, none⟩ = some (.slice (some ⟨g, 0, none⟩) n cap) := by rw [Lib.cell_of_heap hl1]; rfl
    have c1 : wc.cell? ⟨l, 1, none⟩ = some (.map (some m)) := by rw [Lib.cell_of_heap hl1]; rfl
    obtain ⟨_, x1, x2, x3⟩ := row_cell hg1 (by rw [hlen.out]; exact hx1.out) hb'.out
    replace hg1 := Keep.mk hg1
    replace hl1 := Keep.mk hl1
    have hT1 := hD.tidy Try.keyed56
    obtain ⟨w3, hr3, hD3, ht3⟩ := hD.drew.store Try.keyed56 Try.underlying50 (t := 50) (by unfold maxLen; omega) (keyOf_ent wb.out) (elem_zi i (by omega))
    unfold Ent.key at hr3
    replace hD := Keep.mk hD
    replace hT1 := Keep.mk hT1
    replace ht3 := Keep.mk ht3
    replace hD3 := Keep.mk hD3
    go_upto_region 1 with fail
    go_cut [] from 6 (fun wx => w3 = wx)
    case first =>
      go_region
      go_wp2_with fail
      go_meet
      exact rfl
    case rest =>
      subst hcut
      clear hr3 c0 c1 x1 x2 x3
      have hg3 : w3.heap[g]? = some (.cells cur' 32 (0, 0)) := by rw [ht3.out.grown.block g (lt_of_block hg1.out) (by simp; exact Ne.symm hmg)]; exact hg1.out
      have hl3 : w3.heap[l]? = some (.cells #[.slice (some ⟨g, 0, none⟩) n cap, .map (some m)] 52 (0, 0)) := by rw [ht3.out.grown.block l (lt_of_block hl1.out) (by simp; exact Ne.symm hml)]; exact hl1.out
      have c0 : w3.cell? ⟨l, 0, none⟩ = some (.slice (some ⟨g, 0, none⟩) n cap) := by rw [Lib.cell_of_heap hl3]; rfl
      have c1 : w3.cell? ⟨l, 1, none⟩ = some (.map (some m)) := by rw [Lib.cell_of_heap hl3]; rfl
      obtain ⟨_, y1, y2, y3⟩ := row_cell hg3 (by rw [hlen.out]; exact hx1.out) ha'.out
      replace hg3 := Keep.mk hg3
      replace hl3 := Keep.mk hl3
      obtain ⟨w5, hr5, hD5, ht5⟩ := hD3.out.drew.store Try.keyed56 Try.underlying50 (t := 50) (by unfold maxLen; omega) (keyOf_ent wa.out) (elem_zi j (by omega))
      unfold Ent.key at hr5
      replace hD5 := Keep.mk hD5
      replace ht5 := Keep.mk ht5
      go_upto_region 2 with fail
      go_region
      · skip
        have hl5 : w5.heap[l]? = some (.cells #[.slice (some ⟨g, 0, none⟩) n cap, .map (some m)] 52 (0, 0)) := by rw [ht5.out.grown.block l (lt_of_block hl3.out) (by simp; exact Ne.symm hml)]; exact hl3.out
        have hg5 : w5.heap[g]? = some (.cells cur' 32 (0, 0)) := by rw [ht5.out.grown.block g (lt_of_block hg3.out) (by simp; exact Ne.symm hmg)]; exact hg3.out
        have hT5 : Turn l m (.slice (some ⟨g, 0, none⟩) n cap) (.slice (some ⟨g, 0, none⟩) n cap) w w5 := (hT.out.trans (Turn.of_map hl1.out ht3.out)).trans (Turn.of_map hl3.out ht5.out)
        have hfin : LAt w5 base l m (.slice (some ⟨g, 0, none⟩) n cap) ((es.set i b).set j a) := by
          have hI5 := hI.out.swap hT1.out wf.out nd.out hij ha.out hb.out
          refine ⟨hl5, ⟨by rw [flat_length], .inr ⟨g, cap, cur', by rw [hlen.out], hbg, hg5, by rw [hlen.out]; exact hnc, hcm, hs1, by rw [hlen.out]; exact hx1.out⟩⟩, ⟨_, own_size hI5.size hD5.out, hI5⟩, ?_, swap_nd nd.out (by omega) ha.out hb.out⟩
          intro e he
          rcases List.mem_or_eq_of_mem_set he with he | rfl
          · rcases List.mem_or_eq_of_mem_set he with he | rfl
            · exact wf.out e he
            · exact wb.out
          · exact wa.out
        replace hfin := Keep.mk hfin
        replace hT5 := Keep.mk hT5
        clear hl5 hg5 hr5 c0 c1 y1 y2 y3
        go_wp2
        go_returns
        exact ⟨rfl, hfin.out, hT5.out⟩
end Go.Proofs.Ytdohclfkbfeihaa
