/- The last entry is taken. -/
import Derived.Test.YtdohclfkbfeihaaDqSwap
namespace Go.Proofs.Ytdohclfkbfeihaa
open Go.RowKit Go.Maps
theorem World.heap_drew' (w : World) : w.drew.heap = w.heap := rfl
theorem Idx.pop {es : List Ent} {e : Ent} {D : DataW Unit} (I : Idx (es ++ [e]) D) (T : Tidy D) (wf : ∀ x ∈ es ++ [e], x.wf) (nd : (es ++ [e]).Pairwise fun a b => a.nm ≠ b.nm) : Idx es (D.del e.nl) := by
  have he : (es ++ [e])[es.length]? = some e := by simp
  have we := wf e (by simp)
  have h1 := (I.at_ _ e he).1
  refine ⟨?_, fun q x hq => ?_, fun x wx hx => ?_⟩
  · have := size_del (k := e.nl) T
    rw [h1, if_pos rfl, I.size, List.length_append, List.length_singleton] at this
    omega
  · have hlt : q < es.length := (List.getElem?_eq_some_iff.1 hq).1
    have hq' : (es ++ [e])[q]? = some x := by rw [List.getElem?_append_left hlt]; exact hq
    have n1 : x.nl ≠ e.nl := fun h => nm_ne nd hq' he (by omega) (nl_inj (wf x (List.mem_of_getElem? hq')) we h)
    obtain ⟨o1, o2⟩ := I.at_ q x hq'
    exact ⟨by rw [has_del_other n1]; exact o1, by rw [atKey_del_other n1]; exact o2⟩
  · by_cases q1 : x.nl = e.nl
    · rw [q1, has_del_same] at hx
      cases hx
    · rw [has_del_other q1] at hx
      obtain ⟨y, hy, hn⟩ := I.only x wx hx
      rcases List.mem_append.1 hy with h | h
      · exact ⟨y, h, hn⟩
      · rw [List.mem_singleton] at h
        subst h
        exact absurd (nl_of_nm hn).symm q1
/-- The list's own cells are set. -/
structure Popped (l m g n cap p : Nat) (es : List Ent) (e : Ent) (w w' : World) : Prop where
  map : ∃ D, Idx (es ++ [e]) D ∧ w'.ownsMap Try.prog 56 (plainElem Try.prog 3) m (n + 1) D
  row : ∃ cur', w'.heap[g]? = some (.cells cur' 32 (0, 0)) ∧ cur'.size = cap * 4 ∧ cur'.toList.take (n * 4) = flat es
  cell : w'.heap[l]? = some (.cells #[.slice (some ⟨g, 0, none⟩) n cap, .map (some m)] 52 (0, 0))
  box : w'.heap[p]? = some (.cells #[.int .i64 e.t, .int .i64 e.k, .int .u64 e.n, .int .i64 e.o] 32 (0, 0))
  turn : Turn l m (.slice (some ⟨g, 0, none⟩) (n + 1) cap) (.slice (some ⟨g, 0, none⟩) n cap) w w'
theorem pop_store {w : World} {base l m g cap n p : Nat} {cur : Array Value} {es : List Ent} {e : Ent} (h : LAt w base l m (.slice (some ⟨g, 0, none⟩) (es ++ [e]).length cap) (es ++ [e])) (hn : es.length = n) (hl : (es ++ [e]).length = n + 1)
    (hp : w.heap[p]? = some (.cells #[.int .i64 e.t, .int .i64 e.k, .int .u64 e.n, .int .i64 e.o] 32 (0, 0)))
    (hh : w.heap[g]? = some (.cells cur 32 (0, 0))) (hc : cur.size = cap * 4) (hx : cur.toList.take ((es ++ [e]).length * 4) = flat (es ++ [e])) : Popped l m g n cap p es e w (w.setCell ⟨l, 0, none⟩ (.slice (some ⟨g, 0, none⟩) n cap)).drew := by
  have hlg : g ≠ l := fun q => by have := h.cell; rw [← q, hh] at this; cases this
  have hlp : p ≠ l := fun q => by have := h.cell; rw [← q, hp] at this; cases this
  obtain ⟨D, hD, hI⟩ := h.map
  have hml : m ≠ l := fun q => by obtain ⟨es', ck, hb', _⟩ := hD; rw [q, h.cell] at hb'; cases hb'
  have s1 := heap_setCell_same w l 0 _ 52 (.slice (some ⟨g, 0, none⟩) n cap) h.cell
  have ho : ∀ k, k ≠ l → (w.setCell ⟨l, 0, none⟩ (.slice (some ⟨g, 0, none⟩) n cap)).heap[k]? = w.heap[k]? := fun k hk => heap_setCell_other w ⟨l, 0, none⟩ k _ hk
  have hz : (w.setCell ⟨l, 0, none⟩ (.slice (some ⟨g, 0, none⟩) n cap)).heap.size = w.heap.size := by simp [World.setCell]
  have h1 : (w.setCell ⟨l, 0, none⟩ (.slice (some ⟨g, 0, none⟩) n cap)).os = w.os := rfl
  have h2 : (w.setCell ⟨l, 0, none⟩ (.slice (some ⟨g, 0, none⟩) n cap)).tape = w.tape := rfl
  have h3 : (w.setCell ⟨l, 0, none⟩ (.slice (some ⟨g, 0, none⟩) n cap)).output = w.output := rfl
  generalize w.setCell ⟨l, 0, none⟩ (.slice (some ⟨g, 0, none⟩) n cap) = X at *
  have hx' : cur.toList.take (n * 4) = flat es := by
    have hf : (flat es).length = n * 4 := by rw [flat_length, hn]
    have q : (cur.toList.take ((n + 1) * 4)).take (n * 4) = (flat es ++ flat [e]).take (n * 4) := by rw [← hl, hx, flat_app]
    rw [List.take_take, Nat.min_eq_left (by omega), List.take_append_of_le_length (by omega), List.take_of_length_le (l := flat es) (by omega)] at q
    exact q
  refine ⟨⟨D, hI, ?_⟩, ⟨cur, by rw [World.heap_drew', ho g hlg]; exact hh, hc, hx'⟩, s1, by rw [World.heap_drew', ho p hlp]; exact hp, ⟨h1, h2, h3, by show _ ≤ X.heap.size; omega, fun k _ hk _ _ => ho k hk, fun k q => .inl q⟩⟩
  obtain ⟨es', ck, hb', rest⟩ := hD
  rw [hl] at rest
  exact ⟨es', ck, by rw [World.heap_drew', ho m hml]; exact hb', rest⟩
set_option maxHeartbeats 1000000 in
set_option maxRecDepth 1000000 in
theorem Try.Pop_walk {w : World} {base l m : Nat} {v : Value} {es : List Ent} {e : Ent} (h : LAt w base l m v (es ++ [e])) (hsm : es.length ≤ 1000) :
    Calls Try.prog 42 #[.pointer (some ⟨l, 0, none⟩)] w fun x w' => ∃ v', x = .returned (.iface 32 e.val) ∧ LAt w' base l m v' es ∧ Turn l m v v' w w' := by
  have hln : (es ++ [e]).length = es.length + 1 := by simp
  have he : (es ++ [e])[es.length]? = some e := by simp
  obtain ⟨g, cap, cur, rfl, hbg, hh, hnc, hcm, hcs, hx⟩ := h.slice (by omega)
  have c0 : w.cell? ⟨l, 0, none⟩ = some (.slice (some ⟨g, 0, none⟩) (es.length + 1) cap) := by rw [Lib.cell_of_heap h.cell, ← hln]; rfl
  obtain ⟨x0, x1, x2, x3⟩ := row_cell hh hx he
  have i2 : ((es.length : Int)) < ((es.length + 1 : Nat) : Int) := by omega
  have i3 : ((es.length + 1 : Nat) : Int) - 1 = (es.length : Int) := by omega
  have hc1 : (es.length : Int) ≤ (cap : Int) := by omega
  have we := h.wf e (by simp)
  have hlw := lt_of_block h.cell
  have hgw := lt_of_block hh
  replace h := Keep.mk h
  replace he := Keep.mk he
  replace hh := Keep.mk hh
  replace hx := Keep.mk hx
  replace hln := Keep.mk hln
  replace we := Keep.mk we
  generalize hn : es.length = n at *
  replace hn := Keep.mk hn
  have hpop : LAt (w.alloc (.cells #[.int .i64 e.t, .int .i64 e.k, .int .u64 e.n, .int .i64 e.o] 32 (0, 0))).drew base l m (.slice (some ⟨g, 0, none⟩) (es ++ [e]).length cap) (es ++ [e]) ∧ (w.alloc (.cells #[.int .i64 e.t, .int .i64 e.k, .int .u64 e.n, .int .i64 e.o] 32 (0, 0))).drew.heap[w.heap.size]? = some (.cells #[.int .i64 e.t, .int .i64 e.k, .int .u64 e.n, .int .i64 e.o] 32 (0, 0)) ∧
      Turn l m (.slice (some ⟨g, 0, none⟩) (es ++ [e]).length cap) (.slice (some ⟨g, 0, none⟩) (es ++ [e]).length cap) w (w.alloc (.cells #[.int .i64 e.t, .int .i64 e.k, .int .u64 e.n, .int .i64 e.o] 32 (0, 0))).drew := by
    have hb1 : Below w.heap.size w (w.alloc (.cells #[.int .i64 e.t, .int .i64 e.k, .int .u64 e.n, .int .i64 e.o] 32 (0, 0))).drew := ((Below.refl _ w).alloc (Nat.le_refl _) _).drew
    exact ⟨h.out.below hb1, (MapKept.heap_alloc w _).1, Turn.of_below hb1⟩
  replace hpop := Keep.mk hpop
  go_enter Try.func42, Try.ntmps42
  go_upto_region 1 with fail
  go_cut [3] from 4 (fun s3 wx => s3 = .pointer (some ⟨w.heap.size, 0, none⟩) ∧ LAt wx base l m (.slice (some ⟨g, 0, none⟩) (es ++ [e]).length cap) (es ++ [e]) ∧ wx.heap[w.heap.size]? = some (.cells #[.int .i64 e.t, .int .i64 e.k, .int .u64 e.n, .int .i64 e.o] 32 (0, 0)) ∧ Turn l m (.slice (some ⟨g, 0, none⟩) (es ++ [e]).length cap) (.slice (some ⟨g, 0, none⟩) (es ++ [e]).length cap) w wx)
  case first =>
    go_region
    go_wp2_with fail
    go_meet
    exact ⟨rfl, hpop.out⟩
  case rest =>
    clear c0 x0 x1 x2 x3 hpop
    obtain ⟨rfl, h1, hp1, hT1⟩ := hcut
    generalize hpe : w.heap.size = p at *
    replace hT1 := Keep.mk hT1
    clear h hh
    obtain ⟨g', cap', cur1, hsv, _, hh1, _, _, hcs1, hx1⟩ := h1.slice (by rw [hln.out]; omega)
    cases hsv
    have c0 : wc.cell? ⟨l, 0, none⟩ = some (.slice (some ⟨g, 0, none⟩) (n + 1) cap) := by rw [Lib.cell_of_heap h1.cell, ← hln.out]; rfl
    have f0 := Lib.frozen_of_heap h1.cell 0
    have hst := pop_store h1 hn.out hln.out hp1 hh1 hcs1 hx1
    replace hst := Keep.mk hst
    replace hh1 := Keep.mk hh1
    replace hx1 := Keep.mk hx1
    replace hp1 := Keep.mk hp1
    replace h1 := Keep.mk h1
    go_upto_region 2 with fail
    go_cut [] from 4 (fun wx => Popped l m g n cap p es e wc wx)
    case first =>
      go_region
      go_wp2_with fail
      go_meet
      exact hst.out
    case rest =>
      clear c0 f0 hst
      obtain ⟨⟨D, hI, hD⟩, ⟨cur', hg1, hs1, hx1'⟩, hl1, hb1, hT2⟩ := hcut
      have c1 : wc.cell? ⟨l, 1, none⟩ = some (.map (some m)) := by rw [Lib.cell_of_heap hl1]; rfl
      have x1 : wc.cell? ⟨p, 1, none⟩ = some (.int .i64 e.k) := by rw [Lib.cell_of_heap hb1]; rfl
      have x2 : wc.cell? ⟨p, 2, none⟩ = some (.int .u64 e.n) := by rw [Lib.cell_of_heap hb1]; rfl
      have x3 : wc.cell? ⟨p, 3, none⟩ = some (.int .i64 e.o) := by rw [Lib.cell_of_heap hb1]; rfl
      have hTd := hD.tidy Try.keyed56
      obtain ⟨w3, hr3, hD3, ht3⟩ := hD.drew.drop Try.keyed56 Try.underlying50 (keyOf_ent we.out) 0
      unfold Ent.key at hr3
      have hmg : m ≠ g := fun q => by obtain ⟨es', ck, hb', _⟩ := hD; rw [q, hg1] at hb'; cases hb'
      have hml : m ≠ l := fun q => by obtain ⟨es', ck, hb', _⟩ := hD; rw [q, hl1] at hb'; cases hb'
      have hmp : m ≠ p := fun q => by obtain ⟨es', ck, hb', _⟩ := hD; rw [q, hb1] at hb'; cases hb'
      have hg3 : w3.heap[g]? = some (.cells cur' 32 (0, 0)) := by rw [ht3.grown.block g (lt_of_block hg1) (by simp; exact Ne.symm hmg)]; exact hg1
      have hl3 : w3.heap[l]? = some (.cells #[.slice (some ⟨g, 0, none⟩) n cap, .map (some m)] 52 (0, 0)) := by rw [ht3.grown.block l (lt_of_block hl1) (by simp; exact Ne.symm hml)]; exact hl1
      have hb3 : w3.heap[p]? = some (.cells #[.int .i64 e.t, .int .i64 e.k, .int .u64 e.n, .int .i64 e.o] 32 (0, 0)) := by rw [ht3.grown.block p (lt_of_block hb1) (by simp; exact Ne.symm hmp)]; exact hb1
      have z0 : w3.cell? ⟨p, 0, none⟩ = some (.int .i64 e.t) := by rw [Lib.cell_of_heap hb3]; rfl
      have z1 : w3.cell? ⟨p, 1, none⟩ = some (.int .i64 e.k) := by rw [Lib.cell_of_heap hb3]; rfl
      have z2 : w3.cell? ⟨p, 2, none⟩ = some (.int .u64 e.n) := by rw [Lib.cell_of_heap hb3]; rfl
      have z3 : w3.cell? ⟨p, 3, none⟩ = some (.int .i64 e.o) := by rw [Lib.cell_of_heap hb3]; rfl
      have hfin : LAt w3 base l m (.slice (some ⟨g, 0, none⟩) n cap) es := by
        have hI3 := hI.pop hTd h1.out.wf h1.out.nd
        refine ⟨hl3, ⟨flat_length es, .inr ⟨g, cap, cur', by rw [hn.out], hbg, hg3, by rw [hn.out]; omega, hcm, hs1, by rw [hn.out]; exact hx1'⟩⟩, ⟨_, own_size hI3.size hD3, hI3⟩, fun x hx => h1.out.wf x (by simp [hx]), (List.pairwise_append.1 h1.out.nd).1⟩
      have hT3 : Turn l m (.slice (some ⟨g, 0, none⟩) (es ++ [e]).length cap) (.slice (some ⟨g, 0, none⟩) n cap) w w3 := hT1.out.trans (Turn.trans (by rw [hln.out]; exact hT2) (Turn.of_map hl1 ht3))
      replace hfin := Keep.mk hfin
      replace hT3 := Keep.mk hT3
      clear hI hD hg1 hs1 hx1' hl1 hb1 hT2 hTd hD3 ht3 hg3 hl3 hb3
      go_upto_region 3 with fail
      go_cut [] from 4 (fun wx => w3 = wx)
      case first =>
        go_region
        go_wp2_with fail
        go_meet
        exact rfl
      case rest =>
        subst hcut
        clear hr3 c1 x1 x2 x3
        go_wp2
        go_ret
        exact ⟨_, rfl, hfin.out, hT3.out⟩
end Go.Proofs.Ytdohclfkbfeihaa
