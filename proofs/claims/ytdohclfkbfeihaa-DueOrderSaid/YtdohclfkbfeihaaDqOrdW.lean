/- DueOrder, walked. -/
import Derived.Test.YtdohclfkbfeihaaDqOrder
namespace Go.Proofs.Ytdohclfkbfeihaa
open Go.RowKit Go.Maps
theorem Both.below {w w' : World} {base q l m B : Nat} {v : Value} {es : List Ent} {D : DataW Unit} (h : Both w base q l m B v es D) (hb : Below w.heap.size w w') : Both w' base q l m B v es D :=
  ⟨h.queue.below hb, h.last.kept (row := none) ⟨hb.os, hb.tape, hb.output, hb.size, fun k hk _ => hb.block k hk⟩ (by simp), h.idx, h.hm, h.bB⟩
theorem Both.apart {w : World} {base q l m B : Nat} {v : Value} {es : List Ent} {D : DataW Unit} (h : Both w base q l m B v es D) : q ≠ B ∧ l ≠ B ∧ v.ownBlock ≠ some B := by
  obtain ⟨es', ck, hb, _⟩ := h.last
  refine ⟨fun e => ?_, fun e => ?_, fun e => ?_⟩
  · have := h.queue.cell
    rw [e, hb] at this
    cases this
  · have := h.queue.heap.at_.cell
    rw [e, hb] at this
    cases this
  · rcases h.queue.heap.at_.row.2 with ⟨r, _⟩ | ⟨g, c, cur, r, _, hg, _⟩
    · rw [r] at e; cases e
    · rw [r] at e; cases e; rw [hb] at hg; cases hg
theorem keyOf_val {x : Ent} {kl : Lit} (h : keyOf Try.prog 32 x.val = some kl) : x.wf ∧ kl = x.el := by
  obtain ⟨x', hx, wx, hk⟩ := keyOf_el_inv h
  have : x = x' := by
    simp only [Ent.val, Ent.cells, Value.agg.injEq, Array.mk.injEq, List.cons.injEq, Value.int.injEq, true_and, and_true] at hx
    obtain ⟨a1, a2, a3, a4⟩ := x
    obtain ⟨b1, b2, b3, b4⟩ := x'
    simp only at hx
    obtain ⟨rfl, rfl, rfl, rfl⟩ := hx
    rfl
  subst this
  exact ⟨wx, hk⟩
/-- The law's two lists behind a Set. -/
theorem Both.set {w w5 w6 : World} {base q l m B : Nat} {v v' : Value} {es es' : List Ent} {D Dc : DataW Unit} {y : Ent} {n : Nat} (h : Both w base q l m B v es D) (wy : y.wf)
    (hst : (Dc = D ∧ ∀ x ∈ es, x.nm ≠ y.nm) ∨ ∃ e ∈ es, e.nm = y.nm ∧ Dc = D.del e.el) (hown : w5.ownsMap Try.prog 32 (plainElem Try.prog 4) B n (Dc.put y.el yes)) (hT : Turn l m v v' w5 w6) (hQ : QAt w6 base q l m v' es')
    (hS : (∃ e ∈ es, e.nm = y.nm ∧ ∃ r, (e :: r).Perm es ∧ es'.Perm (y :: r)) ∨ ((∀ e ∈ es, e.nm ≠ y.nm) ∧ es'.Perm (y :: es))) : Both w6 base q l m B v' es' (Dc.put y.el yes) := by
  have hI := h.idx.set (h.last.tidy Try.keyed32) h.queue.heap.at_.wf wy h.queue.heap.at_.nd hst hS
  obtain ⟨h1, h2, h3⟩ := h.apart
  refine ⟨hQ, ?_, hI, h.hm, h.bB⟩
  rw [← hI.size]
  obtain ⟨es1, ck, hb, rest⟩ := own_tight hown
  exact ⟨es1, ck, by rw [hT.block B (lt_of_block hb) (Ne.symm h2) (Ne.symm h.hm) h3]; exact hb, rest⟩
/-- A truth in a wrapper (so that nothing is told of all truths one by one). -/
structure Bx where
  b : Bool
def Bx.val (c : Bx) : Value := .bool c.b
/-- What is taken comes first, strictly. -/
theorem next_first {es es' : List Ent} {e : Ent} (hp : (e :: es').Perm es) (nd : es.Pairwise fun a b => a.nm ≠ b.nm) (hm : ∀ z ∈ es, lt z e = false) : ∀ z ∈ es', lt e z = true := fun z hz => by
  cases h : lt e z with
  | true => rfl
  | false =>
    have h1 := hm z (hp.mem_iff.1 (by simp [hz]))
    have h2 : e = z := le_antisymm h h1
    have nd1 : (e :: es').Pairwise fun a b => a.nm ≠ b.nm := hp.symm.pairwise nd (fun {_ _} h => Ne.symm h)
    exact absurd (congrArg Ent.nm h2) ((List.pairwise_cons.1 nd1).1 z hz)
theorem all_late {es : List Ent} (wf : ∀ e ∈ es, e.wf) (h : ∀ z ∈ es, (9223372036854775807 : Int) < z.t) : es = [] := by
  cases es with
  | nil => rfl
  | cons e r =>
    have h1 := h e (by simp)
    have h2 := (wf e (by simp)).1
    simp only [Lit.wf, Bool.and_eq_true, decide_eq_true_eq] at h2
    have h3 : e.t ≤ 9223372036854775807 := h2.2
    omega
theorem look_set {w : World} {B n : Nat} {es : List Ent} {D : DataW Unit} (h : w.ownsMap Try.prog 32 (plainElem Try.prog 4) B n D) (I : SIdx es D) {e : Ent} (we : e.wf) (he : e ∈ es) : (Instr.lookup 26 (.map (some B)) e.val false).run Try.prog w = .ok (.bool true) w := by
  obtain ⟨v, ps, hr, hv⟩ := h.lookup Try.keyed32 Try.underlying26 (Try.zero4 w) (elem_bool false) (keyOf_el we)
  have h1 : D.atKey e.el (.lit (.bool false)) = .lit (.bool true) := (I.in_ e he).2
  rw [h1] at hv
  obtain ⟨b, rfl, hb⟩ := elem_bool_inv hv
  cases hb
  exact hr
theorem owns_lt {w : World} {B n : Nat} {D : DataW Unit} (h : w.ownsMap Try.prog 32 (plainElem Try.prog 4) B n D) : B < w.heap.size := h.lt
set_option maxHeartbeats 4000000 in
set_option maxRecDepth 1000000 in
theorem Try.Order_walk (o : Option Addr) (c : Nat) (xs : List Ent) (W : World) (hin : ListIn W o xs) :
    Calls Try.prog 3 #[.slice o xs.length c] W fun x w' => x = .returned (.bool true) ∧ Below W.heap.size W w' := by
  have hH := Keep.mk (Try.head_walk W)
  replace hin := Keep.mk hin
  have hmm := @run_makeMap Try.prog
  by_cases hn : xs.length ≤ 60
  · have hn' : ¬ (60 : Int) < (xs.length : Int) := by omega
    go_enter Try.func3, Try.ntmps3
    go_wp2_with (go_at_call 8; refine hH.out.mono ?_)
    first | rintro x w1 rfl B1 | rintro x w1 ⟨rfl, B1⟩
    have hN := Keep.mk (Try.New_walk w1 W.heap.size B1.size)
    replace B1 := Keep.mk B1
    clear hH
    go_wp2_with (go_at_call 9; refine hN.out.mono ?_)
    rintro x w2 ⟨q, l, m, v, rfl, hQ2, hB2⟩
    have B2 := B1.out.trans (hB2.mono B1.out.size)
    obtain ⟨_, hmlt, _⟩ := hQ2.heap.at_.lt
    have hbo : Both (w2.alloc (.map #[] 0)) W.heap.size q l m w2.heap.size v [] (DataW.map []) :=
      ⟨hQ2.below ((Below.refl _ _).alloc (Nat.le_refl _) _), World.ownsMap_made _ _ _ _, SIdx.nil, by omega, B2.size⟩
    have B3 := Keep.mk (B2.alloc B2.size (.map #[] 0))
    replace hbo := Keep.mk hbo
    generalize hBB : w2.heap.size = B at *
    clear hN hB2 B1 B2 hQ2
    go_upto_region 7 with fail
    generalize w2.alloc (.map #[] 0) = w3 at *
    clear hmm
    go_wp2
    go_loopw [21] (fun v21 wr => ∃ (k : Nat) (v : Value) (es : List Ent) (D : DataW Unit), v21 = .int .i64 (k : Int) ∧ k ≤ xs.length ∧ Both wr W.heap.size q l m B v es D ∧ Below W.heap.size W wr ∧ es.length ≤ k) (fun v21 _ => xs.length - (intOf v21).toNat)
    case atStart => exact ⟨0, v, [], _, rfl, Nat.zero_le _, hbo.out, B3.out, Nat.le_refl _⟩
    case round =>
      clear hbo B3 hmlt
      obtain ⟨k, v, es, D, rfl, hk, hb, hB, hl⟩ := hrel
      replace hb := Keep.mk hb
      replace hB := Keep.mk hB
      by_cases hp : k < xs.length
      · obtain ⟨y, hy⟩ : ∃ y, xs[k]? = some y := ⟨_, List.getElem?_eq_getElem hp⟩
        obtain ⟨g, off, rfl, wy, y0, y1, y2, y3⟩ := hin.out k y hy
        have hlt := lt_of_cell y0
        rw [← hB.out.cell (p := ⟨g, off + k * 4, none⟩) hlt] at y0
        rw [← hB.out.cell (p := ⟨g, off + k * 4 + 1, none⟩) hlt] at y1
        rw [← hB.out.cell (p := ⟨g, off + k * 4 + 2, none⟩) hlt] at y2
        rw [← hB.out.cell (p := ⟨g, off + k * 4 + 3, none⟩) hlt] at y3
        replace hy := Keep.mk hy
        replace wy := Keep.mk wy
        have ix1 : (0 : Int) ≤ (k : Int) := by omega
        have ix2 : (k : Int) < (xs.length : Int) := by omega
        have hs := hB.out.size
        have b3 : Below wr.heap.size wr (wr.alloc (.cells #[.int .i64 y.t, .int .i64 y.k, .int .u64 y.n, .int .i64 y.o] 32 (0, 0))) := (Below.refl _ _).alloc (Nat.le_refl _) _
        have hp3 : (wr.alloc (.cells #[.int .i64 y.t, .int .i64 y.k, .int .u64 y.n, .int .i64 y.o] 32 (0, 0))).heap[wr.heap.size]? = some (.cells #[.int .i64 y.t, .int .i64 y.k, .int .u64 y.n, .int .i64 y.o] 32 (0, 0)) := (MapKept.heap_alloc wr _).1
        have hb3 := Keep.mk (hb.out.below b3)
        have hB3 := Keep.mk (hB.out.trans (b3.mono hs))
        replace hp3 := Keep.mk hp3
        have hPB : wr.heap.size ≠ B := by have := owns_lt hb.out.last; omega
        clear b3 hb hB
        go_upto_region 10 with fail
        clear y0 y1 y2 y3
        generalize wr.heap.size = P at *
        generalize wr.alloc (.cells #[.int .i64 y.t, .int .i64 y.k, .int .u64 y.n, .int .i64 y.o] 32 (0, 0)) = w4 at *
        have hlast := hb3.out.last
        go_wp2_with (first | (at_range; refine wpList_range_own _ rfl _ 26 rfl 32 4 Try.keyed32 Try.underlying26 (plainElem Try.prog 4) B es.length D rfl hlast ?_; intro w0 hrg0 hg0 hs0) | go_in)
        try go_frame
        have hA0 : Aside B w4 w0 := (Aside.refl B w4).grown0 hg0
        have hpl := lt_of_block hp3.out
        generalize hR : w4.heap.size = R at *
        replace hA0 := Keep.mk hA0
        replace hrg0 := Keep.mk hrg0
        clear hlast hg0 hs0
        go_loopw [27] (fun _ wr => ∃ (left : Lit → Bool) (cnt : Nat) (Dc : DataW Unit), wr.ranges Try.prog 32 (plainElem Try.prog 4) B R es.length Dc left cnt ∧ Struck es D Dc y left ∧ Aside B w4 wr) (fun _ wr => wr.rangeLeft B R)
        case atStart => exact ⟨_, _, _, hrg0.out, Struck.start hb3.out.idx y, hA0.out⟩
        case round =>
          clear hrg0 hA0
          obtain ⟨left, cnt, Dc, hrg, hst, hA⟩ := hrel
          have hy4 := hA.block P (by rw [hR]; exact hpl) hPB
          rw [hp3.out] at hy4
          replace hst := Keep.mk hst
          replace hA := Keep.mk hA
          have hleq := hrg.left_eq
          replace hleq := Keep.mk hleq
          go_wp2_with (first | (at_next; refine wpList_next_ranges _ rfl _ rfl 32 Try.keyed32 (plainElem Try.prog 4) Ent.val Bx.val (fun key kl h => by obtain ⟨x, hx, _⟩ := keyOf_el_inv h; exact ⟨x, hx⟩) (fun v y h => by obtain ⟨b, hb, _⟩ := elem_bool_inv h; exact ⟨⟨b⟩, hb⟩) B R es.length Dc left cnt rfl hrg ?_ ?_) | go_in)
          · intro hc0 hl0
            have hdone := Keep.mk (hst.out.done hl0)
            have hown := hrg.owns
            obtain ⟨hqB, hlB, hvB⟩ := hb3.out.apart
            have hT5 := hown.tidy Try.keyed32
            obtain ⟨w5, hr5, hown5, ht5⟩ := hown.store Try.keyed32 Try.underlying26 (t := 26) (by unfold maxLen; omega) (keyOf_el wy.out) (elem_bool true)
            unfold Ent.val Ent.cells at hr5
            have hA5 := hA.out.turned ht5
            have hy5 : w5.heap[P]? = some (.cells #[.int .i64 y.t, .int .i64 y.k, .int .u64 y.n, .int .i64 y.o] 32 (0, 0)) := by rw [hA5.block P (by rw [hR]; exact hpl) hPB]; exact hp3.out
            have hQ5 : QAt w5 W.heap.size q l m v es := hb3.out.queue.aside hA5 hqB hlB hb3.out.hm hvB
            have hB5 := hA5.below hB3.out hB3.out.size hb3.out.bB
            have hS := Try.Set_walk hQ5 (by omega) hB5.size wy.out
            unfold TidV at hS
            have z0 : wr.cell? ⟨P, 0, none⟩ = some (.int .i64 y.t) := by rw [Lib.cell_of_heap hy4]; rfl
            have z1 : wr.cell? ⟨P, 1, none⟩ = some (.int .i64 y.k) := by rw [Lib.cell_of_heap hy4]; rfl
            have z2 : wr.cell? ⟨P, 2, none⟩ = some (.int .u64 y.n) := by rw [Lib.cell_of_heap hy4]; rfl
            have z3 : wr.cell? ⟨P, 3, none⟩ = some (.int .i64 y.o) := by rw [Lib.cell_of_heap hy4]; rfl
            have u0 : w5.cell? ⟨P, 0, none⟩ = some (.int .i64 y.t) := by rw [Lib.cell_of_heap hy5]; rfl
            have u1 : w5.cell? ⟨P, 1, none⟩ = some (.int .i64 y.k) := by rw [Lib.cell_of_heap hy5]; rfl
            have u2 : w5.cell? ⟨P, 2, none⟩ = some (.int .u64 y.n) := by rw [Lib.cell_of_heap hy5]; rfl
            have u3 : w5.cell? ⟨P, 3, none⟩ = some (.int .i64 y.o) := by rw [Lib.cell_of_heap hy5]; rfl
            replace hA5 := Keep.mk hA5
            replace hy5 := Keep.mk hy5
            replace hQ5 := Keep.mk hQ5
            replace hB5 := Keep.mk hB5
            replace hS := Keep.mk hS
            replace hown5 := Keep.mk hown5
            clear hown hT5 ht5 hrg hy4 hl0 hst hA
            go_wp2_with (go_at_call 10; refine hS.out.mono ?_)
            rintro x w6 ⟨v6, es6, rfl, hQ6, hT6, hor⟩
            have hl6 : es6.length ≤ es.length + 1 := by
              rcases hor with ⟨e, he, _, r, p1, p2⟩ | ⟨_, p2⟩
              · have a1 := p1.length_eq
                have a2 := p2.length_eq
                simp only [List.length_cons] at a1 a2
                omega
              · rw [p2.length_eq]
                simp
            have hb6 := Keep.mk (hb3.out.set wy.out hdone.out hown5.out hT6 hQ6 hor)
            have hB6 := Keep.mk (hB5.out.trans (hQ5.out.keeps hT6 (Nat.le_refl _) hB5.out.size))
            clear hS hQ6 hT6 hor hr5 z0 z1 z2 z3 u0 u1 u2 u3
            go_wp2
            go_roundw
            case rel =>
              have R : ((k : Int) + 1 = ((k + 1 : Nat) : Int)) ∧ k + 1 ≤ xs.length ∧ Both w6 W.heap.size q l m B v6 es6 (Dc.put y.el yes) ∧ Below W.heap.size W w6 ∧ es6.length ≤ k + 1 := ⟨by omega, by omega, hb6.out, hB6.out, by omega⟩
              first
                | exact ⟨k + 1, v6, es6, _, by rw [← R.1], R.2⟩
                | ((repeat apply Exists.intro); exact ⟨⟨k + 1, v6, es6, _, by rw [← R.1], R.2⟩, rfl⟩)
            case measure =>
              simp [intOf]
              omega
          · intro x cc kl ya yb w5 cnt' hkey hlk hv hat hrg1 hlt' hgr hsz hen
            obtain ⟨wx, rfl⟩ := keyOf_val hkey
            have hhas := has_true_of_atKey hat
            have hA5 := hA.out.grown hgr (by omega)
            have hy5 : w5.heap[P]? = some (.cells #[.int .i64 y.t, .int .i64 y.k, .int .u64 y.n, .int .i64 y.o] 32 (0, 0)) := by rw [hA5.block P (by rw [hR]; exact hpl) hPB]; exact hp3.out
            have hp5 := lt_of_block hy5
            have hA7 := hA5.alloc (.cells #[.int .i64 x.t, .int .i64 x.k, .int .u64 x.n, .int .i64 x.o] 32 (0, 0))
            have hrg7 := hrg1.alloc (.cells #[.int .i64 x.t, .int .i64 x.k, .int .u64 x.n, .int .i64 x.o] 32 (0, 0))
            have hx7 : (w5.alloc (.cells #[.int .i64 x.t, .int .i64 x.k, .int .u64 x.n, .int .i64 x.o] 32 (0, 0))).heap[w5.heap.size]? = some (.cells #[.int .i64 x.t, .int .i64 x.k, .int .u64 x.n, .int .i64 x.o] 32 (0, 0)) := (MapKept.heap_alloc w5 _).1
            have hy7 : (w5.alloc (.cells #[.int .i64 x.t, .int .i64 x.k, .int .u64 x.n, .int .i64 x.o] 32 (0, 0))).heap[P]? = some (.cells #[.int .i64 y.t, .int .i64 y.k, .int .u64 y.n, .int .i64 y.o] 32 (0, 0)) := by rw [Below.heap_alloc _ _ _ hp5]; exact hy5
            unfold Ent.val Ent.cells Bx.val at hen ⊢
            replace hA7 := Keep.mk hA7
            replace hrg7 := Keep.mk hrg7
            replace hx7 := Keep.mk hx7
            replace hy7 := Keep.mk hy7
            replace wx := Keep.mk wx
            replace hhas := Keep.mk hhas
            clear hkey hlk hv hat hgr hsz hA5 hy5 hrg1 hy4 hrg
            go_upto_region 13 with fail
            clear hen
            generalize w5.heap.size = P7 at *
            generalize w5.alloc (.cells #[.int .i64 x.t, .int .i64 x.k, .int .u64 x.n, .int .i64 x.o] 32 (0, 0)) = w7 at *
            have z1 : w7.cell? ⟨P, 1, none⟩ = some (.int .i64 y.k) := by rw [Lib.cell_of_heap hy7.out]; rfl
            have z2 : w7.cell? ⟨P, 2, none⟩ = some (.int .u64 y.n) := by rw [Lib.cell_of_heap hy7.out]; rfl
            have z3 : w7.cell? ⟨P, 3, none⟩ = some (.int .i64 y.o) := by rw [Lib.cell_of_heap hy7.out]; rfl
            have u0 : w7.cell? ⟨P7, 0, none⟩ = some (.int .i64 x.t) := by rw [Lib.cell_of_heap hx7.out]; rfl
            have u1 : w7.cell? ⟨P7, 1, none⟩ = some (.int .i64 x.k) := by rw [Lib.cell_of_heap hx7.out]; rfl
            have u2 : w7.cell? ⟨P7, 2, none⟩ = some (.int .u64 x.n) := by rw [Lib.cell_of_heap hx7.out]; rfl
            have u3 : w7.cell? ⟨P7, 3, none⟩ = some (.int .i64 x.o) := by rw [Lib.cell_of_heap hx7.out]; rfl
            by_cases hnm : x.nm = y.nm
            · have hnm' := hnm
              simp only [Ent.nm, Prod.mk.injEq] at hnm'
              obtain ⟨hk', hn', ho'⟩ := hnm'
              rw [hk'] at u1
              rw [hn'] at u2
              rw [ho'] at u3
              have hkx := keyOf_el wx.out
              unfold Ent.val Ent.cells at hkx
              rw [hk', hn', ho'] at hkx
              obtain ⟨w8, cnt8, hr8, hrg8, hle8, ht8⟩ := hrg7.out.drop Try.keyed32 Try.underlying26 hkx 0
              have hst8 := Keep.mk (hst.out.strike (left' := fun z => (left z && !z.sameKey x.el) && !z.sameKey x.el) hb3.out.idx hb3.out.queue.heap.at_.nd wx.out hhas.out hnm)
              have hA8 := Keep.mk (hA7.out.turned ht8)
              replace hrg8 := Keep.mk hrg8
              replace hnm := Keep.mk hnm
              clear hkx ht8 hk' hn' ho'
              go_wp2
              go_roundw
              case rel =>
                have R' : ∃ (left : Lit → Bool) (cnt : Nat) (Dc : DataW Unit), w8.ranges Try.prog 32 (plainElem Try.prog 4) B R es.length Dc left cnt ∧ Struck es D Dc y left ∧ Aside B w4 w8 := ⟨_, _, _, hrg8.out, hst8.out, hA8.out⟩
                first
                  | exact R'
                  | exact ⟨_, R', rfl⟩
                  | ((repeat apply Exists.intro); exact ⟨R', rfl⟩)
              case measure =>
                show World.rangeLeft w8 B R < World.rangeLeft wr B R
                rw [hrg8.out.left_eq, hleq.out]
                omega
            · have hsk := Keep.mk (hst.out.skip hb3.out.queue.heap.at_.wf wx.out hnm)
              by_cases e1 : x.k = y.k
              · by_cases e2 : x.n = y.n
                · have e3 : x.o ≠ y.o := fun e3 => hnm (by simp only [Ent.nm, e1, e2, e3])
                  rw [e1] at u1
                  rw [e2] at u2
                  have d3 : decide (x.o = y.o) = false := decide_eq_false e3
                  have d4 : (x.o == y.o) = false := beq_eq_false_iff_ne.2 e3
                  replace hnm := Keep.mk hnm
                  clear e1 e2
                  go_wp2
                  go_roundw
                  case rel =>
                    have R' : ∃ (left : Lit → Bool) (cnt : Nat) (Dc : DataW Unit), w7.ranges Try.prog 32 (plainElem Try.prog 4) B R es.length Dc left cnt ∧ Struck es D Dc y left ∧ Aside B w4 w7 := ⟨_, _, _, hrg7.out, hsk.out, hA7.out⟩
                    first
                      | exact R'
                      | exact ⟨_, R', rfl⟩
                      | ((repeat apply Exists.intro); exact ⟨R', rfl⟩)
                  case measure =>
                    show World.rangeLeft w7 B R < World.rangeLeft wr B R
                    rw [hrg7.out.left_eq, hleq.out]
                    omega
                · rw [e1] at u1
                  have d3 : decide (x.n = y.n) = false := decide_eq_false e2
                  have d4 : (x.n == y.n) = false := beq_eq_false_iff_ne.2 e2
                  replace hnm := Keep.mk hnm
                  clear e1
                  go_wp2
                  go_roundw
                  case rel =>
                    have R' : ∃ (left : Lit → Bool) (cnt : Nat) (Dc : DataW Unit), w7.ranges Try.prog 32 (plainElem Try.prog 4) B R es.length Dc left cnt ∧ Struck es D Dc y left ∧ Aside B w4 w7 := ⟨_, _, _, hrg7.out, hsk.out, hA7.out⟩
                    first
                      | exact R'
                      | exact ⟨_, R', rfl⟩
                      | ((repeat apply Exists.intro); exact ⟨R', rfl⟩)
                  case measure =>
                    show World.rangeLeft w7 B R < World.rangeLeft wr B R
                    rw [hrg7.out.left_eq, hleq.out]
                    omega
              · have d3 : decide (x.k = y.k) = false := decide_eq_false e1
                have d4 : (x.k == y.k) = false := beq_eq_false_iff_ne.2 e1
                replace hnm := Keep.mk hnm
                go_wp2
                go_roundw
                case rel =>
                  have R' : ∃ (left : Lit → Bool) (cnt : Nat) (Dc : DataW Unit), w7.ranges Try.prog 32 (plainElem Try.prog 4) B R es.length Dc left cnt ∧ Struck es D Dc y left ∧ Aside B w4 w7 := ⟨_, _, _, hrg7.out, hsk.out, hA7.out⟩
                  first
                    | exact R'
                    | exact ⟨_, R', rfl⟩
                    | ((repeat apply Exists.intro); exact ⟨R', rfl⟩)
                case measure =>
                  show World.rangeLeft w7 B R < World.rangeLeft wr B R
                  rw [hrg7.out.left_eq, hleq.out]
                  omega
      · have hkl : k = xs.length := by omega
        have hlx : es.length ≤ xs.length := by omega
        have hP9 : wr.heap.size = wr.heap.size := rfl
        have b3 : Below wr.heap.size wr (wr.alloc (.cells #[.int .i64 0, .int .i64 0, .int .u64 0, .int .i64 0] 32 (0, 0))) := (Below.refl _ _).alloc (Nat.le_refl _) _
        have hb3 := Keep.mk (hb.out.below b3)
        have hB3 := Keep.mk (hB.out.trans (b3.mono hB.out.size))
        have hp3 : (wr.alloc (.cells #[.int .i64 0, .int .i64 0, .int .u64 0, .int .i64 0] 32 (0, 0))).heap[wr.heap.size]? = some (.cells (Ent.mk 0 0 0 0).cells 32 (0, 0)) := (MapKept.heap_alloc wr _).1
        obtain ⟨hl9, hm9, hv9⟩ := hb.out.queue.heap.at_.lt
        have hq9 := lt_of_block hb.out.queue.cell
        have hB9 := owns_lt hb.out.last
        have hv9' : v.ownBlock ≠ some wr.heap.size := fun e => by have := hv9 _ e; omega
        have hW9 := hB.out.size
        replace hp3 := Keep.mk hp3
        clear b3 hb hB hv9
        go_upto_region 18 with fail
        go_wp2
        generalize wr.heap.size = P at *
        generalize wr.alloc (.cells #[.int .i64 0, .int .i64 0, .int .u64 0, .int .i64 0] 32 (0, 0)) = w4 at *
        have hBlt : Keep (B < P) := Keep.mk hB9
        go_loopw [8] (fun v8 wr => ∃ (n : Nat) (v' : Value) (es' : List Ent) (pr : Ent), v8 = .int .i64 (n : Int) ∧ QAt wr W.heap.size q l m v' es' ∧ (∀ x ∈ es', x ∈ es) ∧ es'.length + n = es.length ∧ wr.heap[P]? = some (.cells pr.cells 32 (0, 0)) ∧ (0 < n → ∀ z ∈ es', lt pr z = true) ∧ v'.ownBlock ≠ some P ∧ wr.ownsMap Try.prog 32 (plainElem Try.prog 4) B es.length D ∧ Below W.heap.size W wr) (fun v8 _ => es.length + 1 - (intOf v8).toNat)
        case atStart => exact ⟨0, v, es, _, rfl, hb3.out.queue, fun _ h => h, rfl, hp3.out, fun h => absurd h (Nat.lt_irrefl 0), hv9', hb3.out.last, hB3.out⟩
        case round =>
          clear hp3 hB3 hv9'
          obtain ⟨n, v', es', pr, rfl, hQ, hsub, hcnt, hpr, hfirst, hvP, hown, hB⟩ := hrel
          have hX := Keep.mk (Try.Next_walk hQ (by omega) 9223372036854775807)
          obtain ⟨hqB, hlB, hvB⟩ := hb3.out.apart
          replace hQ := Keep.mk hQ
          replace hsub := Keep.mk hsub
          replace hpr := Keep.mk hpr
          replace hfirst := Keep.mk hfirst
          replace hown := Keep.mk hown
          replace hB := Keep.mk hB
          go_wp2_with (go_at_call 11; refine hX.out.mono ?_)
          rintro x w5 ⟨e, b, v5, es5, rfl, hQ5, hT5, hy, hno⟩
          have hB5 := hB.out.trans (hQ.out.keeps hT5 (Nat.le_refl _) hB.out.size)
          have hpr5 : w5.heap[P]? = some (.cells pr.cells 32 (0, 0)) := by rw [hT5.block P (lt_of_block hpr.out) (by omega) (by omega) hvP]; exact hpr.out
          have hvB' : v'.ownBlock ≠ some B := fun q0 => by
            obtain ⟨es1, ck, hb', _⟩ := hown.out
            rcases hQ.out.heap.at_.row.2 with ⟨r, _⟩ | ⟨g, c, cur, r, _, hg, _⟩
            · rw [r] at q0; cases q0
            · rw [r] at q0; cases q0; rw [hb'] at hg; cases hg
          have hown5 : w5.ownsMap Try.prog 32 (plainElem Try.prog 4) B es.length D := by
            obtain ⟨es1, ck, hb', rest⟩ := hown.out
            exact ⟨es1, ck, by rw [hT5.block B (lt_of_block hb') (Ne.symm hlB) (Ne.symm hb3.out.hm) hvB']; exact hb', rest⟩
          have hv5 : v5.ownBlock ≠ some P := fun q0 => by
            rcases hT5.own P q0 with r | r
            · exact hvP r
            · have := lt_of_block hpr.out
              omega
          have hpl5 := lt_of_block hpr5
          have b6 : Below w5.heap.size w5 (w5.alloc (.cells #[.int .i64 e.t, .int .i64 e.k, .int .u64 e.n, .int .i64 e.o] 32 (0, 0))) := (Below.refl _ _).alloc (Nat.le_refl _) _
          have hp6 : (w5.alloc (.cells #[.int .i64 e.t, .int .i64 e.k, .int .u64 e.n, .int .i64 e.o] 32 (0, 0))).heap[w5.heap.size]? = some (.cells #[.int .i64 e.t, .int .i64 e.k, .int .u64 e.n, .int .i64 e.o] 32 (0, 0)) := (MapKept.heap_alloc w5 _).1
          have hQ6 := hQ5.below b6
          have hB6 := hB5.trans (b6.mono hB5.size)
          have hpr6 : (w5.alloc (.cells #[.int .i64 e.t, .int .i64 e.k, .int .u64 e.n, .int .i64 e.o] 32 (0, 0))).heap[P]? = some (.cells pr.cells 32 (0, 0)) := by rw [Below.heap_alloc _ _ _ hpl5]; exact hpr5
          have hown6 := hown5.alloc (.cells #[.int .i64 e.t, .int .i64 e.k, .int .u64 e.n, .int .i64 e.o] 32 (0, 0))
          unfold Ent.val Ent.cells
          replace hQ6 := Keep.mk hQ6
          replace hB6 := Keep.mk hB6
          replace hpr6 := Keep.mk hpr6
          replace hown6 := Keep.mk hown6
          replace hp6 := Keep.mk hp6
          clear hX hQ5 hT5 hB5 hpr5 hown5 b6 hvB' hown hB hpr
          cases b with
          | false =>
            obtain ⟨he0, rfl, hz⟩ := hno rfl
            have hnil := all_late hQ.out.heap.at_.wf hz
            subst hnil
            have hn0 : n = es.length := by simpa using hcnt
            have hlen := hown6.out.len Try.underlying26 3
            rw [hb3.out.idx.size, ← hn0] at hlen
            have hQL := Keep.mk (Try.QLen_walk hQ6.out)
            replace he0 := Keep.mk he0
            clear hy hno hz
            go_upto_region 28 with fail
            generalize w5.alloc (.cells #[.int .i64 e.t, .int .i64 e.k, .int .u64 e.n, .int .i64 e.o] 32 (0, 0)) = w6 at *
            have hown6' := hown6.out
            have hsz : Maps.size D = n := by rw [hn0]; exact hb3.out.idx.size
            clear hlen
            go_wp2_with (first | (at_len; refine wpList_len_own _ rfl _ 26 rfl 32 4 Try.underlying26 (plainElem Try.prog 4) B es.length D rfl hown6' ?_; rw [hsz]) | (go_at_call 13; refine hQL.out.mono ?_; rintro x w7 ⟨rfl, rfl⟩) | go_in)
            go_ret
            exact ⟨rfl, hB6.out⟩
          | true =>
            obtain ⟨h1, h2, h3⟩ := hy rfl
            have hein : e ∈ es' := h2.mem_iff.1 (by simp)
            have hcnt' := h2.length_eq
            rw [List.length_cons] at hcnt'
            have hlook := look_set hown6.out hb3.out.idx (hQ.out.heap.at_.wf e hein) (hsub.out e hein)
            have hnext := next_first h2 hQ.out.heap.at_.nd h3
            have hsub' : ∀ x ∈ es5, x ∈ es := fun x hx => hsub.out x (h2.mem_iff.1 (by simp [hx]))
            unfold Ent.val Ent.cells at hlook
            replace hnext := Keep.mk hnext
            replace hsub' := Keep.mk hsub'
            clear hy hno h2 h3 hsub
            go_upto_region 22 with fail
            generalize w5.heap.size = P10 at *
            generalize w5.alloc (.cells #[.int .i64 e.t, .int .i64 e.k, .int .u64 e.n, .int .i64 e.o] 32 (0, 0)) = w6 at *
            have z0 : w6.cell? ⟨P10, 0, none⟩ = some (.int .i64 e.t) := by rw [Lib.cell_of_heap hp6.out]; rfl
            have z1 : w6.cell? ⟨P10, 1, none⟩ = some (.int .i64 e.k) := by rw [Lib.cell_of_heap hp6.out]; rfl
            have z2 : w6.cell? ⟨P10, 2, none⟩ = some (.int .u64 e.n) := by rw [Lib.cell_of_heap hp6.out]; rfl
            have z3 : w6.cell? ⟨P10, 3, none⟩ = some (.int .i64 e.o) := by rw [Lib.cell_of_heap hp6.out]; rfl
            have hfin : ∀ w7, Below w6.heap.size w6 w7 → QAt (setBox w7 P e) W.heap.size q l m v5 es5 ∧ (∀ x ∈ es5, x ∈ es) ∧ es5.length + (n + 1) = es.length ∧ (setBox w7 P e).heap[P]? = some (.cells e.cells 32 (0, 0)) ∧ (0 < n + 1 → ∀ z ∈ es5, lt e z = true) ∧ v5.ownBlock ≠ some P ∧ (setBox w7 P e).ownsMap Try.prog 32 (plainElem Try.prog 4) B es.length D ∧ Below W.heap.size W (setBox w7 P e) := fun w7 hb7 => by
              have hp7 : w7.heap[P]? = some (.cells pr.cells 32 (0, 0)) := by rw [hb7.block P (lt_of_block hpr6.out)]; exact hpr6.out
              have hA := setBox_aside w7 P e
              have hB7 := hB6.out.trans (hb7.mono hB6.out.size)
              have hB0 : B < P := hBlt.out
              refine ⟨(hQ6.out.below hb7).aside hA (by omega) (by omega) (by omega) hv5, hsub'.out, by omega, setBox_same hp7, fun _ => hnext.out, hv5, ?_, hA.below hB7 hB7.size hW9⟩
              obtain ⟨es1, ck, hb', rest⟩ := hown6.out
              have hb7' : w7.heap[B]? = some (.map es1 ck) := by rw [hb7.block B (lt_of_block hb')]; exact hb'
              exact ⟨es1, ck, by rw [hA.block B (lt_of_block hb7') (by omega)]; exact hb7', rest⟩
            replace hfin := Keep.mk hfin
            have p0 : w6.cell? ⟨P, 0, none⟩ = some (.int .i64 pr.t) := by rw [Lib.cell_of_heap hpr6.out]; rfl
            have p1 : w6.cell? ⟨P, 1, none⟩ = some (.int .i64 pr.k) := by rw [Lib.cell_of_heap hpr6.out]; rfl
            have p2 : w6.cell? ⟨P, 2, none⟩ = some (.int .u64 pr.n) := by rw [Lib.cell_of_heap hpr6.out]; rfl
            have p3 : w6.cell? ⟨P, 3, none⟩ = some (.int .i64 pr.o) := by rw [Lib.cell_of_heap hpr6.out]; rfl
            have hle : ¬ (xs.length : Int) < (n : Int) + 1 := by omega
            by_cases h0 : n = 0
            · subst h0
              have f0 := Lib.frozen_of_heap hpr6.out 0
              have f1 := Lib.frozen_of_heap hpr6.out 1
              have f2 := Lib.frozen_of_heap hpr6.out 2
              have f3 := Lib.frozen_of_heap hpr6.out 3
              clear hp6 hpr6 hown6 hQ6
              go_wp2
              go_roundw
              case rel =>
                have R := hfin.out w6 (Below.refl _ _)
                unfold setBox at R
                first
                  | exact ⟨0 + 1, v5, es5, e, by first | rfl | simp, R⟩
                  | ((repeat apply Exists.intro); exact ⟨⟨0 + 1, v5, es5, e, by first | rfl | simp, R⟩, rfl⟩)
              case measure =>
                first | (simp [intOf]; done) | (simp [intOf]; omega)
            · have hpos : (0 : Int) < (n : Int) := by omega
              have hlt0 := hfirst.out (by omega) e hein
              have hLs := Try.less_walk pr e w6
              rw [hlt0] at hLs
              unfold Ent.val Ent.cells at hLs
              replace hLs := Keep.mk hLs
              go_wp2_with (go_at_call 12; refine hLs.out.mono ?_)
              first | rintro x w7 rfl b7 | rintro x w7 ⟨rfl, b7⟩
              have hp7 : w7.heap[P]? = some (.cells pr.cells 32 (0, 0)) := by rw [b7.block P (lt_of_block hpr6.out)]; exact hpr6.out
              have hp10 : w7.heap[P10]? = some (.cells #[.int .i64 e.t, .int .i64 e.k, .int .u64 e.n, .int .i64 e.o] 32 (0, 0)) := by rw [b7.block P10 (lt_of_block hp6.out)]; exact hp6.out
              have y0 : w7.cell? ⟨P10, 0, none⟩ = some (.int .i64 e.t) := by rw [Lib.cell_of_heap hp10]; rfl
              have y1 : w7.cell? ⟨P10, 1, none⟩ = some (.int .i64 e.k) := by rw [Lib.cell_of_heap hp10]; rfl
              have y2 : w7.cell? ⟨P10, 2, none⟩ = some (.int .u64 e.n) := by rw [Lib.cell_of_heap hp10]; rfl
              have y3 : w7.cell? ⟨P10, 3, none⟩ = some (.int .i64 e.o) := by rw [Lib.cell_of_heap hp10]; rfl
              have q0 : w7.cell? ⟨P, 0, none⟩ = some (.int .i64 pr.t) := by rw [Lib.cell_of_heap hp7]; rfl
              have q1 : w7.cell? ⟨P, 1, none⟩ = some (.int .i64 pr.k) := by rw [Lib.cell_of_heap hp7]; rfl
              have q2 : w7.cell? ⟨P, 2, none⟩ = some (.int .u64 pr.n) := by rw [Lib.cell_of_heap hp7]; rfl
              have q3 : w7.cell? ⟨P, 3, none⟩ = some (.int .i64 pr.o) := by rw [Lib.cell_of_heap hp7]; rfl
              have f0 := Lib.frozen_of_heap hp7 0
              have f1 := Lib.frozen_of_heap hp7 1
              have f2 := Lib.frozen_of_heap hp7 2
              have f3 := Lib.frozen_of_heap hp7 3
              replace b7 := Keep.mk b7
              clear hp7 hp10 hLs hlook z0 z1 z2 z3 p0 p1 p2 p3
              go_wp2
              go_roundw
              case rel =>
                have R := hfin.out w7 b7.out
                have hc1 : ((n : Int) + 1 = ((n + 1 : Nat) : Int)) := by omega
                unfold setBox at R
                first
                  | exact ⟨n + 1, v5, es5, e, by rw [← hc1], R⟩
                  | ((repeat apply Exists.intro); exact ⟨⟨n + 1, v5, es5, e, by rw [← hc1], R⟩, rfl⟩)
              case measure =>
                simp [intOf]
                omega
  · have hn' : (60 : Int) < (xs.length : Int) := by omega
    clear hmm
    go_enter Try.func3, Try.ntmps3
    go_wp2_with (go_at_call 8; refine hH.out.mono ?_)
    first | rintro x w1 rfl B1 | rintro x w1 ⟨rfl, B1⟩
    replace B1 := Keep.mk B1
    clear hH
    go_wp2
    go_ret
    exact ⟨rfl, B1.out⟩
end Go.Proofs.Ytdohclfkbfeihaa
