/- DueTimes, walked. -/
import Derived.Test.YtdohclfkbfeihaaDqHead
namespace Go.Proofs.Ytdohclfkbfeihaa
open Go.RowKit Go.Maps
/-- Entries that came in. -/
def ListIn (w : World) (o : Option Addr) (xs : List Ent) : Prop := ∀ (i : Nat) (e : Ent), xs[i]? = some e → ∃ g off, o = some ⟨g, off, none⟩ ∧ e.wf ∧ w.cell? ⟨g, off + i * 4, none⟩ = some (.int .i64 e.t) ∧ w.cell? ⟨g, off + i * 4 + 1, none⟩ = some (.int .i64 e.k) ∧ w.cell? ⟨g, off + i * 4 + 2, none⟩ = some (.int .u64 e.n) ∧ w.cell? ⟨g, off + i * 4 + 3, none⟩ = some (.int .i64 e.o)
theorem SetEnd.length {base q l m : Nat} {v : Value} {es : List Ent} {y : Ent} {w : World} {x : Ending} {w' : World} (h : SetEnd base q l m v es y w x w') : ∃ v' es', x = .returned (.tuple #[]) ∧ QAt w' base q l m v' es' ∧ Turn l m v v' w w' ∧ es'.length ≤ es.length + 1 := by
  obtain ⟨v', es', hx, hQ, hT, ⟨e, he, _, r, h1, h2⟩ | ⟨_, hP⟩⟩ := h
  · refine ⟨v', es', hx, hQ, hT, ?_⟩
    have a1 := h1.length_eq
    have a2 := h2.length_eq
    simp only [List.length_cons] at a1 a2
    omega
  · exact ⟨v', es', hx, hQ, hT, by rw [hP.length_eq]; simp⟩
set_option maxHeartbeats 4000000 in
set_option maxRecDepth 1000000 in
theorem Try.Times_walk (o : Option Addr) (c : Nat) (xs : List Ent) (now : Int) (W : World) (hin : ListIn W o xs) :
    Calls Try.prog 4 #[.slice o xs.length c, .int .i64 now] W fun x w' => x = .returned (.bool true) ∧ Below W.heap.size W w' := by
  have hH := Keep.mk (Try.head_walk W)
  replace hin := Keep.mk hin
  by_cases hn : xs.length ≤ 40
  · have hn' : ¬ (40 : Int) < (xs.length : Int) := by omega
    go_enter Try.func4, Try.ntmps4
    go_wp2_with (go_at_call 8; refine hH.out.mono ?_)
    first | rintro x w1 rfl B1 | rintro x w1 ⟨rfl, B1⟩
    have hN := Keep.mk (Try.New_walk w1 W.heap.size B1.size)
    replace B1 := Keep.mk B1
    clear hH
    go_wp2_with (go_at_call 9; refine hN.out.mono ?_)
    rintro x w2 ⟨q, l, m, v, rfl, hQ2, hB2⟩
    have B2 := Keep.mk (B1.out.trans (hB2.mono B1.out.size))
    replace hQ2 := Keep.mk hQ2
    clear hN hB2 B1
    go_upto_region 6 with fail
    go_wp2
    go_loopw [23] (fun v23 wr => ∃ (k : Nat) (v : Value) (es : List Ent), v23 = .int .i64 (k : Int) ∧ k ≤ xs.length ∧ QAt wr W.heap.size q l m v es ∧ Below W.heap.size W wr ∧ es.length ≤ k) (fun v23 _ => xs.length - (intOf v23).toNat)
    case atStart => exact ⟨0, v, [], rfl, Nat.zero_le _, hQ2.out, B2.out, Nat.le_refl _⟩
    case round =>
      clear hQ2 B2
      obtain ⟨k, v, es, rfl, hk, hQ, hB, hl⟩ := hrel
      replace hQ := Keep.mk hQ
      replace hB := Keep.mk hB
      by_cases hp : k < xs.length
      · obtain ⟨y, hy⟩ : ∃ y, xs[k]? = some y := ⟨_, List.getElem?_eq_getElem hp⟩
        obtain ⟨g, off, rfl, wy, y0, y1, y2, y3⟩ := hin.out k y hy
        have hlt := lt_of_cell y0
        rw [← hB.out.cell (p := ⟨g, off + k * 4, none⟩) hlt] at y0
        rw [← hB.out.cell (p := ⟨g, off + k * 4 + 1, none⟩) hlt] at y1
        rw [← hB.out.cell (p := ⟨g, off + k * 4 + 2, none⟩) hlt] at y2
        rw [← hB.out.cell (p := ⟨g, off + k * 4 + 3, none⟩) hlt] at y3
        replace hy := Keep.mk hy
        replace wy := Keep.mk wy
        have ix1 : (0 : Int) ≤ (k : Int) := by omega
        have ix2 : (k : Int) < (xs.length : Int) := by omega
        have hs := hB.out.size
        have b3 : Below wr.heap.size wr (wr.alloc (.cells #[.int .i64 y.t, .int .i64 y.k, .int .u64 y.n, .int .i64 y.o] 32 (0, 0))) := (Below.refl _ _).alloc (Nat.le_refl _) _
        have hQ3 := hQ.out.below b3
        have hB3 := hB.out.trans (b3.mono hs)
        have hS := Try.Set_walk hQ3 (by omega) hB3.size wy.out
        unfold TidV at hS
        replace hS := Keep.mk hS
        replace hQ3 := Keep.mk hQ3
        replace hB3 := Keep.mk hB3
        clear b3 hQ hB
        go_wp2_with (go_at_call 10; refine hS.out.mono ?_)
        rintro x w4 hE
        obtain ⟨v4, es4, rfl, hQ4, hT4, hl4⟩ := hE.length
        have hB4 := Keep.mk (hB3.out.trans (hQ3.out.keeps hT4 (Nat.le_refl _) hB3.out.size))
        replace hQ4 := Keep.mk hQ4
        clear hS hE hT4 hQ3 hB3 y0 y1 y2 y3
        go_wp2
        go_roundw
        case rel =>
          have R : ((k : Int) + 1 = ((k + 1 : Nat) : Int)) ∧ k + 1 ≤ xs.length ∧ QAt w4 W.heap.size q l m v4 es4 ∧ Below W.heap.size W w4 ∧ es4.length ≤ k + 1 := ⟨by omega, by omega, hQ4.out, hB4.out, by omega⟩
          first
            | exact ⟨k + 1, v4, es4, by rw [← R.1], R.2⟩
            | ((repeat apply Exists.intro); exact ⟨⟨k + 1, v4, es4, by rw [← R.1], R.2⟩, rfl⟩)
        case measure =>
          simp [intOf]
          omega
      · go_upto_region 11 with fail
        go_wp2
        go_loopw [8] (fun v8 wr => ∃ (k : Nat) (v : Value) (es : List Ent), v8 = .int .i64 (k : Int) ∧ QAt wr W.heap.size q l m v es ∧ Below W.heap.size W wr ∧ es.length + k ≤ xs.length) (fun v8 _ => xs.length + 1 - (intOf v8).toNat)
        case atStart => exact ⟨0, v, es, rfl, hQ.out, hB.out, by omega⟩
        case round =>
          clear hQ hB hl
          obtain ⟨k, v, es, rfl, hQ, hB, hl⟩ := hrel
          have ix : (k : Int) ≤ (xs.length : Int) := by omega
          have hX := Keep.mk (Try.Next_walk hQ (by omega) now)
          replace hQ := Keep.mk hQ
          replace hB := Keep.mk hB
          go_wp2_with (go_at_call 11; refine hX.out.mono ?_)
          rintro x w4 ⟨e, b, v4, es4, rfl, hQ4, hT4, hy, hno⟩
          have hB4 := hB.out.trans (hQ.out.keeps hT4 (Nat.le_refl _) hB.out.size)
          have b5 : Below w4.heap.size w4 (w4.alloc (.cells #[.int .i64 e.t, .int .i64 e.k, .int .u64 e.n, .int .i64 e.o] 32 (0, 0))) := (Below.refl _ _).alloc (Nat.le_refl _) _
          have hQ5 := Keep.mk (hQ4.below b5)
          have hB5 := Keep.mk (hB4.trans (b5.mono hB4.size))
          clear hX hQ4 hT4 hB4 b5 hQ hB
          unfold Ent.val Ent.cells
          cases b with
          | true =>
            obtain ⟨h1, h2, _⟩ := hy rfl
            have hlen := h2.length_eq
            rw [List.length_cons] at hlen
            have h1' : ¬ now < e.t := by omega
            clear hno h2 hy
            go_wp2
            go_roundw
            case rel =>
              have R : ((k : Int) + 1 = ((k + 1 : Nat) : Int)) ∧ QAt (w4.alloc (.cells #[.int .i64 e.t, .int .i64 e.k, .int .u64 e.n, .int .i64 e.o] 32 (0, 0))) W.heap.size q l m v4 es4 ∧ Below W.heap.size W (w4.alloc (.cells #[.int .i64 e.t, .int .i64 e.k, .int .u64 e.n, .int .i64 e.o] 32 (0, 0))) ∧ es4.length + (k + 1) ≤ xs.length := ⟨by omega, hQ5.out, hB5.out, by omega⟩
              first
                | exact ⟨k + 1, v4, es4, by rw [← R.1], R.2⟩
                | ((repeat apply Exists.intro); exact ⟨⟨k + 1, v4, es4, by rw [← R.1], R.2⟩, rfl⟩)
            case measure =>
              simp [intOf]
              omega
          | false =>
            obtain ⟨he0, rfl, hz⟩ := hno rfl
            replace he0 := Keep.mk he0
            replace hz := Keep.mk hz
            clear hy hno
            go_upto_region 18 with fail
            generalize w4.alloc (.cells #[.int .i64 e.t, .int .i64 e.k, .int .u64 e.n, .int .i64 e.o] 32 (0, 0)) = w5 at *
            go_wp2
            go_loopw [56] (fun v56 wr => ∃ (k : Nat), v56 = .int .i64 (k : Int) ∧ k ≤ xs.length ∧ QAt wr W.heap.size q l m v4 es4 ∧ Below W.heap.size W wr) (fun v56 _ => xs.length - (intOf v56).toNat)
            case atStart => exact ⟨0, rfl, Nat.zero_le _, hQ5.out, hB5.out⟩
            case round =>
              clear hQ5 hB5
              obtain ⟨j, rfl, hj, hQ, hB⟩ := hrel
              replace hQ := Keep.mk hQ
              replace hB := Keep.mk hB
              by_cases hp : j < xs.length
              · obtain ⟨y, hy⟩ : ∃ y, xs[j]? = some y := ⟨_, List.getElem?_eq_getElem hp⟩
                obtain ⟨g, off, rfl, wy, y0, y1, y2, y3⟩ := hin.out j y hy
                have hlt := lt_of_cell y0
                rw [← hB.out.cell (p := ⟨g, off + j * 4, none⟩) hlt] at y0
                rw [← hB.out.cell (p := ⟨g, off + j * 4 + 1, none⟩) hlt] at y1
                rw [← hB.out.cell (p := ⟨g, off + j * 4 + 2, none⟩) hlt] at y2
                rw [← hB.out.cell (p := ⟨g, off + j * 4 + 3, none⟩) hlt] at y3
                replace hy := Keep.mk hy
                replace wy := Keep.mk wy
                have ix1 : (0 : Int) ≤ (j : Int) := by omega
                have ix2 : (j : Int) < (xs.length : Int) := by omega
                have hs := hB.out.size
                have b3 : Below wr.heap.size wr (wr.alloc (.cells #[.int .i64 y.t, .int .i64 y.k, .int .u64 y.n, .int .i64 y.o] 32 (0, 0))) := (Below.refl _ _).alloc (Nat.le_refl _) _
                have hQ3 := hQ.out.below b3
                have hB3 := hB.out.trans (b3.mono hs)
                have hS := Try.When_walk hQ3 (by omega) wy.out
                unfold TidV at hS
                replace hS := Keep.mk hS
                replace hQ3 := Keep.mk hQ3
                replace hB3 := Keep.mk hB3
                clear b3 hQ hB
                go_wp2_with (go_at_call 14; refine hS.out.mono ?_)
                rintro x w6 ⟨t, b, rfl, hyes, hno, b6⟩
                have hQ6 := Keep.mk (hQ3.out.below b6)
                have hB6 := Keep.mk (hB3.out.trans (b6.mono hB3.out.size))
                clear hS b6 hQ3 hB3 y0 y1 y2 y3
                cases b with
                | true =>
                  obtain ⟨z, hz1, _, rfl⟩ := hyes rfl
                  have hlate := hz.out z hz1
                  have hlate' : ¬ z.t ≤ now := by omega
                  clear hyes hno hz1
                  go_wp2
                  go_roundw
                  case rel =>
                    have R : ((j : Int) + 1 = ((j + 1 : Nat) : Int)) ∧ j + 1 ≤ xs.length ∧ QAt w6 W.heap.size q l m v4 es4 ∧ Below W.heap.size W w6 := ⟨by omega, by omega, hQ6.out, hB6.out⟩
                    first
                      | exact ⟨j + 1, by rw [← R.1], R.2⟩
                      | ((repeat apply Exists.intro); exact ⟨⟨j + 1, by rw [← R.1], R.2⟩, rfl⟩)
                  case measure =>
                    simp [intOf]
                    omega
                | false =>
                  clear hyes hno
                  go_wp2
                  go_roundw
                  case rel =>
                    have R : ((j : Int) + 1 = ((j + 1 : Nat) : Int)) ∧ j + 1 ≤ xs.length ∧ QAt w6 W.heap.size q l m v4 es4 ∧ Below W.heap.size W w6 := ⟨by omega, by omega, hQ6.out, hB6.out⟩
                    first
                      | exact ⟨j + 1, by rw [← R.1], R.2⟩
                      | ((repeat apply Exists.intro); exact ⟨⟨j + 1, by rw [← R.1], R.2⟩, rfl⟩)
                  case measure =>
                    simp [intOf]
                    omega
              · go_wp2
                go_ret
                exact ⟨rfl, hB.out⟩
  · have hn' : (40 : Int) < (xs.length : Int) := by omega
    go_enter Try.func4, Try.ntmps4
    go_wp2_with (go_at_call 8; refine hH.out.mono ?_)
    first | rintro x w1 rfl B1 | rintro x w1 ⟨rfl, B1⟩
    replace B1 := Keep.mk B1
    clear hH
    go_wp2
    go_ret
    exact ⟨rfl, B1.out⟩
end Go.Proofs.Ytdohclfkbfeihaa
