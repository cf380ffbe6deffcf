/- ScriptForms: the law, walked. -/
import Derived.Test.YtcdpepaffpboeaaDoorScFormsP
namespace Go.Proofs.YtcdpepaffpboeaaDoor
open Go.RowKit Go.Shelf
theorem cat_eq {P : Program} (x y z : List UInt8) (h : z = x ++ y) (hl : x.length + y.length ≤ 1000) (w : World) : (Op.stringOp .add ⟨x.toArray⟩ ⟨y.toArray⟩).run P w = .ok (.string ⟨z.toArray⟩) w := by
  rw [h]
  exact add_lists x y (by omega) w
theorem wf_range {a : Int} (h : (Lit.int .i64 a).wf = true) : -9223372036854775808 ≤ a ∧ a ≤ 9223372036854775807 := by
  simp only [Lit.wf, Bool.and_eq_true, decide_eq_true_eq] at h
  exact h
theorem sameS_self (r : StepR) : sameS r r = true := by
  unfold sameS heads
  simp
theorem idx20 (which : Int) : ∃ i : Nat, i < 20 ∧ (IntKind.u64.wrap which).tmod 20 = (i : Int) := by
  have hu : IntKind.u64.wrap which = which % 18446744073709551616 := by rw [IntKind.wrap_u64]
  have h0 : 0 ≤ which % 18446744073709551616 := Int.emod_nonneg _ (by decide)
  refine ⟨((which % 18446744073709551616) % 20).toNat, by omega, ?_⟩
  rw [hu, Int.tmod_eq_emod_of_nonneg h0]
  omega
theorem app3 (a b c : List UInt8) : ((⟨a.toArray⟩ : ByteArray) ++ ⟨b.toArray⟩ ++ ⟨c.toArray⟩) = mkB (a ++ b ++ c) := by
  rw [ByteArray.mk_append_mk, ByteArray.mk_append_mk]
  rfl
theorem bads_cells (d : List UInt8) : (#[Value.string ⟨#[]⟩, .string ⟨#[32]⟩, .string ⟨#[116, 105, 99, 107]⟩, .string (⟨#[116, 105, 99, 107, 32]⟩ ++ ⟨d.toArray⟩ ++ ⟨#[32, 49]⟩), .string ⟨#[116, 105, 99, 107, 32, 43, 49]⟩, .string ⟨#[116, 105, 99, 107, 32, 48, 49]⟩,
    .string ⟨#[116, 105, 99, 107, 32, 49, 32]⟩, .string (⟨#[84, 73, 67, 75, 32]⟩ ++ ⟨d.toArray⟩), .string (⟨#[99, 97, 108, 108, 32]⟩ ++ ⟨d.toArray⟩ ++ ⟨#[32, 49, 32, 49, 32, 98, 101, 103, 105, 110, 32, 45]⟩), .string (⟨#[99, 97, 108, 108, 32]⟩ ++ ⟨d.toArray⟩ ++ ⟨#[32, 49, 32, 49, 32, 115, 116, 97, 114, 116, 32, 45, 32, 45]⟩),
    .string (⟨#[99, 97, 108, 108, 32]⟩ ++ ⟨d.toArray⟩ ++ ⟨#[32, 49, 32, 49, 32, 112, 117, 116, 32, 97, 32, 45]⟩), .string (⟨#[99, 97, 108, 108, 32]⟩ ++ ⟨d.toArray⟩ ++ ⟨#[32, 49, 32, 49, 32, 112, 117, 116, 32, 54, 32, 45]⟩), .string (⟨#[99, 97, 108, 108, 32]⟩ ++ ⟨d.toArray⟩ ++ ⟨#[32, 49, 32, 49, 32, 112, 117, 116, 32, 54, 65, 32, 45]⟩),
    .string (⟨#[111, 110, 32]⟩ ++ ⟨d.toArray⟩ ++ ⟨#[32, 48, 32, 48]⟩), .string (⟨#[111, 110, 32]⟩ ++ ⟨d.toArray⟩ ++ ⟨#[32, 48, 32, 48, 32, 50]⟩), .string (⟨#[111, 110, 32]⟩ ++ ⟨d.toArray⟩ ++ ⟨#[32, 48, 32, 48, 32]⟩), .string (⟨#[102, 117, 115, 101, 32]⟩ ++ ⟨d.toArray⟩), .string ⟨#[100, 101, 108, 105, 118, 101, 114, 32, 120]⟩,
    .string ⟨#[111, 102, 102, 32, 49, 46, 48]⟩, .string ⟨#[100, 101, 108, 105, 118, 101, 114, 32, 57, 57, 57, 57, 57, 57, 57, 57, 57, 57, 57, 57, 57, 57, 57, 57, 57, 57, 57, 57]⟩]) = ((bads d).map fun l => Value.string (mkB l)).toArray := by
  simp only [bads, List.map_cons, List.map_nil, bad0, bad1, bad2, bad3, bad4, bad5, bad6, bad7, bad8, bad9, bad10, bad11, bad12, bad13, bad14, bad15, bad16, bad17, bad18, bad19]
  repeat rw [show ∀ (a b c : List UInt8), ((⟨a.toArray⟩ : ByteArray) ++ ⟨b.toArray⟩ ++ ⟨c.toArray⟩) = mkB (a ++ b ++ c) from app3]
  simp [mkB, ByteArray.mk_append_mk]
theorem bads_length (d : List UInt8) (i : Nat) (h : i < 20) : ((bads d).getD i []).length ≤ d.length + 50 := by
  match i, h with
  | 0, _ => show (bad0 d).length ≤ _; simp [bad0]; try omega
  | 1, _ => show (bad1 d).length ≤ _; simp [bad1]; try omega
  | 2, _ => show (bad2 d).length ≤ _; simp [bad2]; try omega
  | 3, _ => show (bad3 d).length ≤ _; simp [bad3]; try omega
  | 4, _ => show (bad4 d).length ≤ _; simp [bad4]; try omega
  | 5, _ => show (bad5 d).length ≤ _; simp [bad5]; try omega
  | 6, _ => show (bad6 d).length ≤ _; simp [bad6]; try omega
  | 7, _ => show (bad7 d).length ≤ _; simp [bad7]; try omega
  | 8, _ => show (bad8 d).length ≤ _; simp [bad8]; try omega
  | 9, _ => show (bad9 d).length ≤ _; simp [bad9]; try omega
  | 10, _ => show (bad10 d).length ≤ _; simp [bad10]; try omega
  | 11, _ => show (bad11 d).length ≤ _; simp [bad11]; try omega
  | 12, _ => show (bad12 d).length ≤ _; simp [bad12]; try omega
  | 13, _ => show (bad13 d).length ≤ _; simp [bad13]; try omega
  | 14, _ => show (bad14 d).length ≤ _; simp [bad14]; try omega
  | 15, _ => show (bad15 d).length ≤ _; simp [bad15]; try omega
  | 16, _ => show (bad16 d).length ≤ _; simp [bad16]; try omega
  | 17, _ => show (bad17 d).length ≤ _; simp [bad17]; try omega
  | 18, _ => show (bad18 d).length ≤ _; simp [bad18]; try omega
  | 19, _ => show (bad19 d).length ≤ _; simp [bad19]; try omega
  | i + 20, h => exact absurd h (by omega)
set_option maxHeartbeats 8000000 in
set_option maxRecDepth 1000000 in
theorem Tryd.Forms_walk (which n : Int) (w : World) (hS : SV w) (h0 : -9223372036854775808 ≤ n) (h1 : n ≤ 9223372036854775807)
    (hH : Calls Tryd.prog 8 #[] w fun e w' => e = .returned (.bool true) ∧ Below w.heap.size w w') :
    Calls Tryd.prog 6 #[.int .i64 which, .int .i64 n] w fun e w' => e = .returned (.bool true) ∧ Below w.heap.size w w' := by
  go_enter Tryd.func6, Tryd.ntmps6
  go_wp2_with (go_at_call 8; refine hH.mono ?_)
  rintro e w1 ⟨rfl, b1⟩
  have S1 := hS.below b1
  have p1 := S1.pow
  go_wp2_with (go_at_call 18; refine (Tryd.Itoa n h0 h1 w1 p1).mono ?_)
  rintro e w2 ⟨rfl, b2⟩
  have S2 := S1.below b2
  have hB2 := below_next b1 b2
  have hd32 : (32 : UInt8) ∉ Lib.itoa n := itoa_free n 32 (by decide)
  have hd10 : (10 : UInt8) ∉ Lib.itoa n := itoa_free n 10 (by decide)
  have hnum := numOk_itoa n h0 h1
  have hdl := itoa_length n h0 h1
  clear p1 S1 hS b1 b2 hH
  generalize Lib.itoa n = d at *
  replace hd32 := Keep.mk hd32
  replace hd10 := Keep.mk hd10
  replace hnum := Keep.mk hnum
  obtain ⟨i, hi20, hidx⟩ := idx20 which
  go_upto_region 5 with fail
  rw [bads_cells d]
  have hgl := heap_alloc_new w2 (.cells (((bads d).map fun l => Value.string (mkB l)).toArray) 9 (0, 0))
  have hb3 : Below w2.heap.size w2 (w2.alloc (.cells (((bads d).map fun l => Value.string (mkB l)).toArray) 9 (0, 0))) := (Below.refl _ w2).alloc (Nat.le_refl _) _
  have S3 := S2.below hb3
  have hB3 := below_next hB2 hb3
  clear hb3 S2 hB2
  generalize w2.alloc (.cells (((bads d).map fun l => Value.string (mkB l)).toArray) 9 (0, 0)) = w3 at *
  generalize w2.heap.size = g at *
  obtain ⟨x, hx⟩ : ∃ x, x = (bads d).getD i [] := ⟨_, rfl⟩
  have hci : w3.cell? ⟨g, i, none⟩ = some (.string (mkB x)) := by
    rw [Lib.cell_of_heap hgl, hx]
    have hbl : (bads d).length = 20 := rfl
    simp [List.getD, List.getElem?_eq_getElem (show i < (bads d).length by omega)]
  have hxno : stepS (mkB x) = none := by rw [hx]; exact bads_none d hd32.out hnum.out i hi20
  have hxf : (10 : UInt8) ∉ x := by rw [hx]; exact bads_free d hd10.out i hi20
  have hxl : x.length ≤ 100 := by rw [hx]; exact Nat.le_trans (bads_length d i hi20) (by omega)
  replace hxf := Keep.mk hxf
  have hW := Keep.mk (Tryd.Step_walk (mkB x) w3 S3 (by show x.length ≤ _; omega))
  rw [hxno] at hW
  replace hxno := Keep.mk hxno
  clear hx hgl
  go_wp2_with (go_at_call 9; refine hW.out.mono ?_)
  rintro e w4 ⟨v4, c4, rfl, hc4, ⟨k4, rfl, hk4⟩, b4⟩
  subst hc4
  obtain ⟨a4, l4, rfl⟩ := own_slice hk4
  simp only [Option.getD_none, StepR.zero, StepR.cells, Option.isSome_none]
  go_upto_region 6 with fail
  have hgl3 : g < w3.heap.size := lt_of_cell hci
  have hci4 : w4.cell? ⟨g, i, none⟩ = some (.string (mkB x)) := by rw [b4.cell (p := ⟨g, i, none⟩) hgl3]; exact hci
  have S4 := S3.below b4
  have hB4 := below_next hB3 b4
  have hq5 := heap_alloc_new w4 (.cells #[.int .i64 0, .int .i64 0, .int .i64 0, .int .i64 0, .int .i64 0, .string ⟨#[]⟩, .string ⟨#[]⟩, .int .i64 0, .int .i64 0, .slice a4 0 l4, .int .i64 0] 27 (0, 0))
  have b5 : Below w4.heap.size w4 (w4.alloc (.cells #[.int .i64 0, .int .i64 0, .int .i64 0, .int .i64 0, .int .i64 0, .string ⟨#[]⟩, .string ⟨#[]⟩, .int .i64 0, .int .i64 0, .slice a4 0 l4, .int .i64 0] 27 (0, 0))) := (Below.refl _ w4).alloc (Nat.le_refl _) _
  generalize w4.alloc (.cells #[.int .i64 0, .int .i64 0, .int .i64 0, .int .i64 0, .int .i64 0, .string ⟨#[]⟩, .string ⟨#[]⟩, .int .i64 0, .int .i64 0, .slice a4 0 l4, .int .i64 0] 27 (0, 0)) = w5 at *
  have hci5 : w5.cell? ⟨g, i, none⟩ = some (.string (mkB x)) := by rw [b5.cell (p := ⟨g, i, none⟩) (lt_of_cell hci4)]; exact hci4
  have S5 := S4.below b5
  have hB5 := below_next hB4 b5
  have hk5 := ownsRow_below hk4 b5
  clear b5 hci4 S4 hB4 hk4 hci S3 hB3 b4 hgl3 hW
  generalize w4.heap.size = q at *
  clear w4
  generalize w3.heap.size = base at *
  clear w3
  have e_off : ((⟨#[111, 102, 102, 32]⟩ : ByteArray) ++ ⟨d.toArray⟩) = mkB (offT d) := by
    rw [show (⟨#[111, 102, 102, 32]⟩ : ByteArray) = ⟨([111, 102, 102, 32] : List UInt8).toArray⟩ from rfl, ByteArray.mk_append_mk]
    rfl
  have hoff := off_some d hd32.out hnum.out
  have hW := Keep.mk (Tryd.Step_walk (mkB (offT d)) w5 S5 (by show (offT d).length ≤ _; simp [offT]; omega))
  rw [hoff] at hW
  replace e_off := Keep.mk e_off
  replace hoff := Keep.mk hoff
  go_wp2_with (go_at_call 9; (try rw [e_off.out]); refine hW.out.mono ?_)
  rintro e w6 ⟨v6, c6, rfl, hc6, ⟨k6, rfl, hk6⟩, b6⟩
  subst hc6
  obtain ⟨a6, l6, rfl⟩ := own_slice hk6
  simp only [Option.getD_some, StepR.cells, Option.isSome_some]
  go_upto_region 7 with fail
  have hci6 : w6.cell? ⟨g, i, none⟩ = some (.string (mkB x)) := by rw [b6.cell (p := ⟨g, i, none⟩) (lt_of_cell hci5)]; exact hci5
  have hq6 := (b6.block q (lt_of_block hq5)).trans hq5
  have S6 := S5.below b6
  have hB6 := below_next hB5 b6
  have hk6' := ownsRow_below hk5 b6
  clear hci5 hq5 S5 hB5 hk5 hW hk6
  have hr7 := heap_alloc_new w6 (.cells #[.int .i64 8, .int .i64 n, .int .i64 0, .int .i64 0, .int .i64 0, .string ⟨#[]⟩, .string ⟨#[]⟩, .int .i64 0, .int .i64 0, .slice a6 0 l6, .int .i64 0] 27 (0, 0))
  have b7 : Below w6.heap.size w6 (w6.alloc (.cells #[.int .i64 8, .int .i64 n, .int .i64 0, .int .i64 0, .int .i64 0, .string ⟨#[]⟩, .string ⟨#[]⟩, .int .i64 0, .int .i64 0, .slice a6 0 l6, .int .i64 0] 27 (0, 0))) := (Below.refl _ w6).alloc (Nat.le_refl _) _
  generalize w6.alloc (.cells #[.int .i64 8, .int .i64 n, .int .i64 0, .int .i64 0, .int .i64 0, .string ⟨#[]⟩, .string ⟨#[]⟩, .int .i64 0, .int .i64 0, .slice a6 0 l6, .int .i64 0] 27 (0, 0)) = w7 at *
  have hci7 : w7.cell? ⟨g, i, none⟩ = some (.string (mkB x)) := by rw [b7.cell (p := ⟨g, i, none⟩) (lt_of_cell hci6)]; exact hci6
  have hq7 := (b7.block q (lt_of_block hq6)).trans hq6
  have S7 := S6.below b7
  have hB7 := below_next hB6 b7
  have hk7 := ownsRow_below hk6' b7
  clear hci6 hq6 S6 hB6 hk6' b6 b7
  generalize w6.heap.size = r at *
  clear w6 w5
  have hxs : (mkB x).size ≤ 100 := hxl
  have e_par : ((⟨#[111, 102, 102, 32]⟩ : ByteArray) ++ ⟨d.toArray⟩ ++ ⟨#[10]⟩ ++ mkB x ++ ⟨#[10]⟩) = mkB (offT d ++ 10 :: (x ++ 10 :: [])) := by
    rw [e_off.out]
    show ((⟨(offT d).toArray⟩ : ByteArray) ++ ⟨([10] : List UInt8).toArray⟩ ++ ⟨x.toArray⟩ ++ ⟨([10] : List UInt8).toArray⟩) = _
    rw [ByteArray.mk_append_mk, ByteArray.mk_append_mk, ByteArray.mk_append_mk]
    simp [mkB]
  have hpn := parse_none (offT d) x (by simp [offT, hd10.out]) hxf.out hxno.out
  have hP := Tryd.Parse_walk (mkB (offT d ++ 10 :: (x ++ 10 :: []))) w7 S7 (by show (offT d ++ 10 :: (x ++ 10 :: [])).length ≤ _; simp [offT]; omega)
  rw [hpn] at hP
  replace hP := Keep.mk hP
  replace e_par := Keep.mk e_par
  replace hpn := Keep.mk hpn
  go_wp2_with (go_at_call 17; (try rw [e_par.out]); refine hP.out.mono ?_)
  rintro e w8 ⟨v8, c8, rfl, hc8, _, b8⟩
  have hc8 : c8 = 2 := hc8
  subst hc8
  have hq8 := (b8.block q (lt_of_block hq7)).trans hq7
  have hr8 := (b8.block r (lt_of_block hr7)).trans hr7
  have hB8 := below_next hB7 b8
  have hk8 := ownsRow_below hk7 b8
  have hqc : ∀ j, w8.cell? ⟨q, j, none⟩ = _ := fun j => Lib.cell_of_heap hq8 j
  have hrc : ∀ j, w8.cell? ⟨r, j, none⟩ = _ := fun j => Lib.cell_of_heap hr8 j
  have hSm := Keep.mk (Tryd.Same_walk StepR.zero StepR.zero _ _ w8 base 0 ⟨_, rfl, hk8⟩ ⟨.slice none 0 0, rfl, World.ownsRow_nil _ _ _ _⟩)
  clear hq7 hr7 hB7 hk7 hk8 hP S7 hci7 b8
  go_wp2_with (go_at_call 10; refine hSm.out.mono ?_)
  rintro e w9 ⟨rfl, b9⟩
  rw [sameS_self StepR.zero]
  have hr9 := (b9.block r (lt_of_block hr8)).trans hr8
  have hB9 := below_next hB8 b9
  have hrc9 : ∀ j, w9.cell? ⟨r, j, none⟩ = _ := fun j => Lib.cell_of_heap hr9 j
  clear hqc hrc hq8 hr8 hr9 hSm hB8 b9
  go_wp2
  go_ret
  exact ⟨rfl, hB9⟩
end Go.Proofs.YtcdpepaffpboeaaDoor
