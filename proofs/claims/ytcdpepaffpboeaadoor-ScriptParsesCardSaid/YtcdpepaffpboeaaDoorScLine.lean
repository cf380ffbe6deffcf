/- the law's line, walked: printed by gen_line.py. -/
import Derived.Test.YtcdpepaffpboeaaDoorScOnly
import Derived.Test.YtcdpepaffpboeaaDoorScFormsP
import Derived.Test.YtcdpepaffpboeaaDoorScLaw
import Derived.Deep.RegionHeld3
namespace Go.Proofs.YtcdpepaffpboeaaDoor
open Go.RowKit Go.Shelf
/-- A blank and a number. -/
def spN (n : Int) : List UInt8 := 32 :: Lib.itoa n
theorem spN_length (n : Int) (h0 : -9223372036854775808 ≤ n) (h1 : n ≤ 9223372036854775807) : (spN n).length ≤ 22 := by
  have := itoa_length n h0 h1
  simp [spN]
  omega
set_option maxHeartbeats 2000000 in
set_option maxRecDepth 1000000 in
theorem Tryd.spn_walk (n : Int) (w : World) (h0 : -9223372036854775808 ≤ n) (h1 : n ≤ 9223372036854775807) (hp : Lib.TabIs Tryd.prog w "internal/strconv.uint64pow10" .u64 Lib.pow10Tab) :
    Calls Tryd.prog 25 #[.int .i64 n] w fun e w' => e = .returned (.string ⟨(spN n).toArray⟩) ∧ Below w.heap.size w w' := by
  have hl := itoa_length n h0 h1
  go_enter Tryd.func25, Tryd.ntmps25
  go_wp2_with (go_at_call 18; refine (Tryd.Itoa n h0 h1 w hp).mono ?_)
  rintro e w1 ⟨rfl, b1⟩
  clear hp
  go_wp2
  go_ret
  refine ⟨?_, b1⟩
  show Ending.returned (Value.string (⟨([32] : List UInt8).toArray⟩ ++ ⟨(Lib.itoa n).toArray⟩)) = _
  rw [ByteArray.mk_append_mk]
  rfl
/-- Numbers of a step fit. -/
structure Fits64 (r : StepR) : Prop where
  node : -9223372036854775808 ≤ r.node ∧ r.node ≤ 9223372036854775807
  sess : -9223372036854775808 ≤ r.sess ∧ r.sess ≤ 9223372036854775807
  req : -9223372036854775808 ≤ r.req ∧ r.req ≤ 9223372036854775807
  dest : -9223372036854775808 ≤ r.dest ∧ r.dest ≤ 9223372036854775807
  n : -9223372036854775808 ≤ r.n ∧ r.n ≤ 9223372036854775807
  tear : -9223372036854775808 ≤ r.tear ∧ r.tear ≤ 9223372036854775807
/-- Truths as ones and noughts. -/
def bitL (l : List Bool) : List UInt8 := l.map fun b => if b then 49 else 48
/-- None: a dash. -/
def bitD (l : List Bool) : List UInt8 := if l = [] then [45] else bitL l
def hexT (s : ByteArray) : List UInt8 := (hexS s).data.toList
/-- A step as a line. -/
def lineS (r : StepR) : Option (List UInt8) :=
  match r.kind with
  | 1 => if 1 ≤ r.ckind ∧ r.ckind ≤ 6 then some ([99, 97, 108, 108] ++ spN r.node ++ spN r.sess ++ spN r.req ++ [32] ++ callW.getD r.ckind.toNat [] ++ [32] ++ hexT r.key ++ [32] ++ hexT r.val) else none
  | 2 => some ([100, 101, 108, 105, 118, 101, 114] ++ spN r.dest)
  | 3 => some ([108, 111, 115, 101] ++ spN r.dest)
  | 4 => some ([116, 119, 105, 99, 101] ++ spN r.dest)
  | 5 => some ([115, 112, 111, 105, 108] ++ spN r.dest)
  | 6 => some ([116, 105, 99, 107] ++ spN r.node)
  | 7 => some ([102, 117, 115, 101] ++ spN r.node ++ spN r.n)
  | 8 => some ([111, 102, 102] ++ spN r.node)
  | 9 => some ([111, 110] ++ spN r.node ++ spN r.n ++ spN r.tear ++ [32] ++ bitD r.keep)
  | _ => none
set_option maxHeartbeats 8000000 in
set_option maxRecDepth 1000000 in
theorem Tryd.line_2 (r : StepR) (v : Value) (w : World) (hS : SVars w) (h : StepIn w r v) (hf : Fits64 r) (hk : r.kind = 2) :
    Calls Tryd.prog 11 #[v] w fun e w' => e = .returned (.tuple #[.string (mkB ((lineS r).getD [])), .bool (lineS r).isSome]) ∧ Below w.heap.size w w' := by
  have hspec : lineS r = some ([100, 101, 108, 105, 118, 101, 114] ++ spN r.dest) := by
    unfold lineS
    rw [hk]
    rfl
  replace hspec := Keep.mk hspec
  obtain ⟨a, c, rfl, own⟩ := h
  clear own
  simp only [StepR.cells]
  go_enter Tryd.func11, Tryd.ntmps11
  go_upto_region 9 with fail
  have hB0 : Below w.heap.size w ((w.alloc (.cells #[.int .i64 2, .int .i64 r.node, .int .i64 r.sess, .int .i64 r.req, .int .i64 r.ckind, .string r.key, .string r.val, .int .i64 r.dest, .int .i64 r.n, .slice a r.keep.length c, .int .i64 r.tear] 27 (0, 0))).alloc (.cells #[.string ⟨#[]⟩, .string ⟨#[98, 101, 103, 105, 110]⟩, .string ⟨#[103, 101, 116]⟩, .string ⟨#[112, 117, 116]⟩, .string ⟨#[100, 114, 111, 112]⟩, .string ⟨#[99, 111, 109, 109, 105, 116]⟩, .string ⟨#[97, 98, 111, 114, 116]⟩] 9 (0, 0))) := by go_grown
  have hA : ((w.alloc (.cells #[.int .i64 2, .int .i64 r.node, .int .i64 r.sess, .int .i64 r.req, .int .i64 r.ckind, .string r.key, .string r.val, .int .i64 r.dest, .int .i64 r.n, .slice a r.keep.length c, .int .i64 r.tear] 27 (0, 0))).alloc (.cells #[.string ⟨#[]⟩, .string ⟨#[98, 101, 103, 105, 110]⟩, .string ⟨#[103, 101, 116]⟩, .string ⟨#[112, 117, 116]⟩, .string ⟨#[100, 114, 111, 112]⟩, .string ⟨#[99, 111, 109, 109, 105, 116]⟩, .string ⟨#[97, 98, 111, 114, 116]⟩] 9 (0, 0))).heap[w.heap.size]? = some (.cells #[.int .i64 2, .int .i64 r.node, .int .i64 r.sess, .int .i64 r.req, .int .i64 r.ckind, .string r.key, .string r.val, .int .i64 r.dest, .int .i64 r.n, .slice a r.keep.length c, .int .i64 r.tear] 27 (0, 0)) := by
    rw [Below.heap_alloc _ _ _ (by simp)]
    exact heap_alloc_new w _
  generalize ((w.alloc (.cells #[.int .i64 2, .int .i64 r.node, .int .i64 r.sess, .int .i64 r.req, .int .i64 r.ckind, .string r.key, .string r.val, .int .i64 r.dest, .int .i64 r.n, .slice a r.keep.length c, .int .i64 r.tear] 27 (0, 0))).alloc (.cells #[.string ⟨#[]⟩, .string ⟨#[98, 101, 103, 105, 110]⟩, .string ⟨#[103, 101, 116]⟩, .string ⟨#[112, 117, 116]⟩, .string ⟨#[100, 114, 111, 112]⟩, .string ⟨#[99, 111, 109, 109, 105, 116]⟩, .string ⟨#[97, 98, 111, 114, 116]⟩] 9 (0, 0))) = W0 at *
  have S0 := hS.below hB0
  have hpow : ∀ w', Below W0.heap.size W0 w' → Lib.TabIs Tryd.prog w' "internal/strconv.uint64pow10" .u64 Lib.pow10Tab := fun w' hb => (S0.below hb).pow
  have c7 : W0.cell? ⟨w.heap.size, 7, none⟩ = some (.int .i64 r.dest) := by rw [Lib.cell_of_heap hA]; rfl
  have hlt := lt_of_cell c7
  have hb00 : Below W0.heap.size W0 W0.drew := (Below.refl _ _).drew
  clear hA hS S0
  have l7 := spN_length r.dest hf.dest.1 hf.dest.2
  have hnext : ∀ w' w'', Below W0.heap.size W0 w' → Below w'.heap.size w' w'' → (Below W0.heap.size W0 w'' ∧ w''.cell? ⟨w.heap.size, 7, none⟩ = some (.int .i64 r.dest)) := fun w' w'' h1 h2 => by
    have hb := below_next h1 h2
    exact ⟨hb, by rw [hb.cell (p := ⟨w.heap.size, 7, none⟩) hlt]; exact c7⟩
  have q1 : ¬9223372036854775807 < 7 + (spN r.dest).length := by omega
  clear l7
  go_wp2_with (go_at_call 25; refine (Tryd.spn_walk _ _ hf.dest.1 hf.dest.2 (hpow _ (by first | exact Below.refl _ _ | assumption | exact hb00))).mono ?_)
  rintro e w'' ⟨rfl, hb⟩
  have q := hnext _ _ (by first | exact Below.refl _ _ | exact hb00 | assumption) hb
  have hfin := q.1
  clear q hb hpow hnext hb00
  go_wp2
  go_ret2
  refine ⟨?_, below_next hB0 hfin⟩
  rw [hspec.out]
  simp only [ByteArray.mk_append_mk, List.append_toArray, mkB]
  rfl
set_option maxHeartbeats 8000000 in
set_option maxRecDepth 1000000 in
theorem Tryd.line_3 (r : StepR) (v : Value) (w : World) (hS : SVars w) (h : StepIn w r v) (hf : Fits64 r) (hk : r.kind = 3) :
    Calls Tryd.prog 11 #[v] w fun e w' => e = .returned (.tuple #[.string (mkB ((lineS r).getD [])), .bool (lineS r).isSome]) ∧ Below w.heap.size w w' := by
  have hspec : lineS r = some ([108, 111, 115, 101] ++ spN r.dest) := by
    unfold lineS
    rw [hk]
    rfl
  replace hspec := Keep.mk hspec
  obtain ⟨a, c, rfl, own⟩ := h
  clear own
  simp only [StepR.cells]
  go_enter Tryd.func11, Tryd.ntmps11
  go_upto_region 11 with fail
  have hB0 : Below w.heap.size w ((w.alloc (.cells #[.int .i64 3, .int .i64 r.node, .int .i64 r.sess, .int .i64 r.req, .int .i64 r.ckind, .string r.key, .string r.val, .int .i64 r.dest, .int .i64 r.n, .slice a r.keep.length c, .int .i64 r.tear] 27 (0, 0))).alloc (.cells #[.string ⟨#[]⟩, .string ⟨#[98, 101, 103, 105, 110]⟩, .string ⟨#[103, 101, 116]⟩, .string ⟨#[112, 117, 116]⟩, .string ⟨#[100, 114, 111, 112]⟩, .string ⟨#[99, 111, 109, 109, 105, 116]⟩, .string ⟨#[97, 98, 111, 114, 116]⟩] 9 (0, 0))) := by go_grown
  have hA : ((w.alloc (.cells #[.int .i64 3, .int .i64 r.node, .int .i64 r.sess, .int .i64 r.req, .int .i64 r.ckind, .string r.key, .string r.val, .int .i64 r.dest, .int .i64 r.n, .slice a r.keep.length c, .int .i64 r.tear] 27 (0, 0))).alloc (.cells #[.string ⟨#[]⟩, .string ⟨#[98, 101, 103, 105, 110]⟩, .string ⟨#[103, 101, 116]⟩, .string ⟨#[112, 117, 116]⟩, .string ⟨#[100, 114, 111, 112]⟩, .string ⟨#[99, 111, 109, 109, 105, 116]⟩, .string ⟨#[97, 98, 111, 114, 116]⟩] 9 (0, 0))).heap[w.heap.size]? = some (.cells #[.int .i64 3, .int .i64 r.node, .int .i64 r.sess, .int .i64 r.req, .int .i64 r.ckind, .string r.key, .string r.val, .int .i64 r.dest, .int .i64 r.n, .slice a r.keep.length c, .int .i64 r.tear] 27 (0, 0)) := by
    rw [Below.heap_alloc _ _ _ (by simp)]
    exact heap_alloc_new w _
  generalize ((w.alloc (.cells #[.int .i64 3, .int .i64 r.node, .int .i64 r.sess, .int .i64 r.req, .int .i64 r.ckind, .string r.key, .string r.val, .int .i64 r.dest, .int .i64 r.n, .slice a r.keep.length c, .int .i64 r.tear] 27 (0, 0))).alloc (.cells #[.string ⟨#[]⟩, .string ⟨#[98, 101, 103, 105, 110]⟩, .string ⟨#[103, 101, 116]⟩, .string ⟨#[112, 117, 116]⟩, .string ⟨#[100, 114, 111, 112]⟩, .string ⟨#[99, 111, 109, 109, 105, 116]⟩, .string ⟨#[97, 98, 111, 114, 116]⟩] 9 (0, 0))) = W0 at *
  have S0 := hS.below hB0
  have hpow : ∀ w', Below W0.heap.size W0 w' → Lib.TabIs Tryd.prog w' "internal/strconv.uint64pow10" .u64 Lib.pow10Tab := fun w' hb => (S0.below hb).pow
  have c7 : W0.cell? ⟨w.heap.size, 7, none⟩ = some (.int .i64 r.dest) := by rw [Lib.cell_of_heap hA]; rfl
  have hlt := lt_of_cell c7
  have hb00 : Below W0.heap.size W0 W0.drew := (Below.refl _ _).drew
  clear hA hS S0
  have l7 := spN_length r.dest hf.dest.1 hf.dest.2
  have hnext : ∀ w' w'', Below W0.heap.size W0 w' → Below w'.heap.size w' w'' → (Below W0.heap.size W0 w'' ∧ w''.cell? ⟨w.heap.size, 7, none⟩ = some (.int .i64 r.dest)) := fun w' w'' h1 h2 => by
    have hb := below_next h1 h2
    exact ⟨hb, by rw [hb.cell (p := ⟨w.heap.size, 7, none⟩) hlt]; exact c7⟩
  have q1 : ¬9223372036854775807 < 4 + (spN r.dest).length := by omega
  clear l7
  go_wp2_with (go_at_call 25; refine (Tryd.spn_walk _ _ hf.dest.1 hf.dest.2 (hpow _ (by first | exact Below.refl _ _ | assumption | exact hb00))).mono ?_)
  rintro e w'' ⟨rfl, hb⟩
  have q := hnext _ _ (by first | exact Below.refl _ _ | exact hb00 | assumption) hb
  have hfin := q.1
  clear q hb hpow hnext hb00
  go_wp2
  go_ret2
  refine ⟨?_, below_next hB0 hfin⟩
  rw [hspec.out]
  simp only [ByteArray.mk_append_mk, List.append_toArray, mkB]
  rfl
set_option maxHeartbeats 8000000 in
set_option maxRecDepth 1000000 in
theorem Tryd.line_4 (r : StepR) (v : Value) (w : World) (hS : SVars w) (h : StepIn w r v) (hf : Fits64 r) (hk : r.kind = 4) :
    Calls Tryd.prog 11 #[v] w fun e w' => e = .returned (.tuple #[.string (mkB ((lineS r).getD [])), .bool (lineS r).isSome]) ∧ Below w.heap.size w w' := by
  have hspec : lineS r = some ([116, 119, 105, 99, 101] ++ spN r.dest) := by
    unfold lineS
    rw [hk]
    rfl
  replace hspec := Keep.mk hspec
  obtain ⟨a, c, rfl, own⟩ := h
  clear own
  simp only [StepR.cells]
  go_enter Tryd.func11, Tryd.ntmps11
  go_upto_region 13 with fail
  have hB0 : Below w.heap.size w ((w.alloc (.cells #[.int .i64 4, .int .i64 r.node, .int .i64 r.sess, .int .i64 r.req, .int .i64 r.ckind, .string r.key, .string r.val, .int .i64 r.dest, .int .i64 r.n, .slice a r.keep.length c, .int .i64 r.tear] 27 (0, 0))).alloc (.cells #[.string ⟨#[]⟩, .string ⟨#[98, 101, 103, 105, 110]⟩, .string ⟨#[103, 101, 116]⟩, .string ⟨#[112, 117, 116]⟩, .string ⟨#[100, 114, 111, 112]⟩, .string ⟨#[99, 111, 109, 109, 105, 116]⟩, .string ⟨#[97, 98, 111, 114, 116]⟩] 9 (0, 0))) := by go_grown
  have hA : ((w.alloc (.cells #[.int .i64 4, .int .i64 r.node, .int .i64 r.sess, .int .i64 r.req, .int .i64 r.ckind, .string r.key, .string r.val, .int .i64 r.dest, .int .i64 r.n, .slice a r.keep.length c, .int .i64 r.tear] 27 (0, 0))).alloc (.cells #[.string ⟨#[]⟩, .string ⟨#[98, 101, 103, 105, 110]⟩, .string ⟨#[103, 101, 116]⟩, .string ⟨#[112, 117, 116]⟩, .string ⟨#[100, 114, 111, 112]⟩, .string ⟨#[99, 111, 109, 109, 105, 116]⟩, .string ⟨#[97, 98, 111, 114, 116]⟩] 9 (0, 0))).heap[w.heap.size]? = some (.cells #[.int .i64 4, .int .i64 r.node, .int .i64 r.sess, .int .i64 r.req, .int .i64 r.ckind, .string r.key, .string r.val, .int .i64 r.dest, .int .i64 r.n, .slice a r.keep.length c, .int .i64 r.tear] 27 (0, 0)) := by
    rw [Below.heap_alloc _ _ _ (by simp)]
    exact heap_alloc_new w _
  generalize ((w.alloc (.cells #[.int .i64 4, .int .i64 r.node, .int .i64 r.sess, .int .i64 r.req, .int .i64 r.ckind, .string r.key, .string r.val, .int .i64 r.dest, .int .i64 r.n, .slice a r.keep.length c, .int .i64 r.tear] 27 (0, 0))).alloc (.cells #[.string ⟨#[]⟩, .string ⟨#[98, 101, 103, 105, 110]⟩, .string ⟨#[103, 101, 116]⟩, .string ⟨#[112, 117, 116]⟩, .string ⟨#[100, 114, 111, 112]⟩, .string ⟨#[99, 111, 109, 109, 105, 116]⟩, .string ⟨#[97, 98, 111, 114, 116]⟩] 9 (0, 0))) = W0 at *
  have S0 := hS.below hB0
  have hpow : ∀ w', Below W0.heap.size W0 w' → Lib.TabIs Tryd.prog w' "internal/strconv.uint64pow10" .u64 Lib.pow10Tab := fun w' hb => (S0.below hb).pow
  have c7 : W0.cell? ⟨w.heap.size, 7, none⟩ = some (.int .i64 r.dest) := by rw [Lib.cell_of_heap hA]; rfl
  have hlt := lt_of_cell c7
  have hb00 : Below W0.heap.size W0 W0.drew := (Below.refl _ _).drew
  clear hA hS S0
  have l7 := spN_length r.dest hf.dest.1 hf.dest.2
  have hnext : ∀ w' w'', Below W0.heap.size W0 w' → Below w'.heap.size w' w'' → (Below W0.heap.size W0 w'' ∧ w''.cell? ⟨w.heap.size, 7, none⟩ = some (.int .i64 r.dest)) := fun w' w'' h1 h2 => by
    have hb := below_next h1 h2
    exact ⟨hb, by rw [hb.cell (p := ⟨w.heap.size, 7, none⟩) hlt]; exact c7⟩
  have q1 : ¬9223372036854775807 < 5 + (spN r.dest).length := by omega
  clear l7
  go_wp2_with (go_at_call 25; refine (Tryd.spn_walk _ _ hf.dest.1 hf.dest.2 (hpow _ (by first | exact Below.refl _ _ | assumption | exact hb00))).mono ?_)
  rintro e w'' ⟨rfl, hb⟩
  have q := hnext _ _ (by first | exact Below.refl _ _ | exact hb00 | assumption) hb
  have hfin := q.1
  clear q hb hpow hnext hb00
  go_wp2
  go_ret2
  refine ⟨?_, below_next hB0 hfin⟩
  rw [hspec.out]
  simp only [ByteArray.mk_append_mk, List.append_toArray, mkB]
  rfl
set_option maxHeartbeats 8000000 in
set_option maxRecDepth 1000000 in
theorem Tryd.line_5 (r : StepR) (v : Value) (w : World) (hS : SVars w) (h : StepIn w r v) (hf : Fits64 r) (hk : r.kind = 5) :
    Calls Tryd.prog 11 #[v] w fun e w' => e = .returned (.tuple #[.string (mkB ((lineS r).getD [])), .bool (lineS r).isSome]) ∧ Below w.heap.size w w' := by
  have hspec : lineS r = some ([115, 112, 111, 105, 108] ++ spN r.dest) := by
    unfold lineS
    rw [hk]
    rfl
  replace hspec := Keep.mk hspec
  obtain ⟨a, c, rfl, own⟩ := h
  clear own
  simp only [StepR.cells]
  go_enter Tryd.func11, Tryd.ntmps11
  go_upto_region 15 with fail
  have hB0 : Below w.heap.size w ((w.alloc (.cells #[.int .i64 5, .int .i64 r.node, .int .i64 r.sess, .int .i64 r.req, .int .i64 r.ckind, .string r.key, .string r.val, .int .i64 r.dest, .int .i64 r.n, .slice a r.keep.length c, .int .i64 r.tear] 27 (0, 0))).alloc (.cells #[.string ⟨#[]⟩, .string ⟨#[98, 101, 103, 105, 110]⟩, .string ⟨#[103, 101, 116]⟩, .string ⟨#[112, 117, 116]⟩, .string ⟨#[100, 114, 111, 112]⟩, .string ⟨#[99, 111, 109, 109, 105, 116]⟩, .string ⟨#[97, 98, 111, 114, 116]⟩] 9 (0, 0))) := by go_grown
  have hA : ((w.alloc (.cells #[.int .i64 5, .int .i64 r.node, .int .i64 r.sess, .int .i64 r.req, .int .i64 r.ckind, .string r.key, .string r.val, .int .i64 r.dest, .int .i64 r.n, .slice a r.keep.length c, .int .i64 r.tear] 27 (0, 0))).alloc (.cells #[.string ⟨#[]⟩, .string ⟨#[98, 101, 103, 105, 110]⟩, .string ⟨#[103, 101, 116]⟩, .string ⟨#[112, 117, 116]⟩, .string ⟨#[100, 114, 111, 112]⟩, .string ⟨#[99, 111, 109, 109, 105, 116]⟩, .string ⟨#[97, 98, 111, 114, 116]⟩] 9 (0, 0))).heap[w.heap.size]? = some (.cells #[.int .i64 5, .int .i64 r.node, .int .i64 r.sess, .int .i64 r.req, .int .i64 r.ckind, .string r.key, .string r.val, .int .i64 r.dest, .int .i64 r.n, .slice a r.keep.length c, .int .i64 r.tear] 27 (0, 0)) := by
    rw [Below.heap_alloc _ _ _ (by simp)]
    exact heap_alloc_new w _
  generalize ((w.alloc (.cells #[.int .i64 5, .int .i64 r.node, .int .i64 r.sess, .int .i64 r.req, .int .i64 r.ckind, .string r.key, .string r.val, .int .i64 r.dest, .int .i64 r.n, .slice a r.keep.length c, .int .i64 r.tear] 27 (0, 0))).alloc (.cells #[.string ⟨#[]⟩, .string ⟨#[98, 101, 103, 105, 110]⟩, .string ⟨#[103, 101, 116]⟩, .string ⟨#[112, 117, 116]⟩, .string ⟨#[100, 114, 111, 112]⟩, .string ⟨#[99, 111, 109, 109, 105, 116]⟩, .string ⟨#[97, 98, 111, 114, 116]⟩] 9 (0, 0))) = W0 at *
  have S0 := hS.below hB0
  have hpow : ∀ w', Below W0.heap.size W0 w' → Lib.TabIs Tryd.prog w' "internal/strconv.uint64pow10" .u64 Lib.pow10Tab := fun w' hb => (S0.below hb).pow
  have c7 : W0.cell? ⟨w.heap.size, 7, none⟩ = some (.int .i64 r.dest) := by rw [Lib.cell_of_heap hA]; rfl
  have hlt := lt_of_cell c7
  have hb00 : Below W0.heap.size W0 W0.drew := (Below.refl _ _).drew
  clear hA hS S0
  have l7 := spN_length r.dest hf.dest.1 hf.dest.2
  have hnext : ∀ w' w'', Below W0.heap.size W0 w' → Below w'.heap.size w' w'' → (Below W0.heap.size W0 w'' ∧ w''.cell? ⟨w.heap.size, 7, none⟩ = some (.int .i64 r.dest)) := fun w' w'' h1 h2 => by
    have hb := below_next h1 h2
    exact ⟨hb, by rw [hb.cell (p := ⟨w.heap.size, 7, none⟩) hlt]; exact c7⟩
  have q1 : ¬9223372036854775807 < 5 + (spN r.dest).length := by omega
  clear l7
  go_wp2_with (go_at_call 25; refine (Tryd.spn_walk _ _ hf.dest.1 hf.dest.2 (hpow _ (by first | exact Below.refl _ _ | assumption | exact hb00))).mono ?_)
  rintro e w'' ⟨rfl, hb⟩
  have q := hnext _ _ (by first | exact Below.refl _ _ | exact hb00 | assumption) hb
  have hfin := q.1
  clear q hb hpow hnext hb00
  go_wp2
  go_ret2
  refine ⟨?_, below_next hB0 hfin⟩
  rw [hspec.out]
  simp only [ByteArray.mk_append_mk, List.append_toArray, mkB]
  rfl
set_option maxHeartbeats 8000000 in
set_option maxRecDepth 1000000 in
theorem Tryd.line_6 (r : StepR) (v : Value) (w : World) (hS : SVars w) (h : StepIn w r v) (hf : Fits64 r) (hk : r.kind = 6) :
    Calls Tryd.prog 11 #[v] w fun e w' => e = .returned (.tuple #[.string (mkB ((lineS r).getD [])), .bool (lineS r).isSome]) ∧ Below w.heap.size w w' := by
  have hspec : lineS r = some ([116, 105, 99, 107] ++ spN r.node) := by
    unfold lineS
    rw [hk]
    rfl
  replace hspec := Keep.mk hspec
  obtain ⟨a, c, rfl, own⟩ := h
  clear own
  simp only [StepR.cells]
  go_enter Tryd.func11, Tryd.ntmps11
  go_upto_region 17 with fail
  have hB0 : Below w.heap.size w ((w.alloc (.cells #[.int .i64 6, .int .i64 r.node, .int .i64 r.sess, .int .i64 r.req, .int .i64 r.ckind, .string r.key, .string r.val, .int .i64 r.dest, .int .i64 r.n, .slice a r.keep.length c, .int .i64 r.tear] 27 (0, 0))).alloc (.cells #[.string ⟨#[]⟩, .string ⟨#[98, 101, 103, 105, 110]⟩, .string ⟨#[103, 101, 116]⟩, .string ⟨#[112, 117, 116]⟩, .string ⟨#[100, 114, 111, 112]⟩, .string ⟨#[99, 111, 109, 109, 105, 116]⟩, .string ⟨#[97, 98, 111, 114, 116]⟩] 9 (0, 0))) := by go_grown
  have hA : ((w.alloc (.cells #[.int .i64 6, .int .i64 r.node, .int .i64 r.sess, .int .i64 r.req, .int .i64 r.ckind, .string r.key, .string r.val, .int .i64 r.dest, .int .i64 r.n, .slice a r.keep.length c, .int .i64 r.tear] 27 (0, 0))).alloc (.cells #[.string ⟨#[]⟩, .string ⟨#[98, 101, 103, 105, 110]⟩, .string ⟨#[103, 101, 116]⟩, .string ⟨#[112, 117, 116]⟩, .string ⟨#[100, 114, 111, 112]⟩, .string ⟨#[99, 111, 109, 109, 105, 116]⟩, .string ⟨#[97, 98, 111, 114, 116]⟩] 9 (0, 0))).heap[w.heap.size]? = some (.cells #[.int .i64 6, .int .i64 r.node, .int .i64 r.sess, .int .i64 r.req, .int .i64 r.ckind, .string r.key, .string r.val, .int .i64 r.dest, .int .i64 r.n, .slice a r.keep.length c, .int .i64 r.tear] 27 (0, 0)) := by
    rw [Below.heap_alloc _ _ _ (by simp)]
    exact heap_alloc_new w _
  generalize ((w.alloc (.cells #[.int .i64 6, .int .i64 r.node, .int .i64 r.sess, .int .i64 r.req, .int .i64 r.ckind, .string r.key, .string r.val, .int .i64 r.dest, .int .i64 r.n, .slice a r.keep.length c, .int .i64 r.tear] 27 (0, 0))).alloc (.cells #[.string ⟨#[]⟩, .string ⟨#[98, 101, 103, 105, 110]⟩, .string ⟨#[103, 101, 116]⟩, .string ⟨#[112, 117, 116]⟩, .string ⟨#[100, 114, 111, 112]⟩, .string ⟨#[99, 111, 109, 109, 105, 116]⟩, .string ⟨#[97, 98, 111, 114, 116]⟩] 9 (0, 0))) = W0 at *
  have S0 := hS.below hB0
  have hpow : ∀ w', Below W0.heap.size W0 w' → Lib.TabIs Tryd.prog w' "internal/strconv.uint64pow10" .u64 Lib.pow10Tab := fun w' hb => (S0.below hb).pow
  have c1 : W0.cell? ⟨w.heap.size, 1, none⟩ = some (.int .i64 r.node) := by rw [Lib.cell_of_heap hA]; rfl
  have hlt := lt_of_cell c1
  have hb00 : Below W0.heap.size W0 W0.drew := (Below.refl _ _).drew
  clear hA hS S0
  have l1 := spN_length r.node hf.node.1 hf.node.2
  have hnext : ∀ w' w'', Below W0.heap.size W0 w' → Below w'.heap.size w' w'' → (Below W0.heap.size W0 w'' ∧ w''.cell? ⟨w.heap.size, 1, none⟩ = some (.int .i64 r.node)) := fun w' w'' h1 h2 => by
    have hb := below_next h1 h2
    exact ⟨hb, by rw [hb.cell (p := ⟨w.heap.size, 1, none⟩) hlt]; exact c1⟩
  have q1 : ¬9223372036854775807 < 4 + (spN r.node).length := by omega
  clear l1
  go_wp2_with (go_at_call 25; refine (Tryd.spn_walk _ _ hf.node.1 hf.node.2 (hpow _ (by first | exact Below.refl _ _ | assumption | exact hb00))).mono ?_)
  rintro e w'' ⟨rfl, hb⟩
  have q := hnext _ _ (by first | exact Below.refl _ _ | exact hb00 | assumption) hb
  have hfin := q.1
  clear q hb hpow hnext hb00
  go_wp2
  go_ret2
  refine ⟨?_, below_next hB0 hfin⟩
  rw [hspec.out]
  simp only [ByteArray.mk_append_mk, List.append_toArray, mkB]
  rfl
set_option maxHeartbeats 8000000 in
set_option maxRecDepth 1000000 in
theorem Tryd.line_7 (r : StepR) (v : Value) (w : World) (hS : SVars w) (h : StepIn w r v) (hf : Fits64 r) (hk : r.kind = 7) :
    Calls Tryd.prog 11 #[v] w fun e w' => e = .returned (.tuple #[.string (mkB ((lineS r).getD [])), .bool (lineS r).isSome]) ∧ Below w.heap.size w w' := by
  have hspec : lineS r = some (([102, 117, 115, 101] ++ spN r.node) ++ spN r.n) := by
    unfold lineS
    rw [hk]
    rfl
  replace hspec := Keep.mk hspec
  obtain ⟨a, c, rfl, own⟩ := h
  clear own
  simp only [StepR.cells]
  go_enter Tryd.func11, Tryd.ntmps11
  go_upto_region 21 with fail
  have hB0 : Below w.heap.size w ((w.alloc (.cells #[.int .i64 7, .int .i64 r.node, .int .i64 r.sess, .int .i64 r.req, .int .i64 r.ckind, .string r.key, .string r.val, .int .i64 r.dest, .int .i64 r.n, .slice a r.keep.length c, .int .i64 r.tear] 27 (0, 0))).alloc (.cells #[.string ⟨#[]⟩, .string ⟨#[98, 101, 103, 105, 110]⟩, .string ⟨#[103, 101, 116]⟩, .string ⟨#[112, 117, 116]⟩, .string ⟨#[100, 114, 111, 112]⟩, .string ⟨#[99, 111, 109, 109, 105, 116]⟩, .string ⟨#[97, 98, 111, 114, 116]⟩] 9 (0, 0))) := by go_grown
  have hA : ((w.alloc (.cells #[.int .i64 7, .int .i64 r.node, .int .i64 r.sess, .int .i64 r.req, .int .i64 r.ckind, .string r.key, .string r.val, .int .i64 r.dest, .int .i64 r.n, .slice a r.keep.length c, .int .i64 r.tear] 27 (0, 0))).alloc (.cells #[.string ⟨#[]⟩, .string ⟨#[98, 101, 103, 105, 110]⟩, .string ⟨#[103, 101, 116]⟩, .string ⟨#[112, 117, 116]⟩, .string ⟨#[100, 114, 111, 112]⟩, .string ⟨#[99, 111, 109, 109, 105, 116]⟩, .string ⟨#[97, 98, 111, 114, 116]⟩] 9 (0, 0))).heap[w.heap.size]? = some (.cells #[.int .i64 7, .int .i64 r.node, .int .i64 r.sess, .int .i64 r.req, .int .i64 r.ckind, .string r.key, .string r.val, .int .i64 r.dest, .int .i64 r.n, .slice a r.keep.length c, .int .i64 r.tear] 27 (0, 0)) := by
    rw [Below.heap_alloc _ _ _ (by simp)]
    exact heap_alloc_new w _
  generalize ((w.alloc (.cells #[.int .i64 7, .int .i64 r.node, .int .i64 r.sess, .int .i64 r.req, .int .i64 r.ckind, .string r.key, .string r.val, .int .i64 r.dest, .int .i64 r.n, .slice a r.keep.length c, .int .i64 r.tear] 27 (0, 0))).alloc (.cells #[.string ⟨#[]⟩, .string ⟨#[98, 101, 103, 105, 110]⟩, .string ⟨#[103, 101, 116]⟩, .string ⟨#[112, 117, 116]⟩, .string ⟨#[100, 114, 111, 112]⟩, .string ⟨#[99, 111, 109, 109, 105, 116]⟩, .string ⟨#[97, 98, 111, 114, 116]⟩] 9 (0, 0))) = W0 at *
  have S0 := hS.below hB0
  have hpow : ∀ w', Below W0.heap.size W0 w' → Lib.TabIs Tryd.prog w' "internal/strconv.uint64pow10" .u64 Lib.pow10Tab := fun w' hb => (S0.below hb).pow
  have c1 : W0.cell? ⟨w.heap.size, 1, none⟩ = some (.int .i64 r.node) := by rw [Lib.cell_of_heap hA]; rfl
  have c8 : W0.cell? ⟨w.heap.size, 8, none⟩ = some (.int .i64 r.n) := by rw [Lib.cell_of_heap hA]; rfl
  have hlt := lt_of_cell c1
  have hb00 : Below W0.heap.size W0 W0.drew := (Below.refl _ _).drew
  clear hA hS S0
  have l1 := spN_length r.node hf.node.1 hf.node.2
  have l8 := spN_length r.n hf.n.1 hf.n.2
  have hnext : ∀ w' w'', Below W0.heap.size W0 w' → Below w'.heap.size w' w'' → (Below W0.heap.size W0 w'' ∧ w''.cell? ⟨w.heap.size, 1, none⟩ = some (.int .i64 r.node) ∧ w''.cell? ⟨w.heap.size, 8, none⟩ = some (.int .i64 r.n)) := fun w' w'' h1 h2 => by
    have hb := below_next h1 h2
    exact ⟨hb, by rw [hb.cell (p := ⟨w.heap.size, 1, none⟩) hlt]; exact c1, by rw [hb.cell (p := ⟨w.heap.size, 8, none⟩) hlt]; exact c8⟩
  have q1 : ¬9223372036854775807 < 4 + (spN r.node).length := by omega
  have q2 : ¬9223372036854775807 < 4 + (spN r.node).length + (spN r.n).length := by omega
  clear l1 l8
  go_region_held3 (fun w' => Below W0.heap.size W0 w' ∧ w'.cell? ⟨w.heap.size, 1, none⟩ = some (.int .i64 r.node) ∧ w'.cell? ⟨w.heap.size, 8, none⟩ = some (.int .i64 r.n)) (first | exact ⟨hb00, c1, c8⟩ | assumption | go_keep)
    (first | (go_at_call 25; refine (Tryd.spn_walk _ _ ?_ ?_ ?_).mono ?_; (first | exact hf.node.1 | exact hf.n.1); (first | exact hf.node.2 | exact hf.n.2); (exact hpow _ (by first | assumption | exact hb00 | exact And.left (by assumption))); rintro e w'' ⟨rfl, hb⟩; have q := hnext _ _ (by first | assumption | exact hb00 | exact And.left (by assumption)) hb))
  all_goals
    rename_i hb q hheld
    have hfin := hheld.1
    clear hheld q hb
    go_wp2
    go_ret2
    refine ⟨?_, below_next hB0 hfin⟩
    rw [hspec.out]
    simp only [ByteArray.mk_append_mk, List.append_toArray, mkB]
    rfl
set_option maxHeartbeats 8000000 in
set_option maxRecDepth 1000000 in
theorem Tryd.line_8 (r : StepR) (v : Value) (w : World) (hS : SVars w) (h : StepIn w r v) (hf : Fits64 r) (hk : r.kind = 8) :
    Calls Tryd.prog 11 #[v] w fun e w' => e = .returned (.tuple #[.string (mkB ((lineS r).getD [])), .bool (lineS r).isSome]) ∧ Below w.heap.size w w' := by
  have hspec : lineS r = some ([111, 102, 102] ++ spN r.node) := by
    unfold lineS
    rw [hk]
    rfl
  replace hspec := Keep.mk hspec
  obtain ⟨a, c, rfl, own⟩ := h
  clear own
  simp only [StepR.cells]
  go_enter Tryd.func11, Tryd.ntmps11
  go_upto_region 19 with fail
  have hB0 : Below w.heap.size w ((w.alloc (.cells #[.int .i64 8, .int .i64 r.node, .int .i64 r.sess, .int .i64 r.req, .int .i64 r.ckind, .string r.key, .string r.val, .int .i64 r.dest, .int .i64 r.n, .slice a r.keep.length c, .int .i64 r.tear] 27 (0, 0))).alloc (.cells #[.string ⟨#[]⟩, .string ⟨#[98, 101, 103, 105, 110]⟩, .string ⟨#[103, 101, 116]⟩, .string ⟨#[112, 117, 116]⟩, .string ⟨#[100, 114, 111, 112]⟩, .string ⟨#[99, 111, 109, 109, 105, 116]⟩, .string ⟨#[97, 98, 111, 114, 116]⟩] 9 (0, 0))) := by go_grown
  have hA : ((w.alloc (.cells #[.int .i64 8, .int .i64 r.node, .int .i64 r.sess, .int .i64 r.req, .int .i64 r.ckind, .string r.key, .string r.val, .int .i64 r.dest, .int .i64 r.n, .slice a r.keep.length c, .int .i64 r.tear] 27 (0, 0))).alloc (.cells #[.string ⟨#[]⟩, .string ⟨#[98, 101, 103, 105, 110]⟩, .string ⟨#[103, 101, 116]⟩, .string ⟨#[112, 117, 116]⟩, .string ⟨#[100, 114, 111, 112]⟩, .string ⟨#[99, 111, 109, 109, 105, 116]⟩, .string ⟨#[97, 98, 111, 114, 116]⟩] 9 (0, 0))).heap[w.heap.size]? = some (.cells #[.int .i64 8, .int .i64 r.node, .int .i64 r.sess, .int .i64 r.req, .int .i64 r.ckind, .string r.key, .string r.val, .int .i64 r.dest, .int .i64 r.n, .slice a r.keep.length c, .int .i64 r.tear] 27 (0, 0)) := by
    rw [Below.heap_alloc _ _ _ (by simp)]
    exact heap_alloc_new w _
  generalize ((w.alloc (.cells #[.int .i64 8, .int .i64 r.node, .int .i64 r.sess, .int .i64 r.req, .int .i64 r.ckind, .string r.key, .string r.val, .int .i64 r.dest, .int .i64 r.n, .slice a r.keep.length c, .int .i64 r.tear] 27 (0, 0))).alloc (.cells #[.string ⟨#[]⟩, .string ⟨#[98, 101, 103, 105, 110]⟩, .string ⟨#[103, 101, 116]⟩, .string ⟨#[112, 117, 116]⟩, .string ⟨#[100, 114, 111, 112]⟩, .string ⟨#[99, 111, 109, 109, 105, 116]⟩, .string ⟨#[97, 98, 111, 114, 116]⟩] 9 (0, 0))) = W0 at *
  have S0 := hS.below hB0
  have hpow : ∀ w', Below W0.heap.size W0 w' → Lib.TabIs Tryd.prog w' "internal/strconv.uint64pow10" .u64 Lib.pow10Tab := fun w' hb => (S0.below hb).pow
  have c1 : W0.cell? ⟨w.heap.size, 1, none⟩ = some (.int .i64 r.node) := by rw [Lib.cell_of_heap hA]; rfl
  have hlt := lt_of_cell c1
  have hb00 : Below W0.heap.size W0 W0.drew := (Below.refl _ _).drew
  clear hA hS S0
  have l1 := spN_length r.node hf.node.1 hf.node.2
  have hnext : ∀ w' w'', Below W0.heap.size W0 w' → Below w'.heap.size w' w'' → (Below W0.heap.size W0 w'' ∧ w''.cell? ⟨w.heap.size, 1, none⟩ = some (.int .i64 r.node)) := fun w' w'' h1 h2 => by
    have hb := below_next h1 h2
    exact ⟨hb, by rw [hb.cell (p := ⟨w.heap.size, 1, none⟩) hlt]; exact c1⟩
  have q1 : ¬9223372036854775807 < 3 + (spN r.node).length := by omega
  clear l1
  go_wp2_with (go_at_call 25; refine (Tryd.spn_walk _ _ hf.node.1 hf.node.2 (hpow _ (by first | exact Below.refl _ _ | assumption | exact hb00))).mono ?_)
  rintro e w'' ⟨rfl, hb⟩
  have q := hnext _ _ (by first | exact Below.refl _ _ | exact hb00 | assumption) hb
  have hfin := q.1
  clear q hb hpow hnext hb00
  go_wp2
  go_ret2
  refine ⟨?_, below_next hB0 hfin⟩
  rw [hspec.out]
  simp only [ByteArray.mk_append_mk, List.append_toArray, mkB]
  rfl
end Go.Proofs.YtcdpepaffpboeaaDoor
