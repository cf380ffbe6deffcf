/- ScriptForms: the plain law: which of the lines are no steps. -/
import Derived.Test.YtcdpepaffpboeaaDoorScDec
namespace Go.Proofs.YtcdpepaffpboeaaDoor
open Go.RowKit Go.Shelf
def mkB (l : List UInt8) : ByteArray := ⟨l.toArray⟩
theorem mkB_data (l : List UInt8) : (mkB l).data.toList = l := rfl
theorem stepS_of {l : List UInt8} {ws : List (List UInt8)} (h : splL 32 l = ws) : stepS (mkB l) = stepW0 (ws.map mkB) := by
  unfold stepS
  rw [show spl 32 (mkB l) = (splL 32 l).map mkB from spl_eq 32 l, h]
theorem unhexS_data (l : List UInt8) : unhexS (mkB l) = if (l == [45]) = true then some [] else if l = [] then none else unhexL l := by
  unfold unhexS
  rw [toL]
  rfl
theorem itoa_digit (d : Nat) (h : d < 10) : Lib.itoa (d : Int) = [UInt8.ofNat (48 + d)] := by
  unfold Lib.itoa
  rw [if_neg (by omega), Int.toNat_natCast, Lib.decDigits, dif_pos h]
theorem numOk_0 : numOk [48] = some 0 := by
  have := numOk_itoa 0 (by decide) (by decide)
  rw [show (0 : Int) = ((0 : Nat) : Int) from rfl, itoa_digit 0 (by decide)] at this
  exact this
theorem numOk_1 : numOk [49] = some 1 := by
  have := numOk_itoa 1 (by decide) (by decide)
  rw [show (1 : Int) = ((1 : Nat) : Int) from rfl, itoa_digit 1 (by decide)] at this
  exact this
theorem numOk_other (l : List UInt8) (d : Nat) (h : d < 10) (ha : Lib.atoiAll l = .ok (d : Int)) (hl : l ≠ [UInt8.ofNat (48 + d)]) : numOk l = none := by
  rw [numOk_ok ha, itoa_digit d h, if_neg (fun e => hl e.symm)]
theorem splL_two (p d : List UInt8) (hp : (32 : UInt8) ∉ p) (hd : (32 : UInt8) ∉ d) : splL 32 (p ++ 32 :: d) = [p, d] := by
  rw [splL_sep 32 d p hp, splL_free 32 d hd]
theorem splL_more (p d r : List UInt8) (hp : (32 : UInt8) ∉ p) (hd : (32 : UInt8) ∉ d) : splL 32 (p ++ 32 :: (d ++ 32 :: r)) = p :: d :: splL 32 r := by
  rw [splL_sep 32 _ p hp, splL_sep 32 r d hd]
theorem numsF_one (l : List UInt8) (h : numOk l = none) : numsF [mkB l] = none := by
  simp [numsF, mkB_data, h]
theorem numsF_three (a b c : List UInt8) {x y z : Int} (h1 : numOk a = some x) (h2 : numOk b = some y) (h3 : numOk c = some z) : numsF [mkB a, mkB b, mkB c] = some [x, y, z] := by
  simp [numsF, mkB_data, h1, h2, h3]
def bad0 (_ : List UInt8) : List UInt8 := []
def bad1 (_ : List UInt8) : List UInt8 := [32]
def bad2 (_ : List UInt8) : List UInt8 := [116, 105, 99, 107]
def bad3 (d : List UInt8) : List UInt8 := ([116, 105, 99, 107] ++ 32 :: (d ++ 32 :: [49]))
def bad4 (_ : List UInt8) : List UInt8 := [116, 105, 99, 107, 32, 43, 49]
def bad5 (_ : List UInt8) : List UInt8 := [116, 105, 99, 107, 32, 48, 49]
def bad6 (_ : List UInt8) : List UInt8 := [116, 105, 99, 107, 32, 49, 32]
def bad7 (d : List UInt8) : List UInt8 := ([84, 73, 67, 75] ++ 32 :: d)
def bad8 (d : List UInt8) : List UInt8 := ([99, 97, 108, 108] ++ 32 :: (d ++ 32 :: [49, 32, 49, 32, 98, 101, 103, 105, 110, 32, 45]))
def bad9 (d : List UInt8) : List UInt8 := ([99, 97, 108, 108] ++ 32 :: (d ++ 32 :: [49, 32, 49, 32, 115, 116, 97, 114, 116, 32, 45, 32, 45]))
def bad10 (d : List UInt8) : List UInt8 := ([99, 97, 108, 108] ++ 32 :: (d ++ 32 :: [49, 32, 49, 32, 112, 117, 116, 32, 97, 32, 45]))
def bad11 (d : List UInt8) : List UInt8 := ([99, 97, 108, 108] ++ 32 :: (d ++ 32 :: [49, 32, 49, 32, 112, 117, 116, 32, 54, 32, 45]))
def bad12 (d : List UInt8) : List UInt8 := ([99, 97, 108, 108] ++ 32 :: (d ++ 32 :: [49, 32, 49, 32, 112, 117, 116, 32, 54, 65, 32, 45]))
def bad13 (d : List UInt8) : List UInt8 := ([111, 110] ++ 32 :: (d ++ 32 :: [48, 32, 48]))
def bad14 (d : List UInt8) : List UInt8 := ([111, 110] ++ 32 :: (d ++ 32 :: [48, 32, 48, 32, 50]))
def bad15 (d : List UInt8) : List UInt8 := ([111, 110] ++ 32 :: (d ++ 32 :: [48, 32, 48, 32]))
def bad16 (d : List UInt8) : List UInt8 := ([102, 117, 115, 101] ++ 32 :: d)
def bad17 (_ : List UInt8) : List UInt8 := [100, 101, 108, 105, 118, 101, 114, 32, 120]
def bad18 (_ : List UInt8) : List UInt8 := [111, 102, 102, 32, 49, 46, 48]
def bad19 (_ : List UInt8) : List UInt8 := [100, 101, 108, 105, 118, 101, 114, 32, 57, 57, 57, 57, 57, 57, 57, 57, 57, 57, 57, 57, 57, 57, 57, 57, 57, 57, 57, 57]
def bads (d : List UInt8) : List (List UInt8) := [bad0 d, bad1 d, bad2 d, bad3 d, bad4 d, bad5 d, bad6 d, bad7 d, bad8 d, bad9 d, bad10 d, bad11 d, bad12 d, bad13 d, bad14 d, bad15 d, bad16 d, bad17 d, bad18 d, bad19 d]
theorem badN0 (d : List UInt8) (_ : (32 : UInt8) ∉ d) {n : Int} (_ : numOk d = some n) : stepS (mkB (bad0 d)) = none := by
  rw [show stepS (mkB (bad0 d)) = _ from stepS_of (show splL 32 (bad0 d) = [[]] from rfl)]
  exact stepW0_zero _ (by decide)
theorem badN1 (d : List UInt8) (_ : (32 : UInt8) ∉ d) {n : Int} (_ : numOk d = some n) : stepS (mkB (bad1 d)) = none := by
  rw [show stepS (mkB (bad1 d)) = _ from stepS_of (show splL 32 (bad1 d) = [[], []] from rfl)]
  exact stepW0_zero _ (by decide)
theorem badN2 (d : List UInt8) (_ : (32 : UInt8) ∉ d) {n : Int} (_ : numOk d = some n) : stepS (mkB (bad2 d)) = none := by
  rw [show stepS (mkB (bad2 d)) = _ from stepS_of (show splL 32 (bad2 d) = [[116, 105, 99, 107]] from rfl)]
  exact stepW0_count _ 6 rfl (by show 1 ≠ 2; decide)
theorem badN3 (d : List UInt8) (hd : (32 : UInt8) ∉ d) {n : Int} (_ : numOk d = some n) : stepS (mkB (bad3 d)) = none := by
  rw [show stepS (mkB (bad3 d)) = _ from stepS_of ((splL_more [116, 105, 99, 107] d [49] (by decide) hd).trans (show _ = [[116, 105, 99, 107], d, [49]] from rfl))]
  exact stepW0_count _ 6 rfl (by show 3 ≠ 2; decide)
theorem badN4 (d : List UInt8) (_ : (32 : UInt8) ∉ d) {n : Int} (_ : numOk d = some n) : stepS (mkB (bad4 d)) = none := by
  rw [show stepS (mkB (bad4 d)) = _ from stepS_of (show splL 32 (bad4 d) = [[116, 105, 99, 107], [43, 49]] from rfl)]
  exact stepW0_num _ 6 rfl (by decide) rfl (numsF_one _ (numOk_other [43, 49] 1 (by decide) (by decide) (by decide)))
theorem badN5 (d : List UInt8) (_ : (32 : UInt8) ∉ d) {n : Int} (_ : numOk d = some n) : stepS (mkB (bad5 d)) = none := by
  rw [show stepS (mkB (bad5 d)) = _ from stepS_of (show splL 32 (bad5 d) = [[116, 105, 99, 107], [48, 49]] from rfl)]
  exact stepW0_num _ 6 rfl (by decide) rfl (numsF_one _ (numOk_other [48, 49] 1 (by decide) (by decide) (by decide)))
theorem badN6 (d : List UInt8) (_ : (32 : UInt8) ∉ d) {n : Int} (_ : numOk d = some n) : stepS (mkB (bad6 d)) = none := by
  rw [show stepS (mkB (bad6 d)) = _ from stepS_of (show splL 32 (bad6 d) = [[116, 105, 99, 107], [49], []] from rfl)]
  exact stepW0_count _ 6 rfl (by show 3 ≠ 2; decide)
theorem badN7 (d : List UInt8) (hd : (32 : UInt8) ∉ d) {n : Int} (_ : numOk d = some n) : stepS (mkB (bad7 d)) = none := by
  rw [show stepS (mkB (bad7 d)) = _ from stepS_of (splL_two [84, 73, 67, 75] d (by decide) hd)]
  exact stepW0_zero _ rfl
theorem badN8 (d : List UInt8) (hd : (32 : UInt8) ∉ d) {n : Int} (_ : numOk d = some n) : stepS (mkB (bad8 d)) = none := by
  rw [show stepS (mkB (bad8 d)) = _ from stepS_of ((splL_more [99, 97, 108, 108] d [49, 32, 49, 32, 98, 101, 103, 105, 110, 32, 45] (by decide) hd).trans (show _ = [[99, 97, 108, 108], d, [49], [49], [98, 101, 103, 105, 110], [45]] from rfl))]
  exact stepW0_count _ 1 rfl (by show 6 ≠ 7; decide)
theorem badN9 (d : List UInt8) (hd : (32 : UInt8) ∉ d) {n : Int} (hn : numOk d = some n) : stepS (mkB (bad9 d)) = none := by
  rw [show stepS (mkB (bad9 d)) = _ from stepS_of ((splL_more [99, 97, 108, 108] d [49, 32, 49, 32, 115, 116, 97, 114, 116, 32, 45, 32, 45] (by decide) hd).trans (show _ = [[99, 97, 108, 108], d, [49], [49], [115, 116, 97, 114, 116], [45], [45]] from rfl))]
  refine (stepW0_onee (List.map mkB [[99, 97, 108, 108], d, [49], [49], [115, 116, 97, 114, 116], [45], [45]]) rfl rfl (numsF_three d [49] [49] hn numOk_1 numOk_1)).trans ?_
  show ((unhexS (mkB [45])).bind fun key => (unhexS (mkB [45])).bind fun val => _) = none
  rw [unhexS_data]
  rfl
theorem badN10 (d : List UInt8) (hd : (32 : UInt8) ∉ d) {n : Int} (hn : numOk d = some n) : stepS (mkB (bad10 d)) = none := by
  rw [show stepS (mkB (bad10 d)) = _ from stepS_of ((splL_more [99, 97, 108, 108] d [49, 32, 49, 32, 112, 117, 116, 32, 97, 32, 45] (by decide) hd).trans (show _ = [[99, 97, 108, 108], d, [49], [49], [112, 117, 116], [97], [45]] from rfl))]
  refine (stepW0_onee (List.map mkB [[99, 97, 108, 108], d, [49], [49], [112, 117, 116], [97], [45]]) rfl rfl (numsF_three d [49] [49] hn numOk_1 numOk_1)).trans ?_
  show ((unhexS (mkB [97])).bind fun key => _) = none
  rw [unhexS_data]
  rfl
theorem badN11 (d : List UInt8) (hd : (32 : UInt8) ∉ d) {n : Int} (hn : numOk d = some n) : stepS (mkB (bad11 d)) = none := by
  rw [show stepS (mkB (bad11 d)) = _ from stepS_of ((splL_more [99, 97, 108, 108] d [49, 32, 49, 32, 112, 117, 116, 32, 54, 32, 45] (by decide) hd).trans (show _ = [[99, 97, 108, 108], d, [49], [49], [112, 117, 116], [54], [45]] from rfl))]
  refine (stepW0_onee (List.map mkB [[99, 97, 108, 108], d, [49], [49], [112, 117, 116], [54], [45]]) rfl rfl (numsF_three d [49] [49] hn numOk_1 numOk_1)).trans ?_
  show ((unhexS (mkB [54])).bind fun key => _) = none
  rw [unhexS_data]
  rfl
theorem badN12 (d : List UInt8) (hd : (32 : UInt8) ∉ d) {n : Int} (hn : numOk d = some n) : stepS (mkB (bad12 d)) = none := by
  rw [show stepS (mkB (bad12 d)) = _ from stepS_of ((splL_more [99, 97, 108, 108] d [49, 32, 49, 32, 112, 117, 116, 32, 54, 65, 32, 45] (by decide) hd).trans (show _ = [[99, 97, 108, 108], d, [49], [49], [112, 117, 116], [54, 65], [45]] from rfl))]
  refine (stepW0_onee (List.map mkB [[99, 97, 108, 108], d, [49], [49], [112, 117, 116], [54, 65], [45]]) rfl rfl (numsF_three d [49] [49] hn numOk_1 numOk_1)).trans ?_
  show ((unhexS (mkB [54, 65])).bind fun key => _) = none
  rw [unhexS_data]
  rfl
theorem badN13 (d : List UInt8) (hd : (32 : UInt8) ∉ d) {n : Int} (_ : numOk d = some n) : stepS (mkB (bad13 d)) = none := by
  rw [show stepS (mkB (bad13 d)) = _ from stepS_of ((splL_more [111, 110] d [48, 32, 48] (by decide) hd).trans (show _ = [[111, 110], d, [48], [48]] from rfl))]
  exact stepW0_count _ 9 rfl (by show 4 ≠ 5; decide)
theorem badN14 (d : List UInt8) (hd : (32 : UInt8) ∉ d) {n : Int} (hn : numOk d = some n) : stepS (mkB (bad14 d)) = none := by
  rw [show stepS (mkB (bad14 d)) = _ from stepS_of ((splL_more [111, 110] d [48, 32, 48, 32, 50] (by decide) hd).trans (show _ = [[111, 110], d, [48], [48], [50]] from rfl))]
  exact (stepW0_nine (List.map mkB [[111, 110], d, [48], [48], [50]]) rfl rfl (numsF_three d [48] [48] hn numOk_0 numOk_0)).trans rfl
theorem badN15 (d : List UInt8) (hd : (32 : UInt8) ∉ d) {n : Int} (hn : numOk d = some n) : stepS (mkB (bad15 d)) = none := by
  rw [show stepS (mkB (bad15 d)) = _ from stepS_of ((splL_more [111, 110] d [48, 32, 48, 32] (by decide) hd).trans (show _ = [[111, 110], d, [48], [48], []] from rfl))]
  exact (stepW0_nine (List.map mkB [[111, 110], d, [48], [48], []]) rfl rfl (numsF_three d [48] [48] hn numOk_0 numOk_0)).trans rfl
theorem badN16 (d : List UInt8) (hd : (32 : UInt8) ∉ d) {n : Int} (_ : numOk d = some n) : stepS (mkB (bad16 d)) = none := by
  rw [show stepS (mkB (bad16 d)) = _ from stepS_of (splL_two [102, 117, 115, 101] d (by decide) hd)]
  exact stepW0_count _ 7 rfl (by show 2 ≠ 3; decide)
theorem badN17 (d : List UInt8) (_ : (32 : UInt8) ∉ d) {n : Int} (_ : numOk d = some n) : stepS (mkB (bad17 d)) = none := by
  rw [show stepS (mkB (bad17 d)) = _ from stepS_of (show splL 32 (bad17 d) = [[100, 101, 108, 105, 118, 101, 114], [120]] from rfl)]
  exact stepW0_num _ 2 rfl (by decide) rfl (numsF_one _ (numOk_bad (fun v h => by have e : Lib.atoiAll [120] = _ := h; revert e; simp [Lib.atoiAll, Lib.parseMag, Lib.parseUint10])))
theorem badN18 (d : List UInt8) (_ : (32 : UInt8) ∉ d) {n : Int} (_ : numOk d = some n) : stepS (mkB (bad18 d)) = none := by
  rw [show stepS (mkB (bad18 d)) = _ from stepS_of (show splL 32 (bad18 d) = [[111, 102, 102], [49, 46, 48]] from rfl)]
  exact stepW0_num _ 8 rfl (by decide) rfl (numsF_one _ (numOk_bad (fun v h => by have e : Lib.atoiAll [49, 46, 48] = _ := h; revert e; simp [Lib.atoiAll, Lib.parseMag, Lib.parseUint10])))
theorem badN19 (d : List UInt8) (_ : (32 : UInt8) ∉ d) {n : Int} (_ : numOk d = some n) : stepS (mkB (bad19 d)) = none := by
  rw [show stepS (mkB (bad19 d)) = _ from stepS_of (show splL 32 (bad19 d) = [[100, 101, 108, 105, 118, 101, 114], [57, 57, 57, 57, 57, 57, 57, 57, 57, 57, 57, 57, 57, 57, 57, 57, 57, 57, 57, 57]] from rfl)]
  exact stepW0_num _ 2 rfl (by decide) rfl (numsF_one _ (numOk_bad (fun v h => by have e : Lib.atoiAll [57, 57, 57, 57, 57, 57, 57, 57, 57, 57, 57, 57, 57, 57, 57, 57, 57, 57, 57, 57] = _ := h; revert e; simp [Lib.atoiAll, Lib.parseMag, Lib.parseUint10])))
theorem bads_none (d : List UInt8) (hd : (32 : UInt8) ∉ d) {n : Int} (hn : numOk d = some n) (i : Nat) (h : i < 20) : stepS (mkB ((bads d).getD i [])) = none := by
  match i, h with
  | 0, _ => exact badN0 d hd hn
  | 1, _ => exact badN1 d hd hn
  | 2, _ => exact badN2 d hd hn
  | 3, _ => exact badN3 d hd hn
  | 4, _ => exact badN4 d hd hn
  | 5, _ => exact badN5 d hd hn
  | 6, _ => exact badN6 d hd hn
  | 7, _ => exact badN7 d hd hn
  | 8, _ => exact badN8 d hd hn
  | 9, _ => exact badN9 d hd hn
  | 10, _ => exact badN10 d hd hn
  | 11, _ => exact badN11 d hd hn
  | 12, _ => exact badN12 d hd hn
  | 13, _ => exact badN13 d hd hn
  | 14, _ => exact badN14 d hd hn
  | 15, _ => exact badN15 d hd hn
  | 16, _ => exact badN16 d hd hn
  | 17, _ => exact badN17 d hd hn
  | 18, _ => exact badN18 d hd hn
  | 19, _ => exact badN19 d hd hn
  | i + 20, h => exact absurd h (by omega)
theorem bads_free (d : List UInt8) (hd : (10 : UInt8) ∉ d) (i : Nat) (h : i < 20) : (10 : UInt8) ∉ (bads d).getD i [] := by
  match i, h with
  | 0, _ => show (10 : UInt8) ∉ bad0 d; simp [bad0]
  | 1, _ => show (10 : UInt8) ∉ bad1 d; simp [bad1]
  | 2, _ => show (10 : UInt8) ∉ bad2 d; simp [bad2]
  | 3, _ => show (10 : UInt8) ∉ bad3 d; simp [bad3, hd]
  | 4, _ => show (10 : UInt8) ∉ bad4 d; simp [bad4]
  | 5, _ => show (10 : UInt8) ∉ bad5 d; simp [bad5]
  | 6, _ => show (10 : UInt8) ∉ bad6 d; simp [bad6]
  | 7, _ => show (10 : UInt8) ∉ bad7 d; simp [bad7, hd]
  | 8, _ => show (10 : UInt8) ∉ bad8 d; simp [bad8, hd]
  | 9, _ => show (10 : UInt8) ∉ bad9 d; simp [bad9, hd]
  | 10, _ => show (10 : UInt8) ∉ bad10 d; simp [bad10, hd]
  | 11, _ => show (10 : UInt8) ∉ bad11 d; simp [bad11, hd]
  | 12, _ => show (10 : UInt8) ∉ bad12 d; simp [bad12, hd]
  | 13, _ => show (10 : UInt8) ∉ bad13 d; simp [bad13, hd]
  | 14, _ => show (10 : UInt8) ∉ bad14 d; simp [bad14, hd]
  | 15, _ => show (10 : UInt8) ∉ bad15 d; simp [bad15, hd]
  | 16, _ => show (10 : UInt8) ∉ bad16 d; simp [bad16, hd]
  | 17, _ => show (10 : UInt8) ∉ bad17 d; simp [bad17]
  | 18, _ => show (10 : UInt8) ∉ bad18 d; simp [bad18]
  | 19, _ => show (10 : UInt8) ∉ bad19 d; simp [bad19]
  | i + 20, h => exact absurd h (by omega)
def offT (d : List UInt8) : List UInt8 := [111, 102, 102] ++ 32 :: d
theorem off_some (d : List UInt8) (hd : (32 : UInt8) ∉ d) {n : Int} (hn : numOk d = some n) : stepS (mkB (offT d)) = some { kind := 8, node := n } := by
  rw [show stepS (mkB (offT d)) = _ from stepS_of (splL_two [111, 102, 102] d (by decide) hd)]
  exact stepW0_one1 _ 8 rfl (Or.inr rfl) rfl (by
    show numsF [mkB d] = some [n]
    simp [numsF, mkB_data, hn])
theorem parse_none (a b : List UInt8) (ha : (10 : UInt8) ∉ a) (hb : (10 : UInt8) ∉ b) (hs : stepS (mkB b) = none) : parseS (mkB (a ++ 10 :: (b ++ 10 :: []))) = none := by
  unfold parseS
  rw [show spl 10 (mkB (a ++ 10 :: (b ++ 10 :: []))) = (splL 10 (a ++ 10 :: (b ++ 10 :: []))).map mkB from spl_eq 10 _, splL_sep 10 _ a ha, splL_sep 10 _ b hb]
  show (if ([] : List UInt8) ≠ [] then none else stepsF [mkB a, mkB b]) = none
  rw [if_neg (fun h => h rfl)]
  simp only [stepsF, hs]
  cases stepS (mkB a) <;> rfl
end Go.Proofs.YtcdpepaffpboeaaDoor
