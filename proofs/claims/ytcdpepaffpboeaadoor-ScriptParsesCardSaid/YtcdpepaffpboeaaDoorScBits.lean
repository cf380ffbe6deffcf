/- script.unbits, walked. -/
import Derived.Test.YtcdpepaffpboeaaDoorScNums
import Derived.Test.YtcdpepaffpboeaaDoorScPlain
namespace Go.Proofs.YtcdpepaffpboeaaDoor
open Go.RowKit Go.Shelf
/-- Truths of ones and noughts. -/
def bitsL : List UInt8 → Option (List Bool)
  | [] => some []
  | c :: r => if c = 48 then (bitsL r).map (false :: ·) else if c = 49 then (bitsL r).map (true :: ·) else none
theorem bitsL_app : ∀ (a b : List UInt8), bitsL (a ++ b) = (bitsL a).bind fun x => (bitsL b).map (x ++ ·)
  | [], b => by simp [bitsL]
  | c :: a, b => by
    simp only [List.cons_append, bitsL, bitsL_app a b]
    split
    · cases bitsL a <;> cases bitsL b <;> rfl
    · split
      · cases bitsL a <;> cases bitsL b <;> rfl
      · rfl
theorem bitsL_length : ∀ (a : List UInt8) (bs : List Bool), bitsL a = some bs → bs.length = a.length
  | [], bs, h => by cases h; rfl
  | c :: a, bs, h => by
    simp only [bitsL] at h
    have key : ∀ (q : Bool), (bitsL a).map (q :: ·) = some bs → bs.length = (c :: a).length := fun q h => by
      cases hm : bitsL a with
      | none => rw [hm] at h; cases h
      | some x =>
        rw [hm] at h
        cases h
        simp [bitsL_length a x hm]
    split at h
    · exact key _ h
    · split at h
      · exact key _ h
      · cases h
def unbitsS (l : List UInt8) : Option (List Bool) := if l = [45] then some [] else if l = [] then none else bitsL l
def boolV (b : Bool) : Value := .bool b
theorem Tryd.infoBool : (Tryd.prog.info? 4).map (fun i => (i.zero, i.size, i.bytes)) = some (some (.bool false), 1, 1) := by kernel_rfl
set_option maxHeartbeats 2000000 in
set_option maxRecDepth 1000000 in
theorem Tryd.unbits_walk (s : ByteArray) (w : World) (hs : s.size ≤ 35184372088832) :
    Calls Tryd.prog 24 #[.string s] w fun e w' => ∃ v b, e = .returned (.tuple #[v, .bool b]) ∧ b = (unbitsS s.data.toList).isSome ∧ (∀ bs, unbitsS s.data.toList = some bs → w'.ownsRow w.heap.size 4 1 v bs.length (bs.map boolV)) ∧ Below w.heap.size w w' := by
  obtain ⟨i0, hi, hz0, hz1, hz2⟩ := info_parts Tryd.infoBool
  cases hd : (s.toList == [45])
  · have hd1 : s.data.toList ≠ [45] := by rw [← toL]; exact ne_of_beq_false hd
    have hsz := size_list s
    go_enter Tryd.func24, Tryd.ntmps24
    go_wp2
    go_loopw [4, 10] (fun v4 v10 wr => ∃ (k : Nat) (bs : List Bool), v10 = .int .i64 (k : Int) ∧ k ≤ s.size ∧ bitsL (s.data.toList.take k) = some bs ∧ wr.ownsRow w.heap.size 4 1 v4 bs.length (bs.map boolV) ∧ Below w.heap.size w wr) (fun _ v _ => s.size - (intOf v).toNat)
    case atStart =>
      exact ⟨0, [], rfl, Nat.zero_le _, rfl, World.ownsRow_nil _ _ _ _, Below.refl _ _⟩
    case round =>
      obtain ⟨k, bs, rfl, hk, hbs, hown, hb⟩ := hrel
      have hB := hb.size
      have hlen := bitsL_length _ _ hbs
      rw [List.length_take_of_le (by rw [hsz]; exact hk)] at hlen
      by_cases hp : k < s.size
      · have x1 : ∀ w1, (Instr.index 9 (.string s) (.int .i64 (k : Int))).run Tryd.prog w1 = .ok (.int .u8 (s[k]).toNat) w1 := by
          intro w1
          rw [run_index_string w1 9 s .i64 _ Tryd.underlying9, dif_pos ⟨by omega, by omega⟩]
          simp only [Int.toNat_natCast]
        have hst := bitsL_app (s.data.toList.take k) [s[k]]
        rw [← take_succ_byte s k hp, hbs] at hst
        have hall := bitsL_app (s.data.toList.take (k + 1)) (s.data.toList.drop (k + 1))
        rw [List.take_append_drop] at hall
        have hne : s.data.toList ≠ [] := fun e => by rw [e] at hsz; simp at hsz; omega
        have hu : unbitsS s.data.toList = bitsL s.data.toList := by unfold unbitsS; rw [if_neg hd1, if_neg hne]
        have hcs : s[k].toNat < 256 := s[k].toNat_lt
        have h48 : s[k] = 48 ↔ s[k].toNat = 48 := by rw [← UInt8.toNat_inj]; rfl
        have h49 : s[k] = 49 ↔ s[k].toNat = 49 := by rw [← UInt8.toNat_inj]; rfl
        clear hbs
        by_cases hgood : s[k].toNat = 48 ∨ s[k].toNat = 49
        · rcases hgood with hgood | hgood
          · have hst' : bitsL (s.data.toList.take (k + 1)) = some (bs ++ [false]) := by
              rw [hst]
              simp [bitsL, h48.2 hgood]
            clear hst hall h48 h49 hne hcs
            rw [hgood] at x1
            clear hgood
            go_wp2_with (at_builtin; refine wpList_append_own _ rfl _ _ 25 rfl w.heap.size 4 i0 (.bool false) 1 1 Tryd.underlying25 hi hz0 hz1 hz2 rfl (by decide) _ _ _ rfl (hown.alloc _) ⟨wr.heap.size, 0, none⟩ 1 1 [.bool false] rfl rfl ?c1 ?c2 ?c3 ?c4 ?c5 ?_)
            case c1 =>
              intro j u hj
              match j, hj with
              | 0, hj => simp at hj; subst hj; simp [Addr.add]
            case c2 => intro u hu; simp at hu; subst hu; rfl
            case c3 => unfold maxLen; omega
            case c4 => omega
            case c5 => simp; omega
            intro v' w2 hown' hgrow _
            have hb2 : Below w.heap.size w w2 := (hb.alloc hB _).grown hgrow (by simp; omega) (fun q hq => (hown.lt q hq).1)
            go_wp2
            go_roundw
            case rel =>
              have R : ((k : Int) + 1 = ((k + 1 : Nat) : Int)) ∧ k + 1 ≤ s.size ∧ bitsL (s.data.toList.take (k + 1)) = some (bs ++ [false]) ∧ w2.ownsRow w.heap.size 4 1 v' (bs ++ [false]).length ((bs ++ [false]).map boolV) ∧ Below w.heap.size w w2 := by
                refine ⟨by omega, by omega, hst', ?_, hb2⟩
                rw [List.length_append, List.map_append]
                first | exact hown' | (rw [hlen]; exact hown')
              first
                | exact ⟨k + 1, _, by rw [← R.1], R.2⟩
                | ((repeat apply Exists.intro); exact ⟨⟨k + 1, _, by rw [← R.1], R.2⟩, rfl⟩)
            case measure =>
              simp [intOf]
              omega
          · have hst' : bitsL (s.data.toList.take (k + 1)) = some (bs ++ [true]) := by
              rw [hst]
              simp [bitsL, h49.2 hgood]
            clear hst hall h48 h49 hne hcs
            rw [hgood] at x1
            clear hgood
            go_wp2_with (at_builtin; refine wpList_append_own _ rfl _ _ 25 rfl w.heap.size 4 i0 (.bool false) 1 1 Tryd.underlying25 hi hz0 hz1 hz2 rfl (by decide) _ _ _ rfl (hown.alloc _) ⟨wr.heap.size, 0, none⟩ 1 1 [.bool true] rfl rfl ?c1 ?c2 ?c3 ?c4 ?c5 ?_)
            case c1 =>
              intro j u hj
              match j, hj with
              | 0, hj => simp at hj; subst hj; simp [Addr.add]
            case c2 => intro u hu; simp at hu; subst hu; rfl
            case c3 => unfold maxLen; omega
            case c4 => omega
            case c5 => simp; omega
            intro v' w2 hown' hgrow _
            have hb2 : Below w.heap.size w w2 := (hb.alloc hB _).grown hgrow (by simp; omega) (fun q hq => (hown.lt q hq).1)
            go_wp2
            go_roundw
            case rel =>
              have R : ((k : Int) + 1 = ((k + 1 : Nat) : Int)) ∧ k + 1 ≤ s.size ∧ bitsL (s.data.toList.take (k + 1)) = some (bs ++ [true]) ∧ w2.ownsRow w.heap.size 4 1 v' (bs ++ [true]).length ((bs ++ [true]).map boolV) ∧ Below w.heap.size w w2 := by
                refine ⟨by omega, by omega, hst', ?_, hb2⟩
                rw [List.length_append, List.map_append]
                first | exact hown' | (rw [hlen]; exact hown')
              first
                | exact ⟨k + 1, _, by rw [← R.1], R.2⟩
                | ((repeat apply Exists.intro); exact ⟨⟨k + 1, _, by rw [← R.1], R.2⟩, rfl⟩)
            case measure =>
              simp [intOf]
              omega
        · have hbad : unbitsS s.data.toList = none := by
            rw [hu, hall, hst]
            have : bitsL [s[k]] = none := by
              simp only [bitsL]
              rw [if_neg (fun h => hgood (Or.inl (h48.1 h))), if_neg (fun h => hgood (Or.inr (h49.1 h)))]
            rw [this]
            cases bs <;> rfl
          have hb48 : ((s[k].toNat : Int) != 48) = true := by
            rw [bne_iff_ne]
            omega
          have hb49 : ((s[k].toNat : Int) != 49) = true := by
            rw [bne_iff_ne]
            omega
          clear hst hall h48 h49 hne hown hu hcs hgood
          generalize s[k].toNat = c at *
          go_wp2
          go_ret2
          exact ⟨_, _, rfl, by rw [hbad]; rfl, (fun bs h => by rw [hbad] at h; cases h), hb⟩
      · have hk : k = s.size := by omega
        rw [hk, List.take_of_length_le (by rw [hsz]; exact Nat.le_refl _)] at hbs
        have hown' := hown
        obtain ⟨hl, ⟨rfl, h0⟩ | ⟨g, cap, cur, rfl, _, _, _⟩⟩ := hown
        · have he : unbitsS s.data.toList = none := by
            unfold unbitsS
            rw [if_neg hd1, if_pos (List.eq_nil_of_length_eq_zero (by rw [hsz]; omega))]
          go_wp2
          go_ret2
          exact ⟨_, _, rfl, by rw [he]; rfl, (fun bs h => by rw [he] at h; cases h), hb⟩
        · by_cases h0 : 0 < bs.length
          · have he : unbitsS s.data.toList = some bs := by
              unfold unbitsS
              rw [if_neg hd1, if_neg (fun e => by rw [e] at hsz; simp at hsz; omega), hbs]
            go_wp2
            go_ret2
            exact ⟨_, _, rfl, by rw [he]; exact decide_eq_true (by omega), (fun bs' h => by rw [he] at h; cases h; exact hown'), hb⟩
          · have he : unbitsS s.data.toList = none := by
              unfold unbitsS
              rw [if_neg hd1, if_pos (List.eq_nil_of_length_eq_zero (by rw [hsz]; omega))]
            go_wp2
            go_ret2
            exact ⟨_, _, rfl, by rw [he]; exact decide_eq_false (by omega), (fun bs h => by rw [he] at h; cases h), hb⟩
  · have hd1 : s.data.toList = [45] := by rw [← toL]; exact eq_of_beq hd
    go_enter Tryd.func24, Tryd.ntmps24
    go_wp2
    go_ret2
    have hu : unbitsS s.data.toList = some [] := by unfold unbitsS; rw [if_pos hd1]
    exact ⟨_, _, rfl, by rw [hu]; rfl, (fun bs h => by rw [hu] at h; cases h; exact World.ownsRow_nil _ _ _ _), Below.refl _ _⟩
end Go.Proofs.YtcdpepaffpboeaaDoor
