/- script.numbers, walked. -/
import Derived.Test.YtcdpepaffpboeaaDoorScKind
import Derived.Laws.OwnMore
namespace Go.Proofs.YtcdpepaffpboeaaDoor
open Go.RowKit Go.Shelf
theorem Tryd.number_s (s : ByteArray) (hmax : s.size ≤ 281474976710656) {w : World} (h : SVars w) :
    Calls Tryd.prog 33 #[.string s] w fun e w' => (∃ m : Int, e = .returned (.tuple #[.int .i64 m, .bool (numOk s.data.toList).isSome]) ∧ ∀ v, numOk s.data.toList = some v → m = v) ∧ Below w.heap.size w w' :=
  Tryd.number_walk s hmax w h.syn h.rng fun _ hb => (h.below hb).pow
theorem ownsRow_below {w w' : World} {base : Nat} {e : TypeId} {size n : Nat} {v : Value} {xs : List Value} (h : w.ownsRow base e size v n xs) (hb : Below w.heap.size w w') : w'.ownsRow base e size v n xs := by
  obtain ⟨hl, h0 | ⟨g, cap, cur, hv, hbs, hh, r⟩⟩ := h
  · exact ⟨hl, .inl h0⟩
  · exact ⟨hl, .inr ⟨g, cap, cur, hv, hbs, by rw [hb.block g (lt_of_block hh)]; exact hh, r⟩⟩
/-- Numbers of words. -/
def numsF : List ByteArray → Option (List Int)
  | [] => some []
  | s :: r => match numOk s.data.toList with
    | some v => (numsF r).map (v :: ·)
    | none => none
theorem numsF_app : ∀ (a b : List ByteArray), numsF (a ++ b) = (numsF a).bind fun x => (numsF b).map (x ++ ·)
  | [], b => by simp [numsF]
  | s :: a, b => by
    simp only [List.cons_append, numsF, numsF_app a b]
    cases numOk s.data.toList with
    | none => rfl
    | some v => cases numsF a <;> cases numsF b <;> rfl
theorem numsF_length : ∀ (a : List ByteArray) (ns : List Int), numsF a = some ns → ns.length = a.length
  | [], ns, h => by cases h; rfl
  | s :: a, ns, h => by
    simp only [numsF] at h
    cases hq : numOk s.data.toList with
    | none => rw [hq] at h; cases h
    | some v =>
      rw [hq] at h
      cases hm : numsF a with
      | none => rw [hm] at h; cases h
      | some x =>
        rw [hm] at h
        cases h
        simp [numsF_length a x hm]
def intV (v : Int) : Value := .int .i64 v
theorem take_succ_get {α : Type} (l : List α) (k : Nat) (h : k < l.length) : l.take (k + 1) = l.take k ++ [l[k]] := (List.take_append_getElem h).symm
theorem Tryd.infoInt : (Tryd.prog.info? 3).map (fun i => (i.zero, i.size, i.bytes)) = some (some (.int .i64 0), 1, 8) := by kernel_rfl
set_option maxHeartbeats 2000000 in
set_option maxRecDepth 1000000 in
theorem Tryd.numbers_walk (g o : Nat) (ws : List ByteArray) (cap : Nat) (w : World) (hS : SVars w) (hn : ws.length ≤ 1000) (hz : ∀ (i : Nat) (h : i < ws.length), ws[i].size ≤ 281474976710656) (hg : g < w.heap.size) (hc : ∀ (i : Nat) (h : i < ws.length), w.cell? ⟨g, o + i, none⟩ = some (.string ws[i])) :
    Calls Tryd.prog 22 #[.slice (some ⟨g, o, none⟩) ws.length cap] w fun e w' => ∃ v b, e = .returned (.tuple #[v, .bool b]) ∧ b = (numsF ws).isSome ∧ (∀ ns, numsF ws = some ns → w'.ownsRow w.heap.size 3 1 v ns.length (ns.map intV)) ∧ Below w.heap.size w w' := by
  obtain ⟨i0, hi, hz0, hz1, hz2⟩ := info_parts Tryd.infoInt
  go_enter Tryd.func22, Tryd.ntmps22
  go_wp2
  go_loopw [4, 11] (fun v4 v11 wr => ∃ (k : Nat) (ns : List Int), v11 = .int .i64 (k : Int) ∧ k ≤ ws.length ∧ numsF (ws.take k) = some ns ∧ wr.ownsRow w.heap.size 3 1 v4 ns.length (ns.map intV) ∧ Below w.heap.size w wr) (fun _ v _ => ws.length - (intOf v).toNat)
  case atStart =>
    exact ⟨0, [], rfl, Nat.zero_le _, rfl, World.ownsRow_nil _ _ _ _, Below.refl _ _⟩
  case round =>
    obtain ⟨k, ns, rfl, hk, hns, hown, hb⟩ := hrel
    have hB := hb.size
    have hlen := numsF_length _ _ hns
    rw [List.length_take_of_le hk] at hlen
    by_cases hp : k < ws.length
    · have hck : wr.cell? ⟨g, o + k, none⟩ = some (.string ws[k]) := by rw [hb.cell (p := ⟨g, o + k, none⟩) hg]; exact hc k hp
      have hzk := hz k hp
      have hst := numsF_app (ws.take k) [ws[k]]
      rw [← take_succ_get ws k hp, hns] at hst
      have hall := numsF_app (ws.take (k + 1)) (ws.drop (k + 1))
      rw [List.take_append_drop] at hall
      clear hc hz hns
      generalize ws[k] = s at hck hzk hst
      go_wp2_with (go_at_call 33; refine (Tryd.number_s s hzk (hS.below hb)).mono ?_)
      rintro e w1 ⟨⟨m, rfl, hm⟩, b1⟩
      have hb1 := below_next hb b1
      have hown1 := ownsRow_below hown b1
      cases hq : numOk s.data.toList with
      | none =>
        have hst' : numsF (ws.take (k + 1)) = none := by rw [hst]; simp [numsF, hq]
        rw [hst'] at hall
        clear hst hm hst' hown hown1
        simp only [Option.isSome_none]
        go_wp2
        go_ret2
        exact ⟨_, _, rfl, by rw [hall]; rfl, (fun ns h => by rw [hall] at h; cases h), hb1⟩
      | some v =>
        obtain rfl := hm v hq
        have hst' : numsF (ws.take (k + 1)) = some (ns ++ [m]) := by rw [hst]; simp [numsF, hq]
        clear hst hall hown hm
        simp only [Option.isSome_some]
        have hB1 := hb1.size
        go_wp2_with (at_builtin; refine wpList_append_own _ rfl _ _ 52 rfl w.heap.size 3 i0 (.int .i64 0) 1 8 Tryd.underlying52 hi hz0 hz1 hz2 rfl (by decide) _ _ _ rfl (hown1.alloc _) ⟨w1.heap.size, 0, none⟩ 1 1 [.int .i64 m] rfl rfl ?c1 ?c2 ?c3 ?c4 ?c5 ?_)
        case c1 =>
          intro j u hj
          match j, hj with
          | 0, hj => simp at hj; subst hj; simp [Addr.add]
        case c2 => intro u hu; simp at hu; subst hu; rfl
        case c3 => unfold maxLen; omega
        case c4 => omega
        case c5 => simp; omega
        intro v' w2 hown' hgrow _
        have hb2 : Below w.heap.size w w2 := (hb1.alloc hB1 _).grown hgrow (by simp; omega) (fun q hq => (hown1.lt q hq).1)
        go_wp2
        go_roundw
        case rel =>
          have R : ((k : Int) + 1 = ((k + 1 : Nat) : Int)) ∧ k + 1 ≤ ws.length ∧ numsF (ws.take (k + 1)) = some (ns ++ [m]) ∧ w2.ownsRow w.heap.size 3 1 v' (ns ++ [m]).length ((ns ++ [m]).map intV) ∧ Below w.heap.size w w2 := by
            refine ⟨by omega, by omega, hst', ?_, hb2⟩
            rw [List.length_append, List.map_append, hlen]
            exact hown'
          first
            | exact ⟨k + 1, _, by rw [← R.1], R.2⟩
            | ((repeat apply Exists.intro); exact ⟨⟨k + 1, _, by rw [← R.1], R.2⟩, rfl⟩)
        case measure =>
          simp [intOf]
          omega
    · have hk : k = ws.length := by omega
      rw [hk, List.take_length] at hns
      clear hc hz
      go_wp2
      go_ret2
      exact ⟨_, _, rfl, by rw [hns]; rfl, (fun ns' h => by rw [hns] at h; cases h; exact hown), hb⟩
end Go.Proofs.YtcdpepaffpboeaaDoor
