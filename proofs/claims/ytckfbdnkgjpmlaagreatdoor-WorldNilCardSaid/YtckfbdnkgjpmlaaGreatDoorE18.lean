/- E, part 18: append; a text as bytes; ranges. -/
import Derived.Test.YtckfbdnkgjpmlaaGreatDoorE17
namespace Ab
open Go

variable {P : Program} {cx : Ctx} {ρ : Env}

/-- The common ground of the ways of append. -/
structure App (P : Program) (ρ : Env) (cx : Ctx) (L : Nat → Loc) (st : St) (w : World) (t u el : TypeId) (ei : TI) (z : Value) (n : Nat) (new : List AV) (sv : AV) (s x : Value) : Prop where
  ut : P.underlying t = some (.slice el)
  uu : ∃ d, P.underlying u = some d ∧ ∀ k, d ≠ .int k
  info : P.info? el = some ei.info
  zero : ei.info.zero = some z
  zsize : z.cells.size = ei.info.size
  size : 1 ≤ ei.info.size
  fx : FxOk ρ st.fx
  sim : ∀ L', Agree st.nx L L' → Sim L' ρ st.H w
  s_ : ∀ L', Agree st.nx L L' → s = conc L' ρ sv
  len : ∀ w, (Builtin.lenOf x).run P w = .ok n w
  news : ∀ L' w', Agree st.nx L L' → w'.heap = w.heap → (Builtin.firstCells ei.info.size n x).run P w' = .ok (new.map (conc L' ρ)).toArray w'
  nlen : new.length = n * ei.info.size

theorem appNew_sound {L : Nat → Loc} {st st' : St} {w : World} {t u el : TypeId} {ei : TI} {z : Value} {n : Nat} {new : List AV} {sv v : AV} {s x : Value} (A : App P ρ cx L st w t u el ei z n new sv s x)
    {base : Option Addr} {len cap bytes : Nat} (hsl : s = .slice base len cap) (hc : cap < len + n) (hb : (bytes + 1) * (len + n) ≤ 16777216) (hby : ei.info.bytes = bytes)
    (h : (appNew st el ei.info.size n new sv len).at_ ρ = some (v, st')) (ty : TypeId) :
    ∃ y w', (Builtin.append_ #[t, u] ty #[s, x]).run P w = .ok y w' ∧ Turns ρ L st w v st' y w' := by
  unfold appNew at h
  replace h := T.at_bind_some.1 h
  obtain ⟨old, hold, h⟩ := h
  replace h := chk_at h; obtain ⟨hol, h⟩ := h
  have hol := Nat.eq_of_beq_eq_true hol
  rw [llen_eq] at hol
  replace h := ret_at h; obtain ⟨rfl, rfl⟩ := h
  obtain ⟨uds, hu, hui⟩ := A.uu
  have hof : ∀ L' w', Agree st.nx L L' → w'.heap = w.heap → (Builtin.firstCells ei.info.size len s).run P w' = .ok (old.map (conc L' ρ)).toArray w' := fun L' w' ha hw => by
    rw [A.s_ L' ha]; exact firstE_sound hold L' w' ((A.sim L' ha).keep hw)
  have hoe : ∀ L', Agree st.nx L L' → old.map (conc L ρ) = old.map (conc L' ρ) := fun L' ha => cs_same (hof L w (Agree.refl _ _) rfl) (hof L' w ha rfl)
  have hne : ∀ L', Agree st.nx L L' → new.map (conc L ρ) = new.map (conc L' ρ) := fun L' ha => cs_same (A.news L w (Agree.refl _ _) rfl) (A.news L' w ha rfl)
  have hrun := run_append_new (ty := ty) A.ut hu hui A.info A.zero (w := w) (base := base) (len := len) (cap := cap) (n := n) (x := x) (old := old.map (conc L ρ)) (new := new.map (conc L ρ)) (A.len w) hc
    (by rw [hby, Nat.mul_comm]; exact hb) (by have := hof L w.drew (Agree.refl _ _) rfl; rw [hsl] at this; exact this) (A.news L w.drew (Agree.refl _ _) rfl)
  rw [hsl]
  have hge := grownCap_ge w (len + n) cap el
  refine ⟨_, _, hrun, Turns.new (k := grownCap w (len + n) cap el - (len + n)) A.sim A.fx (WNew.push' (w := w) (w1 := w.drew) rfl rfl rfl rfl _) (fun L' ha hn => ?_) (fun L' ha hn => ?_)⟩
  · have : Nat.add len n = len + n := rfl
    simp only [conc, hn, if_true, this]
    rw [show len + n + (grownCap w (len + n) cap el - (len + n)) = grownCap w (len + n) cap el by omega]
    simp
  · rw [lapp_eq, show Nat.mul (Nat.add len n) ei.info.size = (old ++ new).length by rw [List.length_append, hol, A.nlen]; exact Nat.add_mul _ _ _]
    refine objAt_list (rest := Builtin.zeroCells z.cells (grownCap w (len + n) cap el - (len + n))) ?_ (by rw [size_zeroCells, A.zsize])
    rw [List.map_append, ← hoe L' ha, ← hne L' ha]
    exact Array.getElem?_push_size

theorem appIn_sound {L : Nat → Loc} {st st' : St} {w : World} {t u el : TypeId} {ei : TI} {z : Value} {n : Nat} {new : List AV} {v : AV} {s x : Value} {id off0 off len cap : Nat} {op : Bool}
    (A : App P ρ cx L st w t u el ei z n new (.slice id off0 off len cap op) s x) (hc : len + n ≤ cap)
    (h : (appIn st ei.info.size n new id off0 off len cap op).at_ ρ = some (v, st')) (ty : TypeId) :
    ∃ y w', (Builtin.append_ #[t, u] ty #[s, x]).run P w = .ok y w' ∧ Turns ρ L st w v st' y w' := by
  unfold appIn at h
  obtain ⟨uds, hu, hui⟩ := A.uu
  have e1 := A.s_ L (Agree.refl _ _)
  cases hn : Nat.beq n 0 with
  | true =>
    have hn := Nat.eq_of_beq_eq_true hn
    subst hn
    rw [show Nat.beq 0 0 = true from rfl, cond_true] at h
    replace h := ret_at h; obtain ⟨rfl, rfl⟩ := h
    refine ⟨s, w, ?_, Turns.same A.sim A.s_ A.fx rfl rfl rfl rfl⟩
    rw [e1]
    simp only [conc]
    have hne := A.news L w (Agree.refl _ _) rfl
    have hz : new = [] := List.length_eq_zero_iff.1 (by rw [A.nlen]; simp)
    subst hz
    exact run_append_in (ty := ty) A.ut hu hui A.info (new := []) (A.len w) (by omega) hne rfl
  | false =>
    rw [hn, cond_false] at h
    have hn0 : n ≠ 0 := fun hh => by rw [hh] at hn; cases hn
    replace h := chk_at h; obtain ⟨hid, h⟩ := h
    have hid := Nat.le_of_ble_eq_true hid
    replace h := withCells_at h; obtain ⟨tr, d, m, el', sz, ho, h⟩ := h
    replace h := chk_at h; obtain ⟨hone, h⟩ := h
    replace h := chk_at h; obtain ⟨hm, h⟩ := h
    have hm : off + (len + n) * ei.info.size ≤ m := Nat.le_of_ble_eq_true hm
    replace h := ret_at h; obtain ⟨rfl, rfl⟩ := h
    have hmm : off + len * ei.info.size + new.length ≤ m := by rw [A.nlen, Nat.add_assoc, ← Nat.add_mul]; exact hm
    obtain ⟨w', c, hrun, hp, hob⟩ := put_cells (P := P) A.sim ho (fun L' ha => ha id hid) (cs := new) (off := off + len * ei.info.size) ((allOne_iff _).1 hone) hmm
      (vs := new.map (conc L ρ)) (fun L' ha => cs_same (A.news L w (Agree.refl _ _) rfl) (A.news L' w ha rfl))
    refine ⟨conc L ρ (.slice id off0 off (Nat.add len n) cap op), w', ?_, Turns.put A.sim A.fx ho (fun L' ha => by rw [ha id hid]) hp (fun L' ha => by simp only [conc, ha id hid]) hob⟩
    rw [e1]
    simp only [conc]
    rw [if_neg (by omega)]
    refine run_append_in (ty := ty) A.ut hu hui A.info (new := new.map (conc L ρ)) (A.len w) (by omega) (A.news L w (Agree.refl _ _) rfl) ?_
    simp only [addr_add]
    rw [Nat.add_assoc]
    exact hrun

theorem appOpen_sound {L : Nat → Loc} {st st' : St} {w : World} {t u el : TypeId} {ei : TI} {z : Value} {n : Nat} {new : List AV} {v : AV} {s x : Value} {id off0 off len cap bytes : Nat}
    (A : App P ρ cx L st w t u el ei z n new (.slice id off0 off len cap true) s x) (hb : (bytes + 1) * (len + n) ≤ 16777216) (hby : ei.info.bytes = bytes)
    (h : (appOpen st el ei.info.size n new id off len cap).at_ ρ = some (v, st')) (ty : TypeId) :
    ∃ y w', (Builtin.append_ #[t, u] ty #[s, x]).run P w = .ok y w' ∧ Turns ρ L st w v st' y w' := by
  unfold appOpen at h
  obtain ⟨uds, hu, hui⟩ := A.uu
  have e1 := A.s_ L (Agree.refl _ _)
  replace h := chk_at h; obtain ⟨hid, h⟩ := h
  have hid := Nat.le_of_ble_eq_true hid
  replace h := chk_at h; obtain ⟨hlc, h⟩ := h
  have hlc := Nat.le_of_ble_eq_true hlc
  replace h := chk_at h; obtain ⟨hcap, h⟩ := h
  have hcap := Nat.le_of_ble_eq_true hcap
  replace h := withCells_at h; obtain ⟨tr, d, m, el', sz, ho, h⟩ := h
  replace h := chk_at h; obtain ⟨hel, h⟩ := h
  have hel := Nat.eq_of_beq_eq_true hel
  subst hel
  replace h := chk_at h; obtain ⟨hsz, h⟩ := h
  have hsz := Nat.eq_of_beq_eq_true hsz
  subst hsz
  replace h := chk_at h; obtain ⟨hm, h⟩ := h
  have hm : off + cap * ei.info.size = m := Nat.eq_of_beq_eq_true hm
  replace h := chk_at h; obtain ⟨hone, h⟩ := h
  replace h := T.at_opt_some.1 h; obtain ⟨old, hold, h⟩ := h
  replace h := ret_at h; obtain ⟨rfl, rfl⟩ := h
  obtain ⟨hol, hog⟩ := gather_some hold
  have hol : old.length = len * ei.info.size := hol
  have hol2 : off + len * ei.info.size ≤ m := by
    have := Nat.mul_le_mul_right ei.info.size hlc
    omega
  have hof : ∀ L' w', Agree st.nx L L' → w'.heap = w.heap → (Builtin.firstCells ei.info.size len s).run P w' = .ok (old.map (conc L' ρ)).toArray w' := fun L' w' ha hw => by
    rw [A.s_ L' ha]
    simp only [conc, Builtin.firstCells]
    rw [if_neg (by omega)]
    exact ((A.sim L' ha).keep hw).cells ho hol2 hold
  have hoe : ∀ L', Agree st.nx L L' → old.map (conc L ρ) = old.map (conc L' ρ) := fun L' ha => cs_same (hof L w (Agree.refl _ _) rfl) (hof L' w ha rfl)
  have hne : ∀ L', Agree st.nx L L' → new.map (conc L ρ) = new.map (conc L' ρ) := fun L' ha => cs_same (A.news L w (Agree.refl _ _) rfl) (A.news L' w ha rfl)
  have hlen : Nat.mul (Nat.add len n) ei.info.size = (old ++ new).length := by rw [List.length_append, hol, A.nlen]; exact Nat.add_mul _ _ _
  have e1' : s = .slice (some ⟨(L id).b, (L id).o + off, none⟩) len (cap + (L id).x) := by
    rw [e1]
    simp only [conc, if_true]
    rw [if_neg (by omega)]
  by_cases hroom : len + n ≤ cap + (L id).x
  · obtain ⟨c, fz, hcs, hcsz, hfz, hk, _⟩ := (A.sim L (Agree.refl _ _)).at_ id _ ho
    have hmul := Nat.mul_le_mul_right ei.info.size hroom
    rw [Nat.add_mul, Nat.add_mul] at hmul
    have hnl := A.nlen
    obtain ⟨w', c', hrun, hp, hsz', hcells⟩ := run_storeCells (P := P) (b := (L id).b) (s := (L id).o + off + len * ei.info.size) (new.map (conc L ρ)) 0 w c hcs (by rw [List.length_map]; omega) hfz (fun y hy => by
      obtain ⟨y', hy', rfl⟩ := List.mem_map.1 hy
      exact one_conc ((allOne_iff _).1 hone y' hy') L)
    refine ⟨.slice (some ⟨(L id).b, (L id).o + off, none⟩) (len + n) (cap + (L id).x), w', ?_, ?_⟩
    · rw [e1']
      refine run_append_in (ty := ty) A.ut hu hui A.info (new := new.map (conc L ρ)) (A.len w) hroom (A.news L w (Agree.refl _ _) rfl) ?_
      simp only [addr_add]
      exact hrun
    · refine Turns.move (l := ⟨(L id).b, (L id).o + off, cap + (L id).x - (len + n)⟩) A.sim A.fx ho hid hp rfl (fun L' ha hn => ?_) (fun L' ha hn => ?_)
      · have : Nat.add len n = len + n := rfl
        simp only [conc, hn, if_true, this]
        rw [show len + n + (cap + (L id).x - (len + n)) = cap + (L id).x by omega, if_neg (by omega)]
        rfl
      · refine ⟨c', fz, hp.at_, ?_, fun j hj => hfz j (by rw [← hsz']; exact hj), fun i v hi hv => ?_, fun h0 => by have := A.size; omega⟩
        · rw [hsz', hcsz]
          show _ = (L id).o + off + (len + n) * ei.info.size + (cap + (L id).x - (len + n)) * ei.info.size
          rw [Nat.sub_mul, Nat.add_mul, Nat.add_mul]
          omega
        · rw [lapp_eq, look_ofList] at hv
          rw [hcells]
          simp only [List.length_map, Nat.add_zero]
          rw [List.getElem?_append] at hv
          by_cases hi2 : i < old.length
          · rw [if_pos hi2] at hv
            rw [if_neg (by omega), Nat.add_assoc]
            obtain ⟨y, hy1, hy2⟩ := hog i (by show i < len * ei.info.size; omega)
            rw [hv] at hy2
            simp only [Option.some.injEq] at hy2
            subst hy2
            obtain ⟨c2, fz2, hc2, _, _, hk2, _⟩ := (A.sim L' ha).at_ id _ ho
            rw [ha id hid] at hc2 hk2
            rw [hcs] at hc2
            simp only [Option.some.injEq, Obj.cells.injEq] at hc2
            obtain ⟨rfl, _, _⟩ := hc2
            exact hk2 (off + i) v (by omega) hy1
          · rw [if_neg hi2] at hv
            have hi : i < Nat.mul (Nat.add len n) ei.info.size := hi
            rw [hlen, List.length_append] at hi
            rw [if_pos (by omega), hne L' ha, show (L id).o + off + i - ((L id).o + off + len * ei.info.size) = i - old.length by omega]
            simp [hv]
  · have hrun := run_append_new (ty := ty) A.ut hu hui A.info A.zero (w := w) (base := some ⟨(L id).b, (L id).o + off, none⟩) (len := len) (cap := cap + (L id).x) (n := n) (x := x) (old := old.map (conc L ρ)) (new := new.map (conc L ρ)) (A.len w) (by omega)
      (by rw [hby, Nat.mul_comm]; exact hb) (by have := hof L w.drew (Agree.refl _ _) rfl; rw [e1'] at this; exact this) (A.news L w.drew (Agree.refl _ _) rfl)
    rw [e1']
    have hge := grownCap_ge w (len + n) (cap + (L id).x) el'
    refine ⟨_, _, hrun, Turns.weaken (H0 := st.H.upd id none) (fun i o hi => ?_) ?_⟩
    · rw [Tr.get_upd] at hi
      split at hi
      · cases hi
      · exact hi
    refine Turns.new (st := ⟨st.H.upd id none, st.nx, st.fx⟩) (k := grownCap w (len + n) (cap + (L id).x) el' - (len + n)) (fun L' ha => ?_) A.fx (WNew.push' (w := w) (w1 := w.drew) rfl rfl rfl rfl _) (fun L' ha hn => ?_) (fun L' ha hn => ?_)
    · have hsim := A.sim L' ha
      have sub : ∀ i o, (st.H.upd id none).get i = some o → st.H.get i = some o := fun i o hi => by
        rw [Tr.get_upd] at hi
        split at hi
        · cases hi
        · exact hi
      exact ⟨fun i o hi => hsim.at_ i o (sub i o hi), fun i j oi oj hi hj => hsim.inj i j oi oj (sub i oi hi) (sub j oj hj), hsim.pin⟩
    · have : Nat.add len n = len + n := rfl
      have hn : L' st.nx = _ := hn
      simp only [conc, hn, if_true, this]
      rw [show len + n + (grownCap w (len + n) (cap + (L id).x) el' - (len + n)) = grownCap w (len + n) (cap + (L id).x) el' by omega]
      simp
    · rw [lapp_eq, hlen]
      refine objAt_list (rest := Builtin.zeroCells z.cells (grownCap w (len + n) (cap + (L id).x) el' - (len + n))) ?_ (by rw [size_zeroCells, A.zsize])
      rw [List.map_append, ← hoe L' ha, ← hne L' ha]
      exact Array.getElem?_push_size
end Ab
