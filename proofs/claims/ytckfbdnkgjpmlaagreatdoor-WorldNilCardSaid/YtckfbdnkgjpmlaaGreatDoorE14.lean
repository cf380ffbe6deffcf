/- E, part 14: operations that make memory. -/
import Derived.Test.YtckfbdnkgjpmlaaGreatDoorE13
namespace Ab
open Go

variable {P : Program} {cx : Ctx} {ρ : Env}

theorem look_ofList (l : List AV) (i : Nat) : look (Tr.ofList l) none i = l[i]? := by
  unfold look
  rw [Tr.get_ofList]
  cases l[i]? <;> rfl
theorem objAt_list {L : Nat → Loc} {w : World} {b k sz : Nat} {el : TypeId} {cs : List AV} {rest : Array Value} (h : w.heap[b]? = some (.cells ((cs.map (conc L ρ)).toArray ++ rest) el)) (hr : rest.size = k * sz) :
    ObjAt L ρ w ⟨b, 0, k⟩ (.cells (Tr.ofList cs) none cs.length el sz) := by
  refine ⟨_, _, h, by simp [hr], fun i _ => by simp, fun i v hi hv => ?_, fun _ => rfl⟩
  rw [look_ofList] at hv
  simp only [Nat.zero_add]
  rw [Array.getElem?_append_left (by simpa using hi)]
  simp [hv]
theorem lrep_length {α : Type} (l : List α) (n : Nat) : (lrep l n).length = n * l.length := by
  induction n with
  | zero => rw [show lrep l 0 = [] from rfl]; simp
  | succ n ih =>
    have e : lrep l (n + 1) = lapp l (lrep l n) := rfl
    rw [e, lapp_eq, List.length_append, ih, Nat.succ_mul]
    omega
theorem lrep_get {α : Type} (l : List α) : ∀ (n i : Nat), i < n * l.length → (lrep l n)[i]? = l[i % l.length]? := by
  intro n
  induction n with
  | zero => intro i h; simp at h
  | succ n ih =>
    intro i h
    have e : lrep l (n + 1) = lapp l (lrep l n) := rfl
    rw [e, lapp_eq, List.getElem?_append]
    rw [Nat.succ_mul] at h
    split
    · rename_i hi
      rw [Nat.mod_eq_of_lt hi]
    · rename_i hi
      rw [ih (i - l.length) (by omega)]
      rw [← Nat.mod_eq_sub_mod (Nat.le_of_not_lt hi)]
theorem range_rep (vs : Array Value) (n m : Nat) (hm : m = n * vs.size) : (Array.range m).map (fun i => vs[i % vs.size]!) = (lrep vs.toList n).toArray := by
  apply Array.ext_getElem?
  intro i
  rw [Array.getElem?_map]
  by_cases hi : i < m
  · have hpos : 0 < vs.size := by
      rcases Nat.eq_zero_or_pos vs.size with h | h
      · rw [h] at hm; simp at hm; omega
      · exact h
    have hlt : i % vs.size < vs.size := Nat.mod_lt _ hpos
    rw [show (lrep vs.toList n).toArray[i]? = (lrep vs.toList n)[i]? by simp, lrep_get _ _ _ (by simp; omega)]
    simp [hi, hlt, getElem!_pos]
  · have h2 : ¬ i < (lrep vs.toList n).length := by rw [lrep_length]; simp; omega
    simp [hi, List.getElem?_eq_none (Nat.le_of_not_lt h2)]
theorem lrep_map {α β : Type} (f : α → β) (l : List α) (n : Nat) : (lrep l n).map f = lrep (l.map f) n := by
  induction n with
  | zero => rfl
  | succ n ih =>
    have e : lrep l (n + 1) = lapp l (lrep l n) := rfl
    have e' : lrep (l.map f) (n + 1) = lapp (l.map f) (lrep (l.map f) n) := rfl
    rw [e, e', lapp_eq, lapp_eq, List.map_append, ih]

/-- OPERATIONS THAT MAKE MEMORY. -/
theorem allocE_core (ok : cx.Ok P) {g : Operand → Option AV} {op : Op} {fx : Facts} {ao : AObj} {f : Nat → AV} (hx : FxOk ρ fx) (h : (allocE cx g op fx).at_ ρ = some (ao, f)) (L : Nat → Loc) (w : World)
    (a : Operand → Value) (hg0 : GRel L ρ g a) (o : Oper) (ho : o.op = op) :
    ∃ x c, (execOp a o).run P w = .ok (.value x) { w with heap := w.heap.push c } ∧
      ∀ L', GRel L' ρ g a → ∀ m, L' m = ⟨w.heap.size, 0, 0⟩ → x = conc L' ρ (f m) ∧ ObjAt L' ρ { w with heap := w.heap.push c } ⟨w.heap.size, 0, 0⟩ ao := by
  unfold allocE at h
  split at h
  case h_1 t =>
    replace h := tyE_at.1 h; obtain ⟨ti, ht, h⟩ := h
    replace h := T.at_opt_some.1 h; obtain ⟨z, hz, h⟩ := h
    replace h := ret_at h; obtain ⟨rfl, rfl⟩ := h
    refine ⟨.pointer (some ⟨w.heap.size, 0, none⟩), (.cells (conc L ρ z).cells t), ?_, ?_⟩
    · unfold execOp; rw [ho]
      simp only [Instr.alloc, Sem.run_bind, ok.run_zero (ρ := ρ) ht hz L w, Result.andThen_ok, newVar, newRow, run_newObj, Sem.run_pure]
    · refine fun L' ha m hn => ⟨by simp [conc, hn], ?_⟩
      have e : conc L ρ z = conc L' ρ z := by
        obtain ⟨v, hv, hz'⟩ := ok.zero _ _ _ ht hz
        rw [conc_ofV L ρ hz', conc_ofV L' ρ hz']
      rw [llen_eq]
      refine objAt_list (rest := #[]) ?_ (by simp)
      simp [e, conc_cells]
  case h_2 t x =>
    replace h := gE_at.1 h; obtain ⟨u, hu, h⟩ := h
    replace h := ret_at h; obtain ⟨rfl, rfl⟩ := h
    refine ⟨.pointer (some ⟨w.heap.size, 0, none⟩), (.cells (a x).cells t), ?_, ?_⟩
    · unfold execOp; rw [ho]
      simp only [Instr.box, Sem.run_bind, Result.andThen_ok, newVar, newRow, run_newObj, Sem.run_pure]
    · refine fun L' ha m hn => ⟨by simp [conc, hn], ?_⟩
      rw [llen_eq]
      refine objAt_list (rest := #[]) ?_ (by simp)
      simp [ha _ _ hu, conc_cells]
  case h_3 t len ps =>
    replace h := T.at_opt_some.1 h; obtain ⟨l, hl, h⟩ := h
    replace h := tyE_at.1 h; obtain ⟨ti, ht, h⟩ := h
    have hd := ok.desc _ _ ht
    split at h
    case h_2 => simp [T.at_bad] at h
    rename_i el hdd
    rw [hdd] at hd
    replace h := tyE_at.1 h; obtain ⟨ei, hei, h⟩ := h
    replace h := chk_at h; obtain ⟨hc, h⟩ := h
    have hc : len * ei.info.size ≤ 65536 := Nat.le_of_ble_eq_true hc
    replace h := T.at_opt_some.1 h; obtain ⟨z, hz, h⟩ := h
    replace h := T.at_opt_some.1 h; obtain ⟨cs, hcs, h⟩ := h
    replace h := chk_at h; obtain ⟨hzl, h⟩ := h
    have hzl := Nat.eq_of_beq_eq_true hzl
    rw [llen_eq] at hzl
    replace h := ret_at h; obtain ⟨rfl, rfl⟩ := h
    have fillAt : ∀ L', GRel L' ρ g a → Instr.fill (fun i => some (i * ei.info.size, ei.info.size)) (lrep ((z.cells).map (conc L' ρ)) len).toArray (ps.map fun (i, x) => (i, a x)).toList = some (cs.map (conc L' ρ)).toArray := by
      intro L' ha
      have := overlay_fill (ρ := ρ) L' l (lrep z.cells len) cs hcs
      rw [lrep_map, partsE_map (ha) hl] at this
      rw [← this]
      congr 1
      simp
    have cse : ∀ L', GRel L' ρ g a → (cs.map (conc L ρ)).toArray = (cs.map (conc L' ρ)).toArray := by
      intro L' ha
      have h1 := fillAt L hg0
      have h2 := fillAt L' ha
      obtain ⟨v, hv, hz'⟩ := ok.zero _ _ _ hei hz
      have ez : (z.cells).map (conc L ρ) = (z.cells).map (conc L' ρ) := by
        have a1 := conc_cells L ρ z
        have a2 := conc_cells L' ρ z
        rw [conc_ofV L ρ hz'] at a1
        rw [conc_ofV L' ρ hz', a1] at a2
        exact List.toArray_inj a2
      rw [ez] at h1
      rw [h1] at h2
      exact Option.some.inj h2
    refine ⟨.slice (some ⟨w.heap.size, 0, none⟩) len len, .cells (cs.map (conc L ρ)).toArray el, ?_, ?_⟩
    · unfold execOp; rw [ho]
      have hzz : ∀ k : Array Value → Sem Value, (if len * ei.info.size = 0 then pure #[] >>= k else zeroValue el >>= fun v => pure v.cells >>= k).run P w = (k (if len * ei.info.size = 0 then #[] else (conc L ρ z).cells)).run P w := by
        intro k
        split
        · simp only [Sem.run_bind, Sem.run_pure, Result.andThen_ok]
        · simp only [Sem.run_bind, Sem.run_pure, Result.andThen_ok, ok.run_zero (ρ := ρ) hei hz L w]
      have hcells : (Array.range (len * ei.info.size)).map ((if len * ei.info.size = 0 then #[] else (conc L ρ z).cells)[· % (if len * ei.info.size = 0 then #[] else (conc L ρ z).cells).size]!) =
          (lrep ((z.cells).map (conc L ρ)) len).toArray := by
        have hsz : (conc L ρ z).cells.size = ei.info.size := by rw [conc_cells]; simp [hzl]
        by_cases h0 : len * ei.info.size = 0
        · simp only [h0, if_true]
          have : (lrep ((z.cells).map (conc L ρ)) len) = [] := by
            apply List.length_eq_zero_iff.1
            rw [lrep_length]
            simp only [List.length_map, hzl, h0]
          rw [this]
          simp
        · simp only [h0, if_false]
          rw [range_rep _ len _ (by rw [hsz]), conc_cells]
      unfold Instr.buildSlice
      simp only [Sem.run_bind, run_underlying hd, Result.andThen_ok, ok.run_size hei]
      rw [if_neg (by omega)]
      refine (congrArg (fun r => Result.andThen r _) (hzz _)).trans ?_
      simp only [Result.andThen_ok, hcells, fillAt L hg0, Sem.run_bind, newRow, run_newObj, Sem.run_pure]
    · refine fun L' ha m hn => ⟨by simp [conc, hn], ?_⟩
      rw [llen_eq]
      refine objAt_list (rest := #[]) ?_ (by simp)
      rw [cse L' ha]
      simp
  case h_4 t r =>
    cases r with
    | some r => simp [T.at_bad] at h
    | none =>
      replace h := ret_at h; obtain ⟨rfl, rfl⟩ := h
      refine ⟨.map (some w.heap.size), (.map #[] 0), ?_, ?_⟩
      · unfold execOp; rw [ho]
        simp [Instr.makeMap]
      · refine fun L' ha m hn => ⟨by simp [conc, hn], ?_⟩
        show (w.heap.push (.map #[] 0))[w.heap.size]? = _
        simp
  case h_5 t lo co =>
    replace h := gE_at.1 h; obtain ⟨lv, hlv, h⟩ := h
    replace h := gE_at.1 h; obtain ⟨cv, hcv, h⟩ := h
    replace h := constN_at hx h; obtain ⟨kl, l, hl, h⟩ := h
    replace h := constN_at hx h; obtain ⟨kc, c, hc, h⟩ := h
    replace h := tyE_at.1 h; obtain ⟨ti, ht, h⟩ := h
    have hd := ok.desc _ _ ht
    split at h
    case h_2 => simp [T.at_bad] at h
    rename_i el hdd
    rw [hdd] at hd
    replace h := tyE_at.1 h; obtain ⟨ei, hei, h⟩ := h
    replace h := chk_at h; obtain ⟨h1, h⟩ := h
    have h1 := Nat.le_of_ble_eq_true h1
    replace h := chk_at h; obtain ⟨h2, h⟩ := h
    have h2 : c * ei.info.bytes ≤ 1073741824 := Nat.le_of_ble_eq_true h2
    replace h := chk_at h; obtain ⟨h3, h⟩ := h
    have h3 := Nat.le_of_ble_eq_true h3
    replace h := T.at_opt_some.1 h; obtain ⟨z, hz, h⟩ := h
    replace h := chk_at h; obtain ⟨hzl, h⟩ := h
    have hzl := Nat.eq_of_beq_eq_true hzl
    rw [llen_eq] at hzl
    have hal : a lo = .int kl (.ofNat l) := (hg0 _ _ hlv).trans (hl L)
    have hac : a co = .int kc (.ofNat c) := (hg0 _ _ hcv).trans (hc L)
    have hrun : (execOp a o).run P w = .ok (.value (.slice (some ⟨w.heap.size, 0, none⟩) l c)) { w with heap := w.heap.push (.cells (lrep ((z.cells).map (conc L ρ)) c).toArray el) } := by
      unfold execOp; rw [ho]
      simp only [hal, hac]
      unfold Instr.makeSlice
      simp only [Sem.run_bind, run_underlying hd, Result.andThen_ok, asInt, asIntOf, Sem.run_pure, ok.run_info hei]
      have w1 : IntKind.i64.wrap (Int.ofNat l) = (l : Int) := wrap_in (by show IntKind.i64.min ≤ (l : Int); simp [IntKind.min, IntKind.signed, IntKind.bits]) (by rw [IntKind.max_i64]; show (l : Int) ≤ _; omega)
      have w2 : IntKind.i64.wrap (Int.ofNat c) = (c : Int) := wrap_in (by show IntKind.i64.min ≤ (c : Int); simp [IntKind.min, IntKind.signed, IntKind.bits]) (by rw [IntKind.max_i64]; show (c : Int) ≤ _; omega)
      simp only [w1, w2]
      have hb : ((ei.info.bytes : Int) * (c : Int)) ≤ 1073741824 := by
        have h4 : ((c * ei.info.bytes : Nat) : Int) ≤ ((1073741824 : Nat) : Int) := Int.ofNat_le.2 h2
        rw [Int.natCast_mul, Int.mul_comm] at h4
        exact h4
      have hcond : (decide ((c : Int) < 0) || decide ((ei.info.bytes : Int) * (c : Int) > 2 ^ 48) || decide ((l : Int) < 0) || decide ((l : Int) > (c : Int))) = false := by
        simp
        omega
      rw [if_neg (by rw [hcond]; simp)]
      have hzz : ∀ k : Array Value → Sem Value, (if (c : Int).toNat * ei.info.size = 0 then pure #[] >>= k else zeroValue el >>= fun v => pure v.cells >>= k).run P w = (k (if c * ei.info.size = 0 then #[] else (conc L ρ z).cells)).run P w := by
        intro k
        simp only [Int.toNat_natCast]
        split
        · simp only [Sem.run_bind, Sem.run_pure, Result.andThen_ok]
        · simp only [Sem.run_bind, Sem.run_pure, Result.andThen_ok, ok.run_zero (ρ := ρ) hei hz L w]
      have hcells : (Array.range (c * ei.info.size)).map ((if c * ei.info.size = 0 then #[] else (conc L ρ z).cells)[· % (if c * ei.info.size = 0 then #[] else (conc L ρ z).cells).size]!) =
          (lrep ((z.cells).map (conc L ρ)) c).toArray := by
        have hsz : (conc L ρ z).cells.size = ei.info.size := by rw [conc_cells]; simp [hzl]
        by_cases h0 : c * ei.info.size = 0
        · simp only [h0, if_true]
          have : (lrep ((z.cells).map (conc L ρ)) c) = [] := by
            apply List.length_eq_zero_iff.1
            rw [lrep_length]
            simp only [List.length_map, hzl, h0]
          rw [this]
          simp
        · simp only [h0, if_false]
          rw [range_rep _ c _ (by rw [hsz]), conc_cells]
      simp only [Sem.run_bind, run_askRoom, Result.andThen_ok, ok.run_size hei]
      refine (congrArg (fun r => Result.andThen r _) (hzz _)).trans ?_
      simp only [Result.andThen_ok, Int.toNat_natCast, hcells, newRow, run_newObj, Sem.run_bind, Sem.run_pure]
    have ze : ∀ L', (z.cells).map (conc L ρ) = (z.cells).map (conc L' ρ) := by
      intro L'
      obtain ⟨v, hv, hz'⟩ := ok.zero _ _ _ hei hz
      have a1 := conc_cells L ρ z
      have a2 := conc_cells L' ρ z
      rw [conc_ofV L ρ hz'] at a1
      rw [conc_ofV L' ρ hz', a1] at a2
      exact List.toArray_inj a2
    split at h
    · rename_i v hzc
      replace h := ret_at h; obtain ⟨rfl, rfl⟩ := h
      refine ⟨_, _, hrun, fun L' ha m hn => ⟨by simp [conc, hn], ?_⟩⟩
      refine ⟨(lrep ((z.cells).map (conc L ρ)) c).toArray, _, by show (w.heap.push _)[w.heap.size]? = _; exact Array.getElem?_push_size, ?_, fun i _ => by simp, fun i u hi hu => ?_, fun _ => rfl⟩
      · simp [lrep_length, hzc]
      · have hu : u = v := by
          have : look Tr.nil (some v) i = some v := rfl
          rw [this] at hu
          exact (Option.some.inj hu).symm
        subst hu
        rw [ze L', hzc]
        have := lrep_get [conc L' ρ u] c i (by simpa using hi)
        rw [show i % [conc L' ρ u].length = 0 from Nat.mod_one i] at this
        simp at this ⊢
        exact this
    · rename_i cs hne
      replace h := ret_at h; obtain ⟨rfl, rfl⟩ := h
      refine ⟨_, _, hrun, fun L' ha m hn => ⟨by simp [conc, hn], ?_⟩⟩
      have e : Nat.mul c ei.info.size = (lrep z.cells c).length := by rw [lrep_length, hzl]; rfl
      rw [e]
      refine objAt_list (rest := #[]) ?_ (by simp)
      rw [ze L', lrep_map]
      simp
  case h_6 => simp [T.at_bad] at h
theorem allocE_sound (ok : cx.Ok P) {g : Operand → Option AV} {op : Op} {st : St} {ao : AObj} {f : Nat → AV} (hx : FxOk ρ st.fx) (h : (allocE cx g op st.fx).at_ ρ = some (ao, f)) (L : Nat → Loc) (w : World)
    (hs : ∀ L', Agree st.nx L L' → Sim L' ρ st.H w) (a : Operand → Value) (hg : ∀ L', Agree st.nx L L' → GRel L' ρ g a) (o : Oper) (ho : o.op = op) :
    ∃ x w', (execOp a o).run P w = .ok (.value x) w' ∧ Turns ρ L st w (f st.nx) (st.new ao) x w' := by
  obtain ⟨x, c, hr, hc⟩ := allocE_core ok hx h L w a (hg L (Agree.refl _ _)) o ho
  exact ⟨x, _, hr, Turns.new (k := 0) hs hx (WNew.push _ _) (fun L' ha hn => (hc L' (hg L' ha) _ hn).1) (fun L' ha hn => (hc L' (hg L' ha) _ hn).2)⟩
end Ab
