/- 'CoordAcks' of the coordinator: for every number and every list of numbers the law answers true, and the arguments read as they did; the package
   variable 'conf' holds at the start what the program's text lays (the tied card). Proved by running the program's form in a verified abstract executor
   (the texts E1 .. E57): the loop over the acks by a form of its states, one round from each. No other condition. -/
import Derived.Test.YtnjlogdhmhoajaaGreatDoorRows
import Derived.Test.YtnjlogdhmhoajaaGreatDoorCards
import Derived.Test.YtnjlogdhmhoajaaGreatDoorTie
import Derived.Test.YtnjlogdhmhoajaaGreatDoorCaSorted
import Derived.Test.YtnjlogdhmhoajaaGreatDoorCaRunA
import Derived.Test.YtnjlogdhmhoajaaGreatDoorCaRunB
import Derived.Test.YtnjlogdhmhoajaaGreatDoorCaRunC
import Derived.Test.YtnjlogdhmhoajaaGreatDoorCaRunD
import Derived.Test.YtnjlogdhmhoajaaGreatDoorCaRunE
import Derived.Test.YtnjlogdhmhoajaaGreatDoorCaRunF
import Derived.Test.YtnjlogdhmhoajaaGreatDoorCaRunG
import Derived.Test.YtnjlogdhmhoajaaGreatDoorCaRunH
import Derived.Test.YtnjlogdhmhoajaaGreatDoorCaRunI
import Derived.Test.YtnjlogdhmhoajaaGreatDoorCaRunJ
import Derived.ProofKit
import Derived.LaidMore
import Derived.SevenTiedAt
namespace Go.Proofs.YtnjlogdhmhoajaaGreatDoor
open Go.ChangeShapes Go.WideShapes Go.ChangeAt Go.ChangeMaps Go.RowKit Ab

theorem Tryz.own : ownKnob Tryz.prog.godebug = none := by kernel_rfl
theorem Tryz.cxOk : (mkCtx Tryz.prog).Ok Tryz.prog := mkCtx_ok (by decide +kernel) (by kernel_rfl)
theorem caLt {ρ : Env} (h : ρ.gl = 1) : ∀ p ∈ caGs, p.1 < ρ.gl := fun p hp => by
  rw [h]
  unfold caGs at hp
  simp only [List.mem_singleton] at hp
  subst hp
  exact Nat.zero_lt_one
theorem caFlat : flatG caGs = true := by kernel_rfl
theorem caCx0_ok : caCx0.Ok Tryz.prog := mkCtxG_ok Tryz.cxOk .nil 100 1
theorem caCxA_ok : caCxA.Ok Tryz.prog := mkCtxG_ok Tryz.cxOk caHkA 100 1
theorem caCx_ok : caCx.Ok Tryz.prog := mkCtxG_ok Tryz.cxOk caHk 2000 1
theorem caHead_sound {ρ : Env} (h : ρ.gl = 1) : HookSound Tryz.prog ρ 4 (globHook caGs) :=
  globHook_ok (k := 1000000) caCx0_ok ρ h.symm (caLt h) caFlat (HksOk.ctxG HksOk.nil) (by rw [h]; exact caHead)
theorem caHkA_ok {ρ : Env} (h : ρ.gl = 1) : HksOk Tryz.prog ρ caHkA :=
  HksOk.nil.set (sortedOr_sound (callNF_sound caCx0_ok (by rw [h]; exact Nat.le_refl _) (HksOk.ctxG HksOk.nil) 1000000) (fun g hg => by rw [List.mem_singleton.1 hg]; exact Tryz.keysSorted) ⟨_, Tryz.func73, by decide +kernel, by kernel_rfl⟩)
theorem caHk_ok {ρ : Env} (h : ρ.gl = 1) : HksOk Tryz.prog ρ caHk :=
  ((caHkA_ok h).set (caHead_sound h)).set (ordHook_sound caCxA_ok (by rw [h]; exact Nat.le_refl _) (callNF_sound caCxA_ok (by rw [h]; exact Nat.le_refl _) (HksOk.ctxG (caHkA_ok h)) 1000000))
theorem caGAt {W : World} {q : TypeId × (Nat × Nat)} (hq : W.heap[0]? = some (.cells #[.int .i64 600, .int .i64 60, .int .i64 4] q.1 q.2)) {ρ : Env} (h : ρ.ro 0 = q) : GAt ρ caGs W := fun p hp L => by
  unfold caGs at hp
  simp only [List.mem_singleton] at hp
  subst hp
  refine ⟨rfl, ?_⟩
  rw [h]
  exact hq
theorem fx_true {ρ : Env} {a : Tm} {k : Int} (h : a.den ρ = k) : (Atom.eq a (.c k)).den ρ = true := by
  show (a.den ρ == k) = true
  rw [h]
  exact beq_self_eq_true k
theorem fx_nil {ρ : Env} : FxOk ρ [] := fun _ hp => by cases hp
theorem caFn : caCx.ft.get 3 = some Tryz.f3 := by kernel_rfl
theorem caBodyIs : Tryz.f3.body = some caCode := by kernel_rfl
theorem caAll : allB 4 caCode = [.loop caBody] := by kernel_rfl
theorem caPinLt : ∀ p ∈ caPins, p.1 < caG.base := fun p hp => by
  unfold caPins at hp
  simp only [List.mem_cons, List.not_mem_nil, or_false] at hp
  rcases hp with rfl | rfl <;> decide
theorem caPinFlat : ∀ p ∈ caPins, pinO p.2 = true := fun p hp => by
  unfold caPins at hp
  simp only [List.mem_cons, List.not_mem_nil, or_false] at hp
  rcases hp with rfl | rfl <;> kernel_rfl
theorem caEx {ρ : Env} (h : ρ.gl = 1) : ExecSound Tryz.prog ρ 1000000 (execF caCx 1000000) := by
  rw [execF_eq]
  exact execN_sound caCx_ok (HksOk.ctxG (caHk_ok h)) (by rw [h]; exact Nat.le_refl _) 1000000
theorem caInv {U : List SS} {ρ : Env} (h : ρ.gl = 1) (hc : ∀ u ∈ U, chkU 500 12 caG [(13, 0)] U 4 caPins (execF caCx 1000000) 150 1000000 caBody u = true) : ∀ c' ∈ allB 4 caCode, InvB Tryz.prog 500 caG.base ρ 150 4 U (heapG caPins) c' := by
  intro c' hc'
  rw [caAll] at hc'
  rw [List.mem_singleton.1 hc']
  exact loopInv (g := caG) rfl (by rw [h]; decide) caPinLt caPinFlat (fun ρ' hl => caEx (hl.gl.trans h)) hc
theorem caNt : Nat.add (llen [AV.int .i64 (.v 0), AV.fsl 1 2]) (Nat.sub Tryz.f3.ntmps (llen [AV.int .i64 (.v 0), AV.fsl 1 2])) = 150 := by kernel_rfl
theorem caU0_ok : ∀ u ∈ caU0, chkU 500 12 caG [(13, 0)] caU0 4 caPins (execF caCx 1000000) 150 1000000 caBody u = true := fun u hu => by
  unfold caU0 at hu
  simp only [List.mem_cons, List.not_mem_nil, or_false] at hu
  rcases hu with rfl | rfl | rfl
  · exact caOk0x0
  · exact caOk0x1
  · exact caOk0x2
theorem caU1_ok : ∀ u ∈ caU1, chkU 500 12 caG [(13, 0)] caU1 4 caPins (execF caCx 1000000) 150 1000000 caBody u = true := fun u hu => by
  unfold caU1 at hu
  simp only [List.mem_cons, List.not_mem_nil, or_false] at hu
  rcases hu with rfl | rfl | rfl | rfl | rfl | rfl | rfl
  · exact caOk1x0
  · exact caOk1x1
  · exact caOk1x2
  · exact caOk1x3
  · exact caOk1x4
  · exact caOk1x5
  · exact caOk1x6
theorem caU2_ok : ∀ u ∈ caU2, chkU 500 12 caG [(13, 0)] caU2 4 caPins (execF caCx 1000000) 150 1000000 caBody u = true := fun u hu => by
  unfold caU2 at hu
  simp only [List.mem_cons, List.not_mem_nil, or_false] at hu
  rcases hu with rfl | rfl | rfl | rfl | rfl | rfl | rfl | rfl | rfl | rfl | rfl | rfl | rfl | rfl | rfl
  · exact caOk2x0
  · exact caOk2x1
  · exact caOk2x2
  · exact caOk2x3
  · exact caOk2x4
  · exact caOk2x5
  · exact caOk2x6
  · exact caOk2x7
  · exact caOk2x8
  · exact caOk2x9
  · exact caOk2x10
  · exact caOk2x11
  · exact caOk2x12
  · exact caOk2x13
  · exact caOk2x14
theorem caU3_ok : ∀ u ∈ caU3, chkU 500 12 caG [(13, 0)] caU3 4 caPins (execF caCx 1000000) 150 1000000 caBody u = true := fun u hu => by
  unfold caU3 at hu
  simp only [List.mem_cons, List.not_mem_nil, or_false] at hu
  rcases hu with rfl | rfl | rfl | rfl | rfl | rfl | rfl | rfl | rfl | rfl | rfl | rfl | rfl | rfl | rfl | rfl | rfl | rfl | rfl | rfl | rfl | rfl | rfl | rfl | rfl | rfl | rfl | rfl | rfl | rfl
  · exact caOk3x0
  · exact caOk3x1
  · exact caOk3x2
  · exact caOk3x3
  · exact caOk3x4
  · exact caOk3x5
  · exact caOk3x6
  · exact caOk3x7
  · exact caOk3x8
  · exact caOk3x9
  · exact caOk3x10
  · exact caOk3x11
  · exact caOk3x12
  · exact caOk3x13
  · exact caOk3x14
  · exact caOk3x15
  · exact caOk3x16
  · exact caOk3x17
  · exact caOk3x18
  · exact caOk3x19
  · exact caOk3x20
  · exact caOk3x21
  · exact caOk3x22
  · exact caOk3x23
  · exact caOk3x24
  · exact caOk3x25
  · exact caOk3x26
  · exact caOk3x27
  · exact caOk3x28
  · exact caOk3x29
def caEnv (a : Int) (b : Option Addr) (n m : Nat) (zs : List Int) (o : Obj) (q : TypeId × (Nat × Nat)) : Env :=
  { num := fun i => match i with | 0 => a | i => zs.getD (i - 1000) 0, txt := fun _ => List.replicate n 0, gl := 1, base := fun _ => b, cap := fun _ => m, ro := fun _ => q, frn := fun _ => o }
theorem ca_main (a : Int) {b o n m : Nat} (hb0 : b ≠ 0) {zs : List Int} {c : Array Value} {el : TypeId} {fz : Nat × Nat} {W : World} {q : TypeId × (Nat × Nat)} (hq : W.heap[0]? = some (.cells #[.int .i64 600, .int .i64 60, .int .i64 4] q.1 q.2)) (hb : W.heap[b]? = some (.cells c el fz))
    (hc : ∀ j, j < n → c[o + j]? = some (.int .i64 (zs.getD j 0))) {Q : OP} {k : Int} (hk : (Tm.bin .and .i64 (.v 0) (.c 3)).den (caEnv a none n m zs (.cells c el fz) q) = k)
    (hX : Q.X = heapG caPins) (hoid : Q.oid = 4) (hQ : ∀ u ∈ Q.U, chkU 500 12 caG [(13, 0)] Q.U 4 caPins (execF caCx 1000000) 150 1000000 caBody u = true) (h : caLaw Q k = true) :
    Calls Tryz.prog 3 #[.int .i64 a, .slice (some ⟨b, o, none⟩) n m] W fun e w' => ∃ v, e = .returned v ∧ v = .bool true ∧ Below W.heap.size W w' := by
  unfold caLaw at h
  refine law_sliceO (K := 500) (q := Q) (g := caG) rfl caCx_ok (caEnv a none n m zs (.cells c el fz) q) rfl rfl (caLt rfl) caFlat (fun ρ' hl => HksOk.ctxG (caHk_ok hl.gl)) (i := 2) (m := 1000) (fx_nil.cons (fx_true hk)) (b := b) (o := o)
    (fun ρ' hl => caGAt hq (by rw [hl.ro]; rfl)) (fun p hp => ?_) hb ⟨c, el, fz, rfl, fun j hj => ?_⟩ (fun L hL _ => ?_) caFn caBodyIs ?_ h
  · unfold caGs at hp
    simp only [List.mem_singleton] at hp
    subst hp
    exact fun e => hb0 e.symm
  · have hj : j < n := by simpa [caEnv] using hj
    rw [hc j hj]
    have e1 : (caEnv a none n m zs (.cells c el fz) q).num (1000 + j) = zs.getD (1000 + j - 1000) 0 := by
      show (match 1000 + j with | 0 => a | i => zs.getD (i - 1000) 0) = _
      split
      · rename_i e; omega
      · rfl
    rw [e1, show 1000 + j - 1000 = j by omega]
  · have hL : L 1 = ⟨b, o, 0⟩ := hL
    simp [caEnv, conc, hL, Tm.den]
  · rw [hoid, hX, caNt]
    exact caInv rfl hQ
theorem ca_small (a : Int) {v : Value} {args : List AV} {b : Option Addr} {n m : Nat} {W : World} {q : TypeId × (Nat × Nat)} (hq : W.heap[0]? = some (.cells #[.int .i64 600, .int .i64 60, .int .i64 4] q.1 q.2)) {fx : Facts} (hx : FxOk (caEnv a b n m [] (.deferred none) q) fx)
    (hv : ∀ L, Pin L (caEnv a b n m [] (.deferred none) q) → #[.int .i64 a, v] = (args.map (conc L (caEnv a b n m [] (.deferred none) q))).toArray) (h : (summ (keepT caGs (callNF caCx 1000000 3 args (St.glob caGs 1 fx)))).allYes = true) :
    Calls Tryz.prog 3 #[.int .i64 a, v] W fun e w' => ∃ v, e = .returned v ∧ v = .bool true ∧ Below W.heap.size W w' :=
  law_globYes caCx_ok (caEnv a b n m [] (.deferred none) q) rfl (caLt rfl) caFlat (HksOk.ctxG (caHk_ok rfl)) hx hv h (caGAt hq rfl)
theorem caLies0 (m : Nat) : liesAt Tryz.prog Tryz.prog.depth 55 1 0 3 (m + 2) = false := by kernel_rfl
theorem caLies1 (m : Nat) : liesAt Tryz.prog Tryz.prog.depth 55 1 1 3 (m + 2) = false := by kernel_rfl
theorem caLies2 (m : Nat) : liesAt Tryz.prog Tryz.prog.depth 55 1 2 3 (m + 2) = false := by kernel_rfl
theorem caCells55 : Tryz.prog.cellsOf 55 = 3 := by kernel_rfl
theorem caRow : ((((begin Tryz.prog (fun _ _ => 0) default).world.heap[0]?).bind Obj.row?).map (·.2)) = some 55 := by kernel_rfl
theorem caGl : 0 < Tryz.prog.globals.size := by decide +kernel
theorem coordAcks_calls (a : Int) {v : Value} {W : World} (hsh : W.ShapedOpen Tryz.prog) (hsl : ∀ {b o n m : Nat} {row : TypeId} {cs : Array Value} {fz : Nat × Nat}, v = .slice (some ⟨b, o, none⟩) n m → W.heap[b]? = some (.cells cs row fz) → n ≤ m ∧ liesAt Tryz.prog Tryz.prog.depth row (cs.size / Tryz.prog.cellsOf row) o 3 m = true)
    (hv : (∃ (b : Option Addr) (m : Nat), v = .slice b 0 m) ∨ ∃ (b o n m : Nat) (zs : List Int) (c : Array Value) (el : TypeId) (fz : Nat × Nat), 0 < n ∧ v = .slice (some ⟨b, o, none⟩) n m ∧ W.heap[b]? = some (.cells c el fz) ∧
      ∀ j, j < n → c[o + j]? = some (.int .i64 (zs.getD j 0))) {q : TypeId × (Nat × Nat)} (hq : W.heap[0]? = some (.cells #[.int .i64 600, .int .i64 60, .int .i64 4] q.1 q.2)) :
    Calls Tryz.prog 3 #[.int .i64 a, v] W fun e w' => ∃ v, e = .returned v ∧ v = .bool true ∧ Below W.heap.size W w' := by
  have rng : ∀ (b : Option Addr) (n m : Nat) (zs : List Int) (o : Obj), ∃ k : Int, (Tm.bin .and .i64 (.v 0) (.c 3)).den (caEnv a b n m zs o q) = k ∧ (k = 0 ∨ k = 1 ∨ k = 2 ∨ k = 3) := fun b n m zs o => by
    obtain ⟨a1, a2⟩ := and_range (ρ := caEnv a b n m zs o q) .i64 (.v 0) 3 (by decide)
    refine ⟨_, rfl, ?_⟩
    have e : (Tm.bin .and .i64 (.v 0) (.c (.ofNat 3))).den (caEnv a b n m zs o q) = (Tm.bin .and .i64 (.v 0) (.c 3)).den (caEnv a b n m zs o q) := rfl
    rw [e] at a1 a2
    generalize (Tm.bin .and .i64 (.v 0) (.c 3)).den (caEnv a b n m zs o q) = x at a1 a2
    have a2 : x ≤ 3 := a2
    omega
  rcases hv with ⟨b, m, rfl⟩ | ⟨b, o, n, m, zs, c, el, fz, hn, rfl, hb, hc⟩
  · obtain ⟨k, hk, hr⟩ := rng b 0 m [] (.deferred none)
    have h0 : (Atom.lt (.c 0) (.len 2)).den (caEnv a b 0 m [] (.deferred none) q) = false := by simp [Atom.den, Tm.den, caEnv]
    have hvv : ∀ L, Pin L (caEnv a b 0 m [] (.deferred none) q) → #[Value.int .i64 a, .slice b 0 m] = ([AV.int .i64 (.v 0), AV.opq 2].map (conc L (caEnv a b 0 m [] (.deferred none) q))).toArray := fun L _ => by simp [caEnv, conc, Tm.den]
    rcases hr with rfl | rfl | rfl | rfl
    · exact ca_small a hq ((fx_nil.cons (fx_true hk)).cons h0) hvv caRun0_0
    · exact ca_small a hq ((fx_nil.cons (fx_true hk)).cons h0) hvv caRun0_1
    · exact ca_small a hq ((fx_nil.cons (fx_true hk)).cons h0) hvv caRun0_2
    · exact ca_small a hq ((fx_nil.cons (fx_true hk)).cons h0) hvv caRun0_3
  · by_cases hb0 : b = 0
    · subst hb0
      obtain ⟨cs, hrow⟩ := shaped_row hsh caGl caRow
      have hcs : q.1 = 55 := by
        rw [hq] at hrow
        simp only [Option.some.injEq, Obj.cells.injEq] at hrow
        exact hrow.2.1
      have hl := (hsl rfl hq).2
      rw [hcs, caCells55] at hl
      have hl : liesAt Tryz.prog Tryz.prog.depth 55 1 o 3 m = true := hl
      have ho : o < 3 := by
        have h1 := hc 0 hn
        rw [hb] at hq
        simp only [Option.some.injEq, Obj.cells.injEq] at hq
        rw [hq.1] at h1
        obtain ⟨h2, _⟩ := Array.getElem?_eq_some_iff.1 h1
        simpa using h2
      have hm1 : m = 1 := by
        rcases Nat.lt_or_ge m 2 with hh | hh
        · have := (hsl rfl hq).1
          omega
        · obtain ⟨m', rfl⟩ : ∃ m', m = m' + 2 := ⟨m - 2, by omega⟩
          have : o = 0 ∨ o = 1 ∨ o = 2 := by omega
          rcases this with rfl | rfl | rfl
          · rw [caLies0] at hl; cases hl
          · rw [caLies1] at hl; cases hl
          · rw [caLies2] at hl; cases hl
      have hn1 : n = 1 := by
        have := (hsl rfl hq).1
        omega
      subst hm1 hn1
      obtain ⟨k, hk, hr⟩ := rng none 1 1 [] (.deferred none)
      have hvv : ∀ L, Pin L (caEnv a none 1 1 [] (.deferred none) q) → #[Value.int .i64 a, .slice (some ⟨0, o, none⟩) 1 1] = ([AV.int .i64 (.v 0), AV.slice 0 o o 1 1 false].map (conc L (caEnv a none 1 1 [] (.deferred none) q))).toArray := fun L hp => by
        have := hp 0 Nat.zero_lt_one
        simp [caEnv, conc, Tm.den, this.1, this.2]
      have ho : o = 0 ∨ o = 1 ∨ o = 2 := by omega
      rcases ho with rfl | rfl | rfl
      · rcases hr with rfl | rfl | rfl | rfl
        · exact ca_small a hq (fx_nil.cons (fx_true hk)) hvv caRunB0_0
        · exact ca_small a hq (fx_nil.cons (fx_true hk)) hvv caRunB0_1
        · exact ca_small a hq (fx_nil.cons (fx_true hk)) hvv caRunB0_2
        · exact ca_small a hq (fx_nil.cons (fx_true hk)) hvv caRunB0_3
      · rcases hr with rfl | rfl | rfl | rfl
        · exact ca_small a hq (fx_nil.cons (fx_true hk)) hvv caRunB1_0
        · exact ca_small a hq (fx_nil.cons (fx_true hk)) hvv caRunB1_1
        · exact ca_small a hq (fx_nil.cons (fx_true hk)) hvv caRunB1_2
        · exact ca_small a hq (fx_nil.cons (fx_true hk)) hvv caRunB1_3
      · rcases hr with rfl | rfl | rfl | rfl
        · exact ca_small a hq (fx_nil.cons (fx_true hk)) hvv caRunB2_0
        · exact ca_small a hq (fx_nil.cons (fx_true hk)) hvv caRunB2_1
        · exact ca_small a hq (fx_nil.cons (fx_true hk)) hvv caRunB2_2
        · exact ca_small a hq (fx_nil.cons (fx_true hk)) hvv caRunB2_3
    · obtain ⟨k, hk, hr⟩ := rng none n m zs (.cells c el fz)
      rcases hr with rfl | rfl | rfl | rfl
      · exact ca_main a hb0 hq hb hc hk (Q := caQ0) rfl rfl caU0_ok caLaw0
      · exact ca_main a hb0 hq hb hc hk (Q := caQ1) rfl rfl caU1_ok caLaw1
      · exact ca_main a hb0 hq hb hc hk (Q := caQ2) rfl rfl caU2_ok caLaw2
      · exact ca_main a hb0 hq hb hc hk (Q := caQ3) rfl rfl caU3_ok caLaw3
theorem gConf : Tryz.prog.globalNamed "dockmaster/dockmasterlaw18.conf" = some 0 := by kernel_rfl
theorem tConf : (Tryz.prog.globals[0]?).map (·.type) = some 55 := by kernel_rfl
theorem cellsConf : Tryz.prog.cellsOf 55 = 3 := by kernel_rfl
theorem cells3 : Tryz.prog.cellsOf 3 = 1 := by kernel_rfl
theorem conf_laid {W : World} (h : laidMetH Tryz.prog Rows.coordAcksRow.laid W) : ∃ q : TypeId × (Nat × Nat), W.heap[0]? = some (.cells #[.int .i64 600, .int .i64 60, .int .i64 4] q.1 q.2) :=
  laid_three h gConf tConf Tryz.underlying55 Tryz.underlying3 Tryz.underlying3 Tryz.underlying3 rfl rfl rfl cellsConf cells3 cells3 cells3
theorem and_mk {a b : Bool} (ha : a = true) (hb : b = true) : (a && b) = true := by rw [ha, hb]; rfl
theorem jf2 : laidOutB Tryz.prog = true := by kernel_rfl
theorem jf3 : mapsRowed Tryz.prog = true := by kernel_rfl
theorem jf10 : (Rows.coordAcksRow.inPlace == Tryz.prog.inPlace 3) = true := by kernel_rfl
theorem jf11 : (Rows.coordAcksRow.unfollowed == Tryz.prog.unfollowed 3) = true := by kernel_rfl
theorem jf12 : (Rows.coordAcksRow.recurses == Tryz.prog.recurses 3) = true := by kernel_rfl
theorem jf13 : (Rows.coordAcksRow.named == Tryz.prog.varsNamed 3) = true := by kernel_rfl
theorem jf25 : Tryz.prog.stopsHeard = true := by kernel_rfl
theorem jf26 : Tryz.prog.mayEnter = true := by kernel_rfl
theorem jf27 : (Rows.coordAcksRow.lifted == Tryz.prog.liftsFinal) = true := by kernel_rfl
theorem jfAll : joinedFacts Tryz.prog 3 Tryz.f3 Rows.coordAcksSpec Rows.coordAcksRow = true := by
  unfold joinedFacts
  repeat' with_reducible refine and_mk ?_ ?_
  · kernel_rfl
  · exact jf2
  · exact jf3
  · kernel_rfl
  · kernel_rfl
  · kernel_rfl
  · kernel_rfl
  · kernel_rfl
  · kernel_rfl
  · exact jf10
  · exact jf11
  · exact jf12
  · exact jf13
  · kernel_rfl
  · kernel_rfl
  · kernel_rfl
  · kernel_rfl
  · kernel_rfl
  · kernel_rfl
  · kernel_rfl
  · kernel_rfl
  · kernel_rfl
  · kernel_rfl
  · kernel_rfl
  · exact jf25
  · exact jf26
  · exact jf27
  · kernel_rfl
  · kernel_rfl
  · kernel_rfl
  · kernel_rfl
  · kernel_rfl
theorem fitsAll : ∀ t ∈ Tryz.f3.params.toList, Tryz.prog.readableRec t = true ∧ t < Tryz.prog.types.size := by
  have h : (Tryz.f3.params.toList.all fun t => Tryz.prog.readableRec t && decide (t < Tryz.prog.types.size)) = true := by kernel_rfl
  intro t ht
  have := List.all_eq_true.1 h t ht
  rw [Bool.and_eq_true, decide_eq_true_eq] at this
  exact this

set_option maxRecDepth 100000 in
theorem door_met (os : Os) (args : Array Value) : laidMetH Tryz.prog Rows.coordAcksRow.laid ((World.doorLaid Tryz.prog 400 os).forCall (fun _ _ => 0) ⟨#[], args, []⟩).memory :=
  laidMetH_of_parts3 (fuel := 8) (laidMet_of_run' 8 (by kernel_rfl) (by kernel_rfl)) (by kernel_rfl) (by kernel_rfl)
set_option maxRecDepth 100000 in
theorem coordAcks_lifted (os : Os) (started : os.Started) (H : Type) (enc : TypeId × Value → H) :
    ReturnsInHanded {} Tryz.checked os 3 .any (fun w args => (Rows.coordAcksSpec.pre enc Tryz.prog Tryz.f3 [] false w args ∧ laidMetH Tryz.prog Rows.coordAcksRow.laid w) ∧ sizedMet enc Tryz.prog Tryz.f3 (OpenSpec.ofChange Rows.coordAcksSpec) false w args)
      (Rows.coordAcksSpec.post enc Tryz.prog Tryz.f3 false true false false) := by
  refine returnsInHanded_of_change_open (C := Tryz.checked) (X := fun w _ => laidMetH Tryz.prog Rows.coordAcksRow.laid w) (fun _ _ _ hh h => h.of_heap hh) Tryz.own started (by kernel_rfl) Tryz.func3
    (ChangeSpec.witness_shaped (enc := enc) (C := Tryz.checked) (os := os) (X := fun w _ => laidMetH Tryz.prog Rows.coordAcksRow.laid w) false (World.doorLaid Tryz.prog 400 os)
      #[.int .i64 0, .slice none 0 0] 8 rfl (World.shaped_of_RefB (by kernel_rfl) (by kernel_rfl)) (by kernel_rfl) (by kernel_rfl) (by kernel_rfl) (door_met os _)) ?_
  intro W base args ds gs before hsh hval0 hW _ _ hL _
  have hval : ∀ (j : Nat) t v, Tryz.f3.params[j]? = some t → args[j]? = some v → Value.okWide Tryz.prog W .any base t v := hval0
  have hW' := hW
  obtain ⟨p, q, hA0, hV, rfl, hfz, hnd⟩ := hW
  obtain ⟨rfl, rfl⟩ := trodVars_none hV
  rw [List.append_nil] at hW'
  have hA : DataW.TrodAll enc Tryz.prog W 0 (fun _ => true) true Tryz.f3.params.toList args.toList ds p := hA0
  have hA' := hA
  rw [Tryz.params3] at hA' hval
  obtain ⟨v0, v1, d0, d1, p0, p1, rfl, rfl, rfl, h0, h1⟩ := trodAll_two hA'
  obtain ⟨a, rfl, _, _, _⟩ := open_int Tryz.underlying3 (hval 0 3 v0 rfl rfl) h0
  have hv1 := open_list Tryz.underlying22 Tryz.underlying3 (by kernel_rfl) (hval 1 22 v1 rfl rfl) h1
  obtain ⟨qq, hq⟩ := conf_laid hL
  refine (coordAcks_calls a hsh (slice_lies_of Tryz.underlying22 (hval 1 22 v1 rfl rfl)) hv1 hq).mono fun e W' ⟨v, he, hv, hw⟩ => ?_
  subst he; subst hv
  exact ⟨_, rfl, post_old jf2 fitsAll rfl hW' hA hw rfl rfl (fun _ _ _ => trodAll_mk1 (shut_bool Tryz.underlying4 true)) (ok_one (by kernel_rfl) rfl (okWide_bool_mk Tryz.underlying4 true))⟩

theorem fnLaw : Tryz.prog.funcNamed "dockmaster/dockmasterlaw18.CoordAcks" = some 3 := by kernel_rfl
theorem coordAcks_holds : Rows.CoordAcksSaid :=
  OpenClaim.holds_of_wide 3 Tryz.f3 rfl rfl rfl rfl rfl rfl rfl ⟨rfl, rfl, rfl, rfl, rfl⟩ rfl rfl rfl rfl rfl fnLaw Tryz.func3 jfAll
    (of_decide_eq_true (by kernel_rfl)) (by unfold Func.isWrapper; first | (rw [if_pos (by decide +kernel)]; kernel_rfl) | (rw [if_neg (by decide +kernel)]; exact ⟨rfl, rfl⟩))
    (fun os started H enc _ => coordAcks_lifted os started H enc)
theorem cdMain : Tryz.prog.mainIs = some (true, ("c63b1bc143f36c09a19aab8c7128217964ad5182321afa1d94fb7dec28787e9c" : String).toList) := by kernel_rfl
theorem cdLooks : true = Tryz.prog.looks [] := by kernel_rfl
theorem cdGoes : false = Rows.coordAcksRow.goesBy Tryz.prog := by kernel_rfl
theorem cdStand : ([3, 22].all fun u => !Tryz.prog.wantsStandIn u) = true := by kernel_rfl
theorem coordAcksCard_holds : Rows.CoordAcksCardSaid :=
  Claim7.holds_tied_plain_at .later [] [.data] true (true, "c63b1bc143f36c09a19aab8c7128217964ad5182321afa1d94fb7dec28787e9c") true
    coordAcks_holds (fun _ h => by cases h) (by kernel_rfl) (fun _ h => by cases h) coordAcks_row_tie rfl ⟨rfl, rfl⟩ cdMain rfl
    (fun f fn hf hfn => by
      obtain rfl : f = 3 := Option.some.inj (fnLaw.symm.trans hf) |>.symm
      obtain rfl : fn = Tryz.f3 := (Option.some.inj (Tryz.func3.symm.trans hfn)).symm
      exact ⟨cdLooks, fun j t ht => by
        rw [Tryz.params3] at ht
        have hm : t ∈ [3, 22] := by simpa using Array.mem_of_getElem? ht
        exact (show Tryz.prog.wantsStandIn t = false by simpa using List.all_eq_true.1 cdStand t hm)⟩)
    cdGoes
end Go.Proofs.YtnjlogdhmhoajaaGreatDoor
