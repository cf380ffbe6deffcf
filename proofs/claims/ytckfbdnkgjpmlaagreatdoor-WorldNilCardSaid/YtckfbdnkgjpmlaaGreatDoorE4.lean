/- E, part 4: regions, code, calls; the tables of a program. -/
import Derived.Test.YtckfbdnkgjpmlaaGreatDoorE3
namespace Ab
open Go

/-! ## Kinds of operations: 0 looks at no memory · 1 reads · 2 makes memory · 3 writes · 4 calls · 9 is none of these -/
noncomputable def cls (cx : Ctx) (op : Op) : Nat :=
  match op with
  | .move _ | .assign _ | .pick _ _ _ | .nilCheck _ | .binOp _ _ _ _ _ | .unOp _ _ _ | .makeInterface _ _ | .makeFunc _ _ _ | .fieldAddr _ _ _ | .field _ _ _
  | .indexAddr _ _ _ | .index _ _ _ | .slice _ _ _ _ _ | .build _ _ | .extract _ _ | .typeAssert _ _ _ _ => 0
  | .load _ _ | .lookup _ _ _ _ => 1
  | .convert s d _ => match cx.tt.get s, cx.tt.get d with
    | some si, some di => match si.desc, di.desc with
      | .slice _, .string => 1
      | .string, .slice _ => 3
      | _, _ => 0
    | _, _ => 9
  | .alloc _ | .box _ _ | .buildSlice _ _ _ | .makeMap _ _ | .makeSlice _ _ _ => 2
  | .store _ _ _ | .mapUpdate _ _ _ _ | .insert _ _ _ _ | .range _ _ | .next _ _ | .entry _ => 3
  | .call c => match c.callee with
    | .builtin b => match b with
      | .len => 1
      | .min | .max => 0
      | .append | .copy | .delete | .clear => 3
      | _ => 9
    | _ => 4
  | _ => 9

/-! ## The plan of a region that draws its order -/
structure Step where
  i : Nat
  o : Oper
  c : Nat
  /-- at how many elder heaps what is read has to be the same -/
  d : Nat
def bindsAny (e : Edge) : Bool := match e.ground with
  | .textOnly _ => false
  | .gcOnly _ => false
  | _ => true
noncomputable def bit (m i : Nat) : Bool := Nat.beq (Nat.land (Nat.shiftRight m i) 1) 1
noncomputable def maskOf (bs : Tr Nat) (es : List Edge) : Nat :=
  List.rec (motive := fun _ => Nat) 0 (fun e _ m => bif bindsAny e then Nat.lor m (Nat.lor (Nat.pow 2 e.on) (Option.rec (motive := fun _ => Nat) 0 (fun x => x) (bs.get e.on))) else m) es
/-- What comes ahead of each operation. -/
noncomputable def masks (ops : List Oper) : Nat → Tr Nat → Tr Nat :=
  List.rec (motive := fun _ => Nat → Tr Nat → Tr Nat) (fun _ bs => bs) (fun o _ ih i bs => ih (Nat.succ i) (bs.set i (maskOf bs o.after.toList))) ops
noncomputable def bget (bs : Tr Nat) (i : Nat) : Nat := Option.rec (motive := fun _ => Nat) 0 (fun x => x) (bs.get i)
/-- The operations with their kinds. -/
noncomputable def steps0 (cx : Ctx) (ops : List Oper) : Nat → List Step :=
  List.rec (motive := fun _ => Nat → List Step) (fun _ => []) (fun o _ ih i => ⟨i, o, cls cx o.op, 0⟩ :: ih (Nat.succ i)) ops
/-- Those that write or call, in order. -/
noncomputable def writers (l : List Step) : List Step := List.rec (motive := fun _ => List Step) [] (fun s _ ih => bif Nat.ble 3 s.c then s :: ih else ih) l
noncomputable def countIn (m : Nat) (ws : List Step) : Nat := List.rec (motive := fun _ => Nat) 0 (fun s _ n => bif bit m s.i then Nat.succ n else n) ws
/-- Those that don't write, of a mask, not done yet, at a phase. -/
noncomputable def take (bs : Tr Nat) (ws : List Step) (ph m done : Nat) (l : List Step) : List Step :=
  List.rec (motive := fun _ => List Step) [] (fun s _ ih => bif Nat.ble 3 s.c then ih else bif bit done s.i then ih else bif bit m s.i then ⟨s.i, s.o, s.c, Nat.sub ph (countIn (bget bs s.i) ws)⟩ :: ih else ih) l
noncomputable def order (bs : Tr Nat) (all ws : List Step) (rest : List Step) : Nat → Nat → List Step :=
  List.rec (motive := fun _ => Nat → Nat → List Step) (fun ph done => take bs ws ph (Nat.sub (Nat.pow 2 (llen all)) 1) done all)
    (fun w _ ih ph done => lapp (take bs ws ph (bget bs w.i) done all) (w :: ih (Nat.succ ph) (Nat.lor done (bget bs w.i)))) rest
/-- Temporaries that an operation looks at. -/
noncomputable def namesOf (ops : List Oper) (o : Oper) : List Tmp :=
  lapp (List.rec (motive := fun _ => List Tmp) [] (fun x _ ih => match x with | .tmp t => t :: ih | _ => ih) o.op.operands.toList)
    (match o.guard with
     | some (j, _) => (match lget ops j with
       | some oj => (match oj.dst with | some t => [t] | none => [])
       | none => [])
     | none => [])
noncomputable def dsts (ops : List Oper) : Nat → Tr Nat → Option (Tr Nat) :=
  List.rec (motive := fun _ => Nat → Tr Nat → Option (Tr Nat)) (fun _ t => some t)
    (fun o _ ih i t => match o.dst with
      | none => ih (Nat.succ i) t
      | some d => match t.get d with
        | none => ih (Nat.succ i) (t.set d i)
        | some _ => none) ops
noncomputable def namesOk (bs dt : Tr Nat) (j : Nat) (l : List Tmp) : Bool :=
  List.rec (motive := fun _ => Bool) true (fun t _ ih => match dt.get t with
    | none => ih
    | some i => bif Nat.beq i j then false else bif bit (bget bs j) i then ih else bif bit (bget bs i) j then ih else false) l
noncomputable def edgesOk (i : Nat) (es : List Edge) : Bool := List.rec (motive := fun _ => Bool) true (fun e _ ih => bif bindsAny e then (bif Nat.ble (Nat.succ e.on) i then ih else false) else ih) es
noncomputable def opsOk (ops : List Oper) (bs dt : Tr Nat) (l : List Oper) : Nat → Bool :=
  List.rec (motive := fun _ => Nat → Bool) (fun _ => true)
    (fun o _ ih i => bif edgesOk i o.after.toList then (bif namesOk bs dt i (namesOf ops o) then ih (Nat.succ i) else false) else false) l
/-- Writers of a list that are not of a mask. -/
noncomputable def countOut (m : Nat) (wl : List Nat) : Nat := List.rec (motive := fun _ => Nat) 0 (fun w _ n => bif bit m w then n else Nat.succ n) wl
/-- Is a plan one: each operation once, behind what comes ahead of it; all that is planned ahead of a writer has to come ahead of it; and a read looks back far enough. -/
noncomputable def okPlan (bs : Tr Nat) (full : Nat) (l : List Step) : Nat → List Nat → Bool :=
  List.rec (motive := fun _ => Nat → List Nat → Bool) (fun done _ => Nat.beq done full)
    (fun s _ ih done wl => bif bit done s.i then false else bif Nat.beq (Nat.land (bget bs s.i) done) (bget bs s.i) then
      (bif Nat.ble 3 s.c then (bif Nat.beq (bget bs s.i) done then ih (Nat.lor done (Nat.pow 2 s.i)) (s.i :: wl) else false)
        else (bif Nat.ble (countOut (bget bs s.i) wl) s.d then ih (Nat.lor done (Nat.pow 2 s.i)) wl else false)) else false) l
noncomputable def plan (cx : Ctx) (ops : List Oper) : Option (List Step) :=
  match dsts ops 0 .nil with
  | none => none
  | some dt =>
    (fun bs => bif opsOk ops bs dt ops 0 then
      (fun all => (fun ws => (fun p => bif okPlan bs (Nat.sub (Nat.pow 2 (llen ops)) 1) p 0 [] then some p else none) (order bs all ws ws 0 0)) (writers all)) (steps0 cx ops 0) else none) (masks ops 0 .nil)

/-! ## Sameness of values -/
mutual
def AV.same : AV → AV → Bool
  | .bool a, .bool b => a == b
  | .int k s, .int k' t => Nat.beq (kid k) (kid k') && Tm.same s t
  | .str s, .str t => STm.same s t
  | .ptr i o, .ptr j q => Nat.beq i j && Nat.beq o q
  | .nilp, .nilp => true
  | .slice a b c d e f, .slice a' b' c' d' e' f' => Nat.beq a a' && Nat.beq b b' && Nat.beq c c' && Nat.beq d d' && Nat.beq e e' && (f == f')
  | .nils, .nils => true
  | .map i, .map j => Nat.beq i j
  | .nilm, .nilm => true
  | .func f a b, .func f' a' b' => Nat.beq f f' && sames a a' && sames b b'
  | .meth f a b, .meth f' a' b' => (f == f') && sames a a' && sames b b'
  | .nilf, .nilf => true
  | .iface t v, .iface u w => Nat.beq t u && AV.same v w
  | .nili, .nili => true
  | .agg a, .agg b => sames a b
  | .tuple a, .tuple b => sames a b
  | .opq i, .opq j => Nat.beq i j
  | _, _ => false
def sames : List AV → List AV → Bool
  | [], [] => true
  | a :: x, b :: y => AV.same a b && sames x y
  | _, _ => false
end

/-! ## Regions -/
/-- What is called: a function; a loop's body, by the loop's 'yield'. -/
inductive Tgt where
  | fn (f : FuncId)
  | yl (id : Nat)
abbrev CallF := Tgt → List AV → St → T (AV × St)
noncomputable def callE (cx : Ctx) (cf : CallF) (g : Operand → Option AV) (c : Call) (st : St) : T (AV × St) :=
  T.opt (lopt g c.args.toList) 300 fun args =>
  match c.callee with
  | .value f => gE g f fun v => match v with
    | .func f first captured => cf (.fn f) (lapp first (lapp args captured)) st
    | .meth name (.iface t u :: first) _ => T.opt (methE cx t name) 302 fun m => tyE cx t fun ti =>
        (match ti.desc, m.2 with
        | .pointer _, true => cf (.fn m.1) (u :: lapp first args) st
        | .pointer _, false => .bad 303
        | _, true => .bad 304
        | _, false => cf (.fn m.1) (u :: lapp first args) st)
    | .yield id => cf (.yl id) args st
    | _ => .bad 301
  | .invoke r name => gE g r fun v => match v with
    | .iface t v => T.opt (methE cx t name) 302 fun m => tyE cx t fun ti =>
        (match ti.desc, m.2 with
        | .pointer _, true => cf (.fn m.1) (v :: args) st
        | .pointer _, false => .bad 303
        | _, true => .bad 304
        | _, false => cf (.fn m.1) (v :: args) st)
    | _ => .bad 305
  | .builtin _ => .bad 306
noncomputable def wantE (ops : List Oper) (e : Tr AV) (o : Oper) : Option Bool :=
  match o.guard with
  | none => some true
  | some (j, w) => match lget ops j with
    | none => none
    | some oj => match oj.dst with
      | none => none
      | some t => match e.get t with
        | some (.bool b) => some (b == w)
        | some (.tuple []) => some false
        | _ => none
noncomputable def putE (nt : Nat) (e : Tr AV) (d : Option Tmp) (v : AV) (f : Tr AV → T (Tr AV × St)) : T (Tr AV × St) :=
  match d with
  | none => f e
  | some d => T.chk (Nat.ble (Nat.succ d) nt) 310 (f (e.set d v))
/-- One operation, on the heap as it is. -/
noncomputable def opE (cx : Ctx) (cf : CallF) (g : Operand → Option AV) (c : Nat) (op : Op) (st : St) : T (AV × St) :=
  match c with
  | 0 => (pureE cx g op st.fx).bind fun p => .ret (p.1, ⟨st.H, st.nx, p.2⟩)
  | 1 => (readE cx g op st.H st.fx).bind fun p => .ret (p.1, ⟨st.H, st.nx, p.2⟩)
  | 2 => (allocE cx g op st.fx).bind fun p => .ret (p.2 st.nx, st.new p.1)
  | 3 => writeE cx g op st
  | 4 => match op with
    | .call c => callE cx cf g c st
    | _ => .bad 311
  | _ => .bad 312
/-- A region in the text's order. -/
noncomputable def regS (cx : Ctx) (cf : CallF) (nt : Nat) (ops : List Oper) (l : List Oper) : Tr AV → St → T (Tr AV × St) :=
  List.rec (motive := fun _ => Tr AV → St → T (Tr AV × St)) (fun e st => .ret (e, st))
    (fun o _ ih e st => T.opt (wantE ops e o) 313 fun w =>
      Bool.rec (putE nt e o.dst undefA fun e => ih e st)
        ((opE cx cf (opnd cx.gl e) (cls cx o.op) o.op st).bind fun p => putE nt e o.dst p.1 fun e => ih e p.2) w) l
/-- What is read has to be the same at elder heaps. -/
noncomputable def sameAt (cx : Ctx) (g : Operand → Option AV) (op : Op) (v : AV) (n : Nat) : List (Tr AObj) → Facts → T Facts :=
  Nat.rec (motive := fun _ => List (Tr AObj) → Facts → T Facts) (fun _ fx => .ret fx)
    (fun _ ih hs fx => match hs with
      | [] => .bad 314
      | h :: hs => (readE cx g op h fx).bind fun p => T.chk (AV.same p.1 v) 315 (ih hs p.2)) n
/-- A region in whatever order: by the plan; 'hs': the heaps behind each writing, the last one ahead. -/
noncomputable def regD (cx : Ctx) (cf : CallF) (nt : Nat) (ops : List Oper) (l : List Step) : Tr AV → St → List (Tr AObj) → T (Tr AV × St) :=
  List.rec (motive := fun _ => Tr AV → St → List (Tr AObj) → T (Tr AV × St)) (fun e st _ => .ret (e, st))
    (fun s _ ih e st hs => T.opt (wantE ops e s.o) 316 fun w =>
      Bool.rec (putE nt e s.o.dst undefA fun e => bif Nat.ble 3 s.c then ih e st (st.H :: hs) else ih e st hs)
        (match s.c with
        | 1 => match hs with
          | [] => .bad 317
          | h :: hr => (readE cx (opnd cx.gl e) s.o.op h st.fx).bind fun p => (sameAt cx (opnd cx.gl e) s.o.op p.1 s.d hr p.2).bind fun fx =>
              putE nt e s.o.dst p.1 fun e => ih e ⟨st.H, st.nx, fx⟩ hs
        | c => (opE cx cf (opnd cx.gl e) c s.o.op st).bind fun p => putE nt e s.o.dst p.1 fun e => bif Nat.ble 3 c then ih e p.2 (p.2.H :: hs) else ih e p.2 hs) w) l

/-! ## Code -/
inductive Ex where
  | normal
  | exit (id : Nat)
  | ret
/-- What is left for the end of a function: a mark of a loop over a function, or a deferred call. -/
inductive Mk where
  | blk (i : Nat)
  | dfr (f : FuncId) (args : List AV)
/-- 'mks': the marks that are left. -/
structure Res where
  x : Ex
  e : Tr AV
  st : St
  mks : List Mk
/-- The first word: in a round of a loop over a function? -/
abbrev CodeF := Bool → Code → Nat → Tr AV → St → T Res
noncomputable def resE (cx : Ctx) (e : Tr AV) (H : Tr AObj) (rs : List ResultVar) : T (List AV) :=
  List.rec (motive := fun _ => T (List AV)) (.ret [])
    (fun r _ ih => (match r with
      | .tmp t => T.opt (e.get t) 320 .ret
      | .cell a t => T.opt (e.get a) 321 fun v => loadE cx H t v : T AV).bind fun v => ih.bind fun vs => .ret (v :: vs)) rs
def oneOrTuple : List AV → AV
  | [v] => v
  | vs => .tuple vs
/-- The marks are taken up, deferred calls run. -/
noncomputable def dropE (cd : FuncId → List AV → St → T (AV × St)) (mk : List Mk) : St → T St :=
  List.rec (motive := fun _ => St → T St) (fun st => .ret st)
    (fun m _ ih st => match m with
      | .blk i => T.opt (st.H.get i) 420 fun o => match o with
        | .dfr => T.chk (Nat.ble (Nat.succ i) st.nx) 421 (ih ⟨st.H.upd i none, st.nx, st.fx⟩)
        | _ => .bad 422
      | .dfr f args => (cd f args st).bind fun p => ih p.2) mk
/-- A deferred call: of a function that defers nothing itself. -/
noncomputable def callD (cx : Ctx) (ih : CodeF) : FuncId → List AV → St → T (AV × St) := fun f args st =>
  T.opt (cx.ft.get f) 322 fun fn => T.opt fn.body 323 fun code =>
    (ih false code (Nat.add (llen args) (Nat.sub fn.ntmps (llen args))) (Tr.ofList args) st).bind fun r => match r.x, r.mks with
      | .exit _, _ => .bad 324
      | _, [] => (resE cx r.e r.st.H fn.results.toList).bind fun vs => .ret (oneOrTuple vs, r.st)
      | _, _ => .bad 427
noncomputable def callF0 (cx : Ctx) (ih : CodeF) : FuncId → List AV → St → T (AV × St) := fun f args st =>
  T.opt (cx.ft.get f) 322 fun fn => T.opt fn.body 323 fun code =>
    (ih false code (Nat.add (llen args) (Nat.sub fn.ntmps (llen args))) (Tr.ofList args) st).bind fun r => match r.x with
      | .exit _ => .bad 324
      | _ => (dropE (callD cx ih) r.mks r.st).bind fun st2 => (resE cx r.e st2.H fn.results.toList).bind fun vs => .ret (oneOrTuple vs, st2)
/-- A loop's temporaries, with a round's values. -/
noncomputable def setL (ps : List Tmp) : List AV → Tr AV → Tr AV :=
  List.rec (motive := fun _ => List AV → Tr AV → Tr AV) (fun _ e => e) (fun p _ ih l e => List.rec (motive := fun _ => Tr AV) e (fun v t _ => ih t (e.set p v)) l) ps
noncomputable def allLt (n : Nat) (l : List Nat) : Bool := List.rec (motive := fun _ => Bool) true (fun x _ ih => bif Nat.ble (Nat.succ x) n then ih else false) l
/-- A round. -/
noncomputable def yieldF (ih : CodeF) (id : Nat) (args : List AV) (st : St) : T (AV × St) :=
  T.chk (Nat.ble (Nat.succ id) st.nx) 29 (T.opt (st.H.get id) 410 fun o => match o with
    | .loop .ready none _ e0 nt ps assign body _ =>
      T.chk (Nat.beq (llen args) (llen ps)) 411 (T.chk (allLt nt ps) 412 ((ih true assign nt (setL ps args e0) st).bind fun r1 => match r1.x, r1.mks with
        | .normal, [] => T.opt (r1.st.H.get id) 414 fun o1 => (match o1 with
          | .loop .ready none fn1 e1 nt1 ps1 as1 bo1 d1 =>
            (ih true body nt r1.e (r1.st.put id (.loop .busy none fn1 e1 nt1 ps1 as1 bo1 d1))).bind fun r2 => T.opt (r2.st.H.get id) 415 fun o2 => match o2, r2.mks with
              | .loop _ _ fn2 e2 nt2 ps2 as2 bo2 d2, [] => (match r2.x with
                | .normal => .ret (.bool true, r2.st.put id (.loop .ready none fn2 e2 nt2 ps2 as2 bo2 d2))
                | .exit j => .ret (.bool false, r2.st.put id (.loop .done (some (.exit j)) fn2 e2 nt2 ps2 as2 bo2 d2))
                | .ret => .ret (.bool false, r2.st.put id (.loop .done (some .ret) fn2 e2 nt2 ps2 as2 bo2 d2)))
              | _, _ => .bad 416
          | _ => .bad 417)
        | _, _ => .bad 418))
    | _ => .bad 419)
noncomputable def callF (cx : Ctx) (ih : CodeF) : CallF := fun t args st =>
  Tgt.rec (motive := fun _ => T (AV × St)) (fun f => Option.rec (motive := fun _ => T (AV × St)) (callF0 cx ih f args st) (fun h => h args st) (cx.hk.get f)) (fun id => yieldF ih id args st) t
/-- A loop over a function. -/
noncomputable def rangeF (cx : Ctx) (ih : CodeF) (g : Operand) (ps : List Tmp) (assign body : Code) (nt : Nat) (e : Tr AV) (st : St) : T Res :=
  T.opt (opnd cx.gl e g) 401 fun v => match v with
    | .func f first captured =>
      (callF cx ih (.fn f) (lapp first (.yield (Nat.succ st.nx) :: captured)) ((st.new .dfr).new (.loop .ready none 0 e nt ps assign body 0))).bind fun p => T.opt (p.2.H.get (Nat.succ st.nx)) 402 fun o => match o with
        | .loop .ready none _ _ _ _ _ _ _ => .ret ⟨.normal, e, ⟨p.2.H.upd (Nat.succ st.nx) none, p.2.nx, p.2.fx⟩, [.blk st.nx]⟩
        | .loop .done (some .ret) _ _ _ _ _ _ _ => .ret ⟨.ret, e, ⟨p.2.H.upd (Nat.succ st.nx) none, p.2.nx, p.2.fx⟩, [.blk st.nx]⟩
        | .loop .done (some (.exit id)) _ _ _ _ _ _ _ => .ret ⟨.exit id, e, ⟨p.2.H.upd (Nat.succ st.nx) none, p.2.nx, p.2.fx⟩, [.blk st.nx]⟩
        | _ => .bad 403
    | _ => .bad 404
/-- A region that ends in a deferred call of a function: what comes ahead of it, the function, its arguments. -/
noncomputable def deferAt (l : List Oper) : Option (List Oper × FuncId × List Operand) :=
  List.rec (motive := fun _ => Option (List Oper × FuncId × List Operand)) none
    (fun o t ih => match t with
      | [] => match o.op, o.guard, o.dst with
        | .defer c, none, none => (match c.callee with
          | .value (.func f) => some ([], f, c.args.toList)
          | _ => none)
        | _, _, _ => none
      | _ :: _ => ih.map fun p => (o :: p.1, p.2)) l
/-- The value's place is among those that are there. -/
noncomputable def idLt (n : Nat) (v : AV) : Bool := match v with
  | .bool _ => true
  | .int _ _ => true
  | .str _ => true
  | .nilp => true
  | .ptr id _ => Nat.ble (Nat.succ id) n
  | .slice id _ _ _ _ _ => Nat.ble (Nat.succ id) n
  | .nils => true
  | .map id => Nat.ble (Nat.succ id) n
  | .nilm => true
  | .nili => true
  | _ => false
noncomputable def idsLt (n : Nat) (l : List AV) : Bool :=
  List.rec (motive := fun _ => Bool) true (fun v _ ih => bif idLt n v then ih else false) l
noncomputable def codeE (cx : Ctx) (ih : CodeF) : CodeF := fun rd c nt e st =>
  match c with
  | .skip => .ret ⟨.normal, e, st, []⟩
  | .region _ ops draw =>
    bif draw then (T.opt (plan cx ops.toList) 330 fun p => regD cx (callF cx ih) nt ops.toList p e st [st.H]).bind fun p => .ret ⟨.normal, p.1, p.2, []⟩
    else match deferAt ops.toList with
      | none => (regS cx (callF cx ih) nt ops.toList ops.toList e st).bind fun p => .ret ⟨.normal, p.1, p.2, []⟩
      | some q => bif rd then .bad 428 else (regS cx (callF cx ih) nt ops.toList q.1 e st).bind fun p => T.opt (lopt (opnd cx.gl p.1) q.2.2) 431 fun args =>
        T.chk (idsLt p.2.nx args) 432 (.ret ⟨.normal, p.1, p.2, [.dfr q.2.1 args]⟩)
  | .seq a b => (ih rd a nt e st).bind fun r => match r.x with
    | .normal => (ih rd b nt r.e r.st).bind fun q => .ret ⟨q.x, q.e, q.st, lapp q.mks r.mks⟩
    | _ => .ret r
  | .cond c a b => T.opt (opnd cx.gl e c) 331 fun v => match v with
    | .bool true => ih rd a nt e st
    | .bool false => ih rd b nt e st
    | _ => .bad 332
  | .block id c => (ih rd c nt e st).bind fun r => match r.x with
    | .exit j => bif Nat.beq j id then .ret ⟨.normal, r.e, r.st, r.mks⟩ else .ret r
    | _ => .ret r
  | .loop c => (ih rd c nt e st).bind fun r => match r.x with
    | .normal => (ih rd (.loop c) nt r.e r.st).bind fun q => .ret ⟨q.x, q.e, q.st, lapp q.mks r.mks⟩
    | _ => .ret r
  | .exit id => .ret ⟨.exit id, e, st, []⟩
  | .label _ => .ret ⟨.normal, e, st, []⟩
  | .ret => .ret ⟨.ret, e, st, []⟩
  | .rangeFunc g ps assign body => bif rd then .bad 400 else rangeF cx ih g ps.toList assign body nt e st
  | .scope _ => .bad 334
  | _ => .bad 333
noncomputable def execN (cx : Ctx) (n : Nat) : CodeF :=
  Nat.rec (motive := fun _ => CodeF) (fun _ _ _ _ _ => .bad 340) (fun _ ih => codeE cx ih) n
noncomputable def callN (cx : Ctx) (n : Nat) : FuncId → List AV → St → T (AV × St) := fun f => callF cx (execN cx n) (.fn f)

/-! ## The tables of a program -/
/-- The kinds of the cells of fields, one behind the other from a place on. -/
def kindsF (P : Program) (kt : TypeId → Option (List Nat)) : List Field → Nat → Option (List Nat)
  | [], _ => some []
  | f :: fs, off => if f.name ≠ "_" ∧ f.offset = off then
      match kt f.type with
      | some a => if a.length = P.cellsOf f.type then (kindsF P kt fs (off + a.length)).map (a ++ ·) else none
      | none => none
    else none
/-- The kinds of a type's cells, where its values are the same just where their cells are. -/
def kindsT (P : Program) : Nat → TypeId → Option (List Nat)
  | 0, _ => none
  | d + 1, t => match P.underlying t with
    | some (.int _) => some [0]
    | some .string => some [1]
    | some .bool => some [2]
    | some (.struct fs) => if P.stoodInHeld t then none else kindsF P (kindsT P d) fs.toList 0
    | _ => none
noncomputable def mkTI (P : Program) (i : TypeInfo) (t : TypeId) : Option TI :=
  match P.underlying t with
  | none => none
  | some d => some ⟨i, d, i.zero.bind ofV, descAgg d, kindsT P 8 t, !P.eqGuardType P.depth t⟩
noncomputable def mkTT (P : Program) : Tr TI :=
  List.rec (motive := fun _ => Nat → Tr TI → Tr TI) (fun _ t => t)
    (fun i _ ih k t => ih (Nat.succ k) (t.upd k (mkTI P i k))) P.types.toList 0 .nil
noncomputable def mkCtxH (P : Program) (hk : Tr (List AV → St → T (AV × St))) : Ctx := ⟨Tr.ofList P.funcs.toList, mkTT P, 0, hk, 1000000⟩
noncomputable def mkCtxE (P : Program) (hk : Tr (List AV → St → T (AV × St))) (en : Nat) : Ctx := ⟨Tr.ofList P.funcs.toList, mkTT P, 0, hk, en⟩
noncomputable def mkCtx (P : Program) : Ctx := mkCtxH P .nil

/-- How a run ends: which ways there are, and what it comes to at each. -/
inductive Sum where
  | bad (c : Nat)
  | yes
  | no
  | other
  | split (c : Atom) (t f : Sum)
noncomputable def summ (t : T (AV × St)) : Sum :=
  T.rec (motive := fun _ => Sum) (fun c => .bad c) (fun p => match p.1 with | .bool true => .yes | .bool false => .no | _ => .other) (fun c _ _ x y => .split c x y) t
noncomputable def St.init : St := ⟨.nil, 0, []⟩
end Ab
