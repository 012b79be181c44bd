/- The evaluator: regions, statements, calls, loops over functions. No condition. -/
import Derived.Test.YtndjhcmgngnfbaaGreatDoorAmM
import Derived.Test.YtndjhcmgngnfbaaGreatDoorAmN
set_option linter.unusedSimpArgs false
set_option linter.unusedVariables false
set_option linter.all false
namespace Go.Proofs.YtndjhcmgngnfbaaGreatDoor.AM
open Go Go.RowKit
/-- The code's constants hold no addresses; the variables that it names are laid. -/
def opOk (G : List Nat) (o : Oper) : Bool :=
  o.op.operands.toList.all fun x => match x with
    | .tmp _ => true
    | .const v => plain v
    | .global g => G.contains g
    | .func _ => true
structure Recs where
  call : FuncId → Array Value → M Value
  code : Option Nat → Code → Act → M (Exit × Act)
  scp : Option Nat → Code → Code → Act → M (Exit × Act)
def M.ret {α : Type} (a : α) : M α := fun s => some (a, s)
def M.fail {α : Type} : M α := fun _ => none
def beginT (l : Nat) : AT Unit :=
  .getObj l fun o => match o with
    | .loop r => match r.state with
      | .ready => .setObj l (.loop { r with state := .busy }) (.ret ())
      | _ => .fail
    | _ => .fail
def endT (l : Nat) (jump : Option Code) : AT Value :=
  .getObj l fun o => match o with
    | .loop r => .setObj l (.loop { r with state := if jump.isNone then .ready else .done, pending := jump }) (.ret (.bool jump.isNone))
    | _ => .fail
def endLoopT (l : Nat) : AT (Option Code) :=
  .getObj l fun o => match o with
    | .loop r => match r.state with
      | .busy => .fail
      | _ => .setObj l (.loop { r with state := .exhausted }) (.ret r.pending)
    | _ => .fail
def takeT (b : Nat) : AT Unit :=
  .getObj b fun o => match o with
    | .deferred (some []) => .setObj b (.deferred none) (.ret ())
    | _ => .fail
def enterLoopT (inR : Option Nat) (tmps : Array Value) (params : Array Tmp) (assign body : Code) : AT (Nat × List Deferred) :=
  match inR with
  | some l => .getObj l fun o => match o with
    | .loop r => .new (.obj (.loop { state := .ready, pending := none, fn := 0, tmps, params, assign, body, defers := r.defers })) fun k => .ret (k, [])
    | _ => .fail
  | none => .new (.obj (.deferred (some []))) fun d => .new (.obj (.loop { state := .ready, pending := none, fn := 0, tmps, params, assign, body, defers := d })) fun k => .ret (k, [⟨.collected d, #[]⟩])
def roundM (r : Recs) (l : Nat) (tmps : Array Value) (assign body : Code) : M Value :=
  M.bind (r.code (some l) assign ⟨tmps, []⟩) fun p => match p.1 with
    | .normal => M.bind (beginT l).run fun _ => M.bind (r.code (some l) body p.2) fun q => match q.1 with
      | .normal => (endT l none).run
      | .ret => (endT l (some .ret)).run
      | .exit id => (endT l (some (.exit id))).run
      | .goto t => (endT l (some (.goto t))).run
      | _ => M.fail
    | _ => M.fail
def afterOp (r : Recs) : AN → M Value
  | .value v => M.ret v
  | .skip => M.ret undef
  | .enter f args => r.call f args
  | .round l t x y => roundM r l t x y
  | .defer _ => M.fail
def valOp (E : Env) (G : List Nat) (r : Recs) (ops : Array Oper) (i : Nat) (a : Act) : M Value :=
  match ops[i]? with
  | none => M.fail
  | some o => bif Region.wanted o (yielded ops a.tmps) then
      bif opOk G o then M.bind (opT E a.eval o).run (afterOp r) else M.fail
    else M.ret undef
def dstOf (ops : Array Oper) (i : Nat) : Option Tmp := (ops[i]?).bind (·.dst)
def usesOf (ops : Array Oper) (i : Nat) : List Tmp :=
  match ops[i]? with
  | some o => o.looksAt ops
  | none => []
def isDefer (o : Option Oper) : Option (Oper × Call) :=
  match o with
  | some o => match o.op with
    | .defer c => some (o, c)
    | _ => none
  | none => none
def seqOps (E : Env) (G : List Nat) (r : Recs) (inR : Option Nat) (ops : Array Oper) : List Nat → Act → M Act
  | [], a => M.ret a
  | i :: l, a =>
    match isDefer ops[i]? with
    | some (o, c) =>
      bif Region.wanted o (yielded ops a.tmps) && opOk G o && inR.isNone then
        M.bind (deferT c a.eval).run fun n => match n with
          | .defer d => seqOps E G r inR ops l ({ a with defers := d :: a.defers }.put o.dst undef)
          | _ => M.fail
      else M.fail
    | none => M.bind (valOp E G r ops i a) fun v => seqOps E G r inR ops l (a.put (dstOf ops i) v)
def logged (m : M Value) (i : Nat) : M Rc := fun s =>
  match m ⟨s.h, s.nx, [], []⟩ with
  | some (v, s') => some (⟨i, s.nx, s'.nx, s'.rd, s'.wr, v⟩, ⟨s'.h, s'.nx, s'.rd ++ s.rd, s'.wr ++ s.wr⟩)
  | none => none
def drawOps (E : Env) (G : List Nat) (r : Recs) (ops : Array Oper) : List Nat → Act → M (Act × List Rc)
  | [], a => M.ret (a, [])
  | i :: l, a => M.bind (logged (valOp E G r ops i a) i) fun c => M.bind (drawOps E G r ops l (a.put (dstOf ops i) c.v)) fun p => M.ret (p.1, c :: p.2)
def locEq (a b : Loc) : Bool := Nat.beq a.1 b.1 && Nat.beq a.2 b.2
def locIn (l : Loc) (L : List Loc) : Bool := L.any (locEq l)
def locFar (n0 n1 : Nat) (L : List Loc) : Bool := Nat.beq n0 n1 || L.all fun l => !(Nat.ble n0 l.1 && Nat.blt l.1 n1)
def tmpIn (t : Tmp) (L : List Tmp) : Bool := L.any (Nat.beq t)
def tmpFree (d : Option Tmp) (L : List Tmp) : Bool :=
  match d with
  | none => true
  | some t => !(tmpIn t L)
def dstDiffer (d e : Option Tmp) : Bool :=
  match d, e with
  | some t, some u => !(Nat.beq t u)
  | _, _ => true
def indB (ops : Array Oper) (x y : Rc) : Bool :=
  (x.W.all fun l => !(locIn l y.R) && !(locIn l y.W)) && (y.W.all fun l => !(locIn l x.R)) &&
  locFar y.n0 y.n1 x.R && locFar y.n0 y.n1 x.W && locFar x.n0 x.n1 y.R && locFar x.n0 x.n1 y.W && Nat.ble x.n1 y.n0 &&
  tmpFree (dstOf ops x.i) (usesOf ops y.i) && dstDiffer (dstOf ops x.i) (dstOf ops y.i) && tmpFree (dstOf ops y.i) (usesOf ops x.i)
/-- All pairs of which neither must come first are independent. -/
def allInd (ops : Array Oper) (ms : List Nat) : List Rc → Bool
  | [] => true
  | x :: L => (L.all fun y => Nat.testBit (ms.getD y.i 0) x.i || indB ops x y) && allInd ops ms L
def noDefer (ops : Array Oper) : Bool := ops.toList.all fun o => match o.op with | .defer _ => false | _ => true
def edgesOk (ops : Array Oper) : Bool :=
  ops.toList.zipIdx.all fun p => p.1.after.toList.all fun e => !(Region.binds .any e) || Nat.blt e.on p.2
def drawM (E : Env) (G : List Nat) (r : Recs) (ops : Array Oper) (a : Act) : M (Exit × Act) :=
  bif noDefer ops && edgesOk ops then
    M.bind (drawOps E G r ops (List.range ops.size) a) fun p => bif allInd ops (masks ops) p.2 then M.ret (.normal, p.1) else M.fail
  else M.fail
def rangeOk (G : List Nat) (f : Operand) : Bool :=
  match f with | .tmp _ => true | .const v => plain v | .global g => G.contains g | .func _ => true
def condOk (x : Operand) : Bool :=
  match x with | .tmp _ => true | .const v => plain v | _ => false
def rangeM (E : Env) (G : List Nat) (r : Recs) (inR : Option Nat) (f : Operand) (params : Array Tmp) (assign body : Code) (a : Act) : M (Exit × Act) :=
  bif rangeOk G f then
    match a.eval f with
    | .func (.func g) first cap => match E.fn g with
      | some _ => M.bind (enterLoopT inR a.tmps params assign body).run fun q =>
          M.bind (r.call g (first ++ #[.func (.yield q.1) #[] #[]] ++ cap)) fun _ =>
          M.bind (endLoopT q.1).run fun jump => match jump with
            | none => M.ret (.normal, { a with defers := q.2 ++ a.defers })
            | some c => r.code inR c { a with defers := q.2 ++ a.defers }
      | none => M.fail
    | _ => M.fail
  else M.fail
def codeStep (E : Env) (G : List Nat) (r : Recs) (inR : Option Nat) (c : Code) (a : Act) : M (Exit × Act) :=
  match c with
  | .skip => M.ret (.normal, a)
  | .label _ => M.ret (.normal, a)
  | .region _ ops draw => bif draw then drawM E G r ops a else M.bind (seqOps E G r inR ops (List.range ops.size) a) fun b => M.ret (.normal, b)
  | .seq x y => M.bind (r.code inR x a) fun p => match p.1 with
    | .normal => r.code inR y p.2
    | e => M.ret (e, p.2)
  | .cond x t e => bif condOk x then
      match a.eval x with
      | .bool b => r.code inR (if b then t else e) a
      | _ => M.fail
    else M.fail
  | .block id b => M.bind (r.code inR b a) fun p => match p.1 with
    | .exit id' => M.ret (if id' = id then .normal else .exit id', p.2)
    | e => M.ret (e, p.2)
  | .loop b => M.bind (r.code inR b a) fun p => match p.1 with
    | .normal => r.code inR (.loop b) p.2
    | e => M.ret (e, p.2)
  | .rangeFunc f ps x y => rangeM E G r inR f ps x y a
  | .exit id => M.ret (.exit id, a)
  | .goto l => M.ret (.goto l, a)
  | .ret => M.ret (.ret, a)
  | .scope b => r.scp inR b b a
  | .refuse _ => M.fail
def scpStep (r : Recs) (inR : Option Nat) (b c : Code) (a : Act) : M (Exit × Act) :=
  M.bind (r.code inR c a) fun p => match p.1 with
    | .goto l => match findLabel b l with
      | some rest => r.scp inR b rest p.2
      | none => M.ret p
    | _ => M.ret p
def resT (ty : Nat → Option TInfo) (tmps : Array Value) : List ResultVar → AT (List Value)
  | [] => .ret []
  | .tmp t :: l => (resT ty tmps l).bind fun vs => .ret (tmps.getD t undef :: vs)
  | .cell a t :: l => (loadT ty t (tmps.getD a undef)).bind fun v => (resT ty tmps l).bind fun vs => .ret (v :: vs)
def tupleOf (vs : List Value) : Value :=
  match vs with
  | [v] => v
  | vs => .tuple vs.toArray
def isRecover (o : Oper) : Bool :=
  match o.op with
  | .call c => match c.callee with
    | .builtin .recover => true
    | _ => false
  | _ => false
/-- The first region of a function that is entered as a deferred call, while nothing panics: recover yields nil. -/
def dOps (E : Env) (G : List Nat) (ops : Array Oper) : List Nat → Act → M Act
  | [], a => M.ret a
  | i :: l, a => match ops[i]? with
    | none => M.fail
    | some o => bif Region.wanted o (yielded ops a.tmps) then
        bif isRecover o then dOps E G ops l (a.put o.dst .nilIface)
        else bif opOk G o then M.bind (opT E a.eval o).run fun n => match n with
          | .value v => dOps E G ops l (a.put o.dst v)
          | .skip => dOps E G ops l (a.put o.dst undef)
          | _ => M.fail
        else M.fail
      else dOps E G ops l (a.put o.dst undef)
def dCode (E : Env) (G : List Nat) (r : Recs) : Code → Act → M (Exit × Act)
  | .seq x y, a => M.bind (dCode E G r x a) fun p => match p.1 with
    | .normal => r.code none y p.2
    | e => M.ret (e, p.2)
  | .region _ ops draw, a => bif draw then M.fail else M.bind (dOps E G ops (List.range ops.size) a) fun b => M.ret (.normal, b)
  | c, a => r.code none c a
def dEnd (E : Env) (x : Func) (a : Act) : M Unit :=
  match a.defers with
  | [] => M.bind (resT E.ty a.tmps x.results.toList).run fun _ => M.ret ()
  | _ => M.fail
def dCall (E : Env) (G : List Nat) (r : Recs) (f : FuncId) (args : Array Value) : M Unit :=
  match E.fn f with
  | none => M.fail
  | some x => match x.body with
    | none => M.fail
    | some c => M.bind (dCode E G r c ⟨args ++ Array.replicate (x.ntmps - args.size) undef, []⟩) fun p => match p.1 with
      | .normal => dEnd E x p.2
      | .ret => dEnd E x p.2
      | _ => M.fail
def leaveM (E : Env) (G : List Nat) (r : Recs) : List Deferred → M Unit
  | [] => M.ret ()
  | d :: ds => match d.target with
    | .collected b => M.bind (takeT b).run fun _ => leaveM E G r ds
    | .fn (.func g) cap => M.bind (dCall E G r g (d.args ++ cap)) fun _ => leaveM E G r ds
    | _ => M.fail
def callBody (E : Env) (G : List Nat) (r : Recs) (f : FuncId) (args : Array Value) : M Value :=
  match E.fn f with
  | none => M.fail
  | some x => match x.body with
    | none => M.fail
    | some c => M.bind (r.code none c ⟨args ++ Array.replicate (x.ntmps - args.size) undef, []⟩) fun p => match p.1 with
      | .normal => M.bind (leaveM E G r p.2.defers) fun _ => M.bind (resT E.ty p.2.tmps x.results.toList).run fun vs => M.ret (tupleOf vs)
      | .ret => M.bind (leaveM E G r p.2.defers) fun _ => M.bind (resT E.ty p.2.tmps x.results.toList).run fun vs => M.ret (tupleOf vs)
      | _ => M.fail
def callStep (E : Env) (G : List Nat) (r : Recs) (f : FuncId) (args : Array Value) : M Value := trim (callBody E G r f args)
def evalN (E : Env) (G : List Nat) : Nat → Recs
  | 0 => ⟨fun _ _ => M.fail, fun _ _ _ => M.fail, fun _ _ _ _ => M.fail⟩
  | n + 1 => ⟨callStep E G (evalN E G n), codeStep E G (evalN E G n), scpStep (evalN E G n)⟩
/-! ### Locality -/
structure RLocal (r : Recs) : Prop where
  call : ∀ f args, Local (r.call f args)
  code : ∀ inR c a, Local (r.code inR c a)
  scp : ∀ inR b c a, Local (r.scp inR b c a)
section
variable {E : Env} {G : List Nat} {r : Recs}
theorem roundM_local (hr : RLocal r) (l : Nat) (tmps : Array Value) (x y : Code) : Local (roundM r l tmps x y) := by
  unfold roundM
  refine Local.bind (hr.code _ _ _) fun p => ?_
  cases p.1 <;> first
    | exact Local.fail
    | (dsimp only
       refine Local.bind (AT.local_run _) fun _ => Local.bind (hr.code _ _ _) fun q => ?_
       cases q.1 <;> first | exact Local.fail | exact AT.local_run _)
theorem afterOp_local (hr : RLocal r) (n : AN) : Local (afterOp r n) := by
  cases n with
  | value v => exact Local.ret v
  | skip => exact Local.ret _
  | enter f args => exact hr.call f args
  | round l t x y => exact roundM_local hr l t x y
  | defer d => exact Local.fail
theorem valOp_local (hr : RLocal r) (ops : Array Oper) (i : Nat) (a : Act) : Local (valOp E G r ops i a) := by
  unfold valOp
  cases ops[i]? with
  | none => exact Local.fail
  | some o =>
    dsimp only
    cases Region.wanted o (yielded ops a.tmps) with
    | false => exact Local.ret _
    | true =>
      simp only [cond_true]
      cases opOk G o with
      | false => exact Local.fail
      | true => exact Local.bind (AT.local_run _) (afterOp_local hr)
theorem seqOps_local (hr : RLocal r) (inR : Option Nat) (ops : Array Oper) : ∀ (l : List Nat) (a : Act), Local (seqOps E G r inR ops l a) := by
  intro l
  induction l with
  | nil => intro a; exact Local.ret a
  | cons i l ih =>
    intro a
    simp only [seqOps]
    cases isDefer ops[i]? with
    | none => exact Local.bind (valOp_local hr ops i a) fun v => ih _
    | some q =>
      obtain ⟨o, c⟩ := q
      dsimp only
      cases Region.wanted o (yielded ops a.tmps) && opOk G o && inR.isNone with
      | false => exact Local.fail
      | true =>
        refine Local.bind (AT.local_run _) fun n => ?_
        cases n <;> first | exact Local.fail | exact ih _
theorem logged_local {m : M Value} (hm : Local m) (i : Nat) : Local (logged m i) := by
  intro s c s' h
  unfold logged at h
  cases h1 : m ⟨s.h, s.nx, [], []⟩ with
  | none => rw [h1] at h; cases h
  | some p =>
    obtain ⟨v, s1⟩ := p
    rw [h1] at h
    cases h
    obtain ⟨R, W, hd⟩ := hm _ _ _ h1
    have hrd := hd.rd
    have hwr := hd.wr
    simp only [List.append_nil] at hrd hwr
    refine ⟨R, W, by rw [hrd], by rw [hwr], hd.nx, hd.mono, hd.frame, hd.fresh, fun t ht hR hf => ?_⟩
    obtain ⟨t', e1, e2, e3, e4, e5⟩ := hd.again ⟨t.h, t.nx, [], []⟩ ht hR hf
    refine ⟨⟨t'.h, t'.nx, t'.rd ++ t.rd, t'.wr ++ t.wr⟩, ?_, e2, ?_, ?_, e5⟩
    · unfold logged
      rw [e1]
      simp only [List.append_nil] at e3 e4
      simp only [e2, e3, e4, hrd, hwr, ht]
    · simp only [List.append_nil] at e3; rw [e3]
    · simp only [List.append_nil] at e4; rw [e4]
theorem drawOps_local (hr : RLocal r) (ops : Array Oper) : ∀ (l : List Nat) (a : Act), Local (drawOps E G r ops l a) := by
  intro l
  induction l with
  | nil => intro a; exact Local.ret _
  | cons i l ih =>
    intro a
    simp only [drawOps]
    exact Local.bind (logged_local (valOp_local hr ops i a) i) fun c => Local.bind (ih _) fun p => Local.ret _
theorem codeStep_local (hr : RLocal r) (inR : Option Nat) (c : Code) (a : Act) : Local (codeStep E G r inR c a) := by
  unfold codeStep
  cases c with
  | skip => exact Local.ret _
  | label l => exact Local.ret _
  | exit id => exact Local.ret _
  | goto l => exact Local.ret _
  | ret => exact Local.ret _
  | refuse w => exact Local.fail
  | region id ops draw =>
    dsimp only
    cases draw with
    | true =>
      simp only [cond_true]
      unfold drawM
      cases noDefer ops && edgesOk ops with
      | false => exact Local.fail
      | true =>
        refine Local.bind (drawOps_local hr ops _ a) fun p => ?_
        cases allInd ops (masks ops) p.2 with
        | false => exact Local.fail
        | true => exact Local.ret _
    | false => exact Local.bind (seqOps_local hr inR ops _ a) fun b => Local.ret _
  | seq x y =>
    refine Local.bind (hr.code _ _ _) fun p => ?_
    cases p.1 <;> first | exact hr.code _ _ _ | exact Local.ret _
  | cond x t e =>
    dsimp only
    cases condOk x with
    | false => exact Local.fail
    | true => simp only [cond_true]; cases a.eval x <;> first | exact Local.fail | exact hr.code _ _ _
  | block id b =>
    refine Local.bind (hr.code _ _ _) fun p => ?_
    cases p.1 <;> exact Local.ret _
  | loop b =>
    refine Local.bind (hr.code _ _ _) fun p => ?_
    cases p.1 <;> first | exact hr.code _ _ _ | exact Local.ret _
  | scope b => exact hr.scp _ _ _ _
  | rangeFunc f ps x y =>
    dsimp only
    unfold rangeM
    cases rangeOk G f with
    | false => exact Local.fail
    | true =>
      simp only [cond_true]
      cases a.eval f <;> first
        | exact Local.fail
        | (rename_i fn first cap
           cases fn <;> first
             | exact Local.fail
             | (dsimp only
                cases E.fn _ with
                | none => exact Local.fail
                | some z =>
                  refine Local.bind (AT.local_run _) fun q => Local.bind (hr.call _ _) fun _ => Local.bind (AT.local_run _) fun jump => ?_
                  cases jump with
                  | none => exact Local.ret _
                  | some c => exact hr.code _ _ _))
theorem scpStep_local (hr : RLocal r) (inR : Option Nat) (b c : Code) (a : Act) : Local (scpStep r inR b c a) := by
  unfold scpStep
  refine Local.bind (hr.code _ _ _) fun p => ?_
  cases p.1 <;> first
    | exact Local.ret _
    | (dsimp only
       cases findLabel b _ with
       | none => exact Local.ret _
       | some rest => exact hr.scp _ _ _ _)
theorem dOps_local {ops : Array Oper} : ∀ (l : List Nat) (a : Act), Local (dOps E G ops l a) := by
  intro l
  induction l with
  | nil => exact fun a => Local.ret _
  | cons i l ih =>
    intro a
    simp only [dOps]
    cases ops[i]? with
    | none => exact Local.fail
    | some o =>
      dsimp only
      cases Region.wanted o (yielded ops a.tmps) with
      | false => exact ih _
      | true =>
        simp only [cond_true]
        cases isRecover o with
        | true => exact ih _
        | false =>
          simp only [cond_false]
          cases opOk G o with
          | false => exact Local.fail
          | true =>
            refine Local.bind (AT.local_run _) fun n => ?_
            cases n <;> first | exact ih _ | exact Local.fail
theorem dCode_local (hr : RLocal r) : ∀ (c : Code) (a : Act), Local (dCode E G r c a) := by
  intro c
  induction c with
  | seq x y ihx _ =>
    intro a
    simp only [dCode]
    refine Local.bind (ihx a) fun p => ?_
    cases p.1 <;> first | exact hr.code _ _ _ | exact Local.ret _
  | region id ops draw =>
    intro a
    simp only [dCode]
    cases draw with
    | true => exact Local.fail
    | false => exact Local.bind (dOps_local _ _) fun _ => Local.ret _
  | _ => intro a; exact hr.code _ _ _
theorem dEnd_local (x : Func) (a : Act) : Local (dEnd E x a) := by
  unfold dEnd
  cases a.defers with
  | nil => exact Local.bind (AT.local_run _) fun _ => Local.ret _
  | cons d l => exact Local.fail
theorem dCall_local (hr : RLocal r) (f : FuncId) (args : Array Value) : Local (dCall E G r f args) := by
  unfold dCall
  cases E.fn f with
  | none => exact Local.fail
  | some x =>
    dsimp only
    cases x.body with
    | none => exact Local.fail
    | some c =>
      refine Local.bind (dCode_local hr _ _) fun p => ?_
      cases p.1 <;> first | exact Local.fail | exact dEnd_local _ _
theorem leaveM_local (hr : RLocal r) : ∀ ds, Local (leaveM E G r ds) := by
  intro ds
  induction ds with
  | nil => exact Local.ret _
  | cons d ds ih =>
    simp only [leaveM]
    cases d.target with
    | collected b => exact Local.bind (AT.local_run _) fun _ => ih
    | fn f cap => cases f <;> first | exact Local.fail | exact Local.bind (dCall_local hr _ _) fun _ => ih
    | _ => exact Local.fail
theorem callBody_local (hr : RLocal r) (f : FuncId) (args : Array Value) : Local (callBody E G r f args) := by
  unfold callBody
  cases E.fn f with
  | none => exact Local.fail
  | some x =>
    dsimp only
    cases x.body with
    | none => exact Local.fail
    | some c =>
      refine Local.bind (hr.code _ _ _) fun p => ?_
      cases p.1 <;> first
        | exact Local.fail
        | exact Local.bind (leaveM_local hr _) fun _ => Local.bind (AT.local_run _) fun _ => Local.ret _
theorem callStep_local (hr : RLocal r) (f : FuncId) (args : Array Value) : Local (callStep E G r f args) := (callBody_local hr f args).trim
theorem evalN_local (n : Nat) : RLocal (evalN E G n) := by
  induction n with
  | zero => exact ⟨fun _ _ => Local.fail, fun _ _ _ => Local.fail, fun _ _ _ _ => Local.fail⟩
  | succ n ih => exact ⟨fun f args => callStep_local ih f args, fun inR c a => codeStep_local ih inR c a, fun inR b c a => scpStep_local ih inR b c a⟩
end
/-! ### An operation sees its operands alone -/
section
variable {E : Env} {G : List Nat} {r : Recs}
theorem opT_congr {o : Oper} {ρ ρ' : Operand → Value} (h : ∀ x ∈ o.op.operands.toList, ρ x = ρ' x) : opT E ρ o = opT E ρ' o := by
  have hmap : ∀ (l : List Operand), (∀ x ∈ l, ρ x = ρ' x) → l.map ρ = l.map ρ' := fun l hl => List.map_congr_left hl
  have hamap : ∀ (l : Array Operand), (∀ x ∈ l.toList, ρ x = ρ' x) → l.map ρ = l.map ρ' := fun l hl => by
    apply Array.ext'; simp only [Array.toList_map]; exact hmap _ hl
  have homap : ∀ (l : Option Operand), (∀ x ∈ l.toList, ρ x = ρ' x) → l.map ρ = l.map ρ' := fun l hl => by
    cases l with
    | none => rfl
    | some x => simp [hl x (by simp)]
  have hfill : ∀ (ps : Array (Nat × Operand)), (∀ p ∈ ps.toList, ρ p.2 = ρ' p.2) → ∀ pl z, fillT pl z ρ ps = fillT pl z ρ' ps := fun ps hp pl z => by
    unfold fillT
    congr 1
    exact List.map_congr_left fun p hpm => by rw [hp p hpm]
  have hcall : ∀ (c : Call), (∀ x ∈ c.operands.toList, ρ x = ρ' x) → callT E c ρ = callT E c ρ' ∧ deferT c ρ = deferT c ρ' := fun c hc => by
    have ha : ∀ x ∈ c.args.toList, ρ x = ρ' x := fun x hx => hc x (by simp [Call.operands]; right; simpa using hx)
    have ham := hamap c.args ha
    unfold callT deferT
    cases hcc : c.callee with
    | builtin b =>
      refine ⟨?_, rfl⟩
      dsimp only
      unfold builtinT
      have hall : (c.args.toList.all fun x => plain (ρ x)) = (c.args.toList.all fun x => plain (ρ' x)) := by
        rw [Bool.eq_iff_iff]; simp only [List.all_eq_true]
        exact ⟨fun q x hx => by rw [← ha x hx]; exact q x hx, fun q x hx => by rw [ha x hx]; exact q x hx⟩
      have hm := hmap c.args.toList ha
      cases b <;> first
        | rfl
        | (dsimp only; rw [hall, hm])
        | (cases hl : c.args.toList with
           | nil => rfl
           | cons x l =>
             rw [hl] at ha
             have hx := ha x (by simp)
             cases l with
             | nil => simp [hx]
             | cons y l =>
               have hy := ha y (by simp)
               cases l with
               | nil => simp [hx, hy]
               | cons z l => rfl)
    | invoke recv name =>
      have hr := hc recv (by simp [Call.operands, hcc])
      exact ⟨by simp only [hr, ham], rfl⟩
    | value f =>
      have hf := hc f (by simp [Call.operands, hcc])
      exact ⟨by simp only [hf, ham], by simp only [hf, ham]⟩
  unfold opT
  cases ho : o.op with
  | move x => simp only [h x (by simp [ho, Op.operands])]
  | assign x => simp only [h x (by simp [ho, Op.operands])]
  | pick c a b => simp only [h c (by simp [ho, Op.operands]), h a (by simp [ho, Op.operands]), h b (by simp [ho, Op.operands])]
  | box e x => simp only [h x (by simp [ho, Op.operands])]
  | build t parts =>
    have := hfill parts fun p hp => h p.2 (by simp [ho, Op.operands]; exact ⟨p.1, by simpa using hp⟩)
    simp only [buildT, this]
  | buildSlice t len parts =>
    have := hfill parts fun p hp => h p.2 (by simp [ho, Op.operands]; exact ⟨p.1, by simpa using hp⟩)
    simp only [buildSliceT, this]
  | load t a => simp only [h a (by simp [ho, Op.operands])]
  | store t a x => simp only [h a (by simp [ho, Op.operands]), h x (by simp [ho, Op.operands])]
  | nilCheck x => simp only [h x (by simp [ho, Op.operands])]
  | binOp op t x y yt => simp only [h x (by simp [ho, Op.operands]), h y (by simp [ho, Op.operands])]
  | unOp op t x => simp only [h x (by simp [ho, Op.operands])]
  | convert s d x => simp only [h x (by simp [ho, Op.operands])]
  | makeInterface t x => simp only [h x (by simp [ho, Op.operands])]
  | makeFunc fn first cap =>
    simp only [hamap first fun x hx => h x (by simp [ho, Op.operands]; left; simpa using hx), hamap cap fun x hx => h x (by simp [ho, Op.operands]; right; simpa using hx)]
  | makeMap t r => simp only [homap r fun x hx => h x (by simp [ho, Op.operands]; simpa using hx)]
  | makeSlice t l c => simp only [h l (by simp [ho, Op.operands]), h c (by simp [ho, Op.operands])]
  | slice t x lo hi mx =>
    simp only [h x (by simp [ho, Op.operands]), homap lo fun y hy => h y (by simp [ho, Op.operands] at hy ⊢; simp [hy]), homap hi fun y hy => h y (by simp [ho, Op.operands] at hy ⊢; simp [hy]), homap mx fun y hy => h y (by simp [ho, Op.operands] at hy ⊢; simp [hy])]
  | fieldAddr s x f => simp only [h x (by simp [ho, Op.operands])]
  | field t x f => simp only [h x (by simp [ho, Op.operands])]
  | indexAddr t x i => simp only [h x (by simp [ho, Op.operands]), h i (by simp [ho, Op.operands])]
  | index t x i => simp only [h x (by simp [ho, Op.operands]), h i (by simp [ho, Op.operands])]
  | lookup t x i ok => simp only [h x (by simp [ho, Op.operands]), h i (by simp [ho, Op.operands])]
  | mapUpdate t m k x => simp only [h m (by simp [ho, Op.operands]), h k (by simp [ho, Op.operands]), h x (by simp [ho, Op.operands])]
  | insert t m k x => simp only [h m (by simp [ho, Op.operands]), h k (by simp [ho, Op.operands]), h x (by simp [ho, Op.operands])]
  | range t x => simp only [h x (by simp [ho, Op.operands])]
  | next it s => simp only [h it (by simp [ho, Op.operands])]
  | typeAssert x t asserted ok => simp only [h x (by simp [ho, Op.operands])]
  | extract t i => simp only [h t (by simp [ho, Op.operands])]
  | call c => exact (hcall c fun x hx => h x (by simp [ho, Op.operands]; simpa using hx)).1
  | defer c => exact (hcall c fun x hx => h x (by simp [ho, Op.operands]; simpa using hx)).2
  | _ => rfl
theorem valOp_congr (ops : Array Oper) (i : Nat) (a b : Act) (h : SameUse (usesOf ops) i a b) : valOp E G r ops i a = valOp E G r ops i b := by
  unfold valOp
  obtain ⟨hsz, hu⟩ := h
  cases ho : ops[i]? with
  | none => rfl
  | some o =>
    dsimp only
    have hu' : ∀ t ∈ o.looksAt ops, a.tmps.getD t undef = b.tmps.getD t undef := by
      intro t ht
      exact hu t (by simp only [usesOf, ho]; exact ht)
    have hev : ∀ x ∈ o.op.operands.toList, a.eval x = b.eval x := by
      intro x hx
      cases x with
      | tmp t =>
        exact hu' t (by
          unfold Oper.looksAt
          refine List.mem_append.2 (.inl ?_)
          simp only [List.mem_filterMap]
          exact ⟨.tmp t, hx, rfl⟩)
      | _ => rfl
    have hw : Region.wanted o (yielded ops a.tmps) = Region.wanted o (yielded ops b.tmps) := by
      unfold Region.wanted
      cases hg : o.guard with
      | none => rfl
      | some q =>
        obtain ⟨j, want⟩ := q
        dsimp only
        congr 1
        unfold yielded
        cases hd : (ops[j]?).bind (·.dst) with
        | none => rfl
        | some t =>
          have ht := hu' t (by
            unfold Oper.looksAt
            refine List.mem_append.2 (.inr ?_)
            simp [hg, hd])
          have : a.tmps[t]? = b.tmps[t]? := by
            simp only [Array.getD_eq_getD_getElem?] at ht
            by_cases hlt : t < a.tmps.size
            · rw [Array.getElem?_eq_getElem hlt, Array.getElem?_eq_getElem (Nat.lt_of_lt_of_eq hlt hsz)] at ht ⊢
              simpa using ht
            · rw [Array.getElem?_eq_none (Nat.le_of_not_lt hlt), Array.getElem?_eq_none (hsz ▸ Nat.le_of_not_lt hlt)]
          simp only [Option.bind_some, this]
    rw [hw, opT_congr hev]
end
end Go.Proofs.YtndjhcmgngnfbaaGreatDoor.AM
