/- The same evaluator, whose dispatch on the program's text is reckoned once (a closed term behind a structure is remembered by the kernel). No condition. -/
import Derived.Test.YtndjhcmgngnfbaaGreatDoorAmU
set_option linter.unusedSimpArgs false
set_option linter.unusedVariables false
set_option linter.all false
namespace Go.Proofs.YtndjhcmgngnfbaaGreatDoor.AM
open Go
structure OpC where
  f : (Operand → Value) → AT AN
noncomputable def callC (E : Env) (c : Call) : OpC :=
  match c.callee with
  | .builtin b => ⟨fun ρ => builtinT E b c ρ⟩
  | .invoke recv name => ⟨fun ρ => callMethodT E (ρ recv) name ⟨c.args.toList.map ρ⟩⟩
  | .value g => ⟨fun ρ => match ρ g with
    | .func fn first cap => targetT E fn cap ⟨first.toList ++ c.args.toList.map ρ⟩
    | _ => .fail⟩
noncomputable def opC (E : Env) (o : Oper) : OpC :=
  match o.op with
  | .move x => ⟨fun ρ => .ret (.value (ρ x))⟩
  | .assign x => ⟨fun ρ => .ret (.value (ρ x))⟩
  | .pick c a b => ⟨fun ρ => (match ρ c with
    | .bool t => .ret (.value (if t then ρ a else ρ b))
    | _ => .fail)⟩
  | .alloc elem => ⟨fun ρ => vT (allocT E.ty elem)⟩
  | .box elem x => ⟨fun ρ => vT (boxT elem (ρ x))⟩
  | .build t parts => ⟨fun ρ => vT (buildT E.ty E.pl t ρ parts)⟩
  | .buildSlice t len parts => ⟨fun ρ => vT (buildSliceT E.ty t len ρ parts)⟩
  | .load t a => ⟨fun ρ => vT (loadT E.ty t (ρ a))⟩
  | .store t a x => ⟨fun ρ => uT (storeT E.ty t (ρ x) (ρ a))⟩
  | .nilCheck x => ⟨fun ρ => vT (nilCheckT E (ρ x))⟩
  | .binOp op t x y _ => ⟨fun ρ => vT (binT E.P E.ty op t x y (ρ x) (ρ y))⟩
  | .unOp op _ x => ⟨fun ρ => bif plain (ρ x) then vT ((ofOpt (pureRun E.P (Op.unary op (ρ x)))).bind fun v => bif plain v then .ret v else .fail) else .fail⟩
  | .convert src dst x => ⟨fun ρ => vT (convT E.P E.ty src dst (ρ x))⟩
  | .makeInterface t x => ⟨fun ρ => vT (ifaceT E.ty t (ρ x))⟩
  | .makeFunc fn first cap => ⟨fun ρ => (match fn with
    | .yield _ => .fail
    | _ => .ret (.value (.func fn (first.map ρ) (cap.map ρ))))⟩
  | .makeMap t r => ⟨fun ρ => (match E.ty t with
    | some i => match i.u with
      | .map _ _ => vT (makeMapT (r.map ρ))
      | _ => .fail
    | none => .fail)⟩
  | .makeSlice t l c => ⟨fun ρ => vT (makeSliceT E.ty t (ρ l) (ρ c))⟩
  | .slice t x lo hi mx => ⟨fun ρ => vT (sliceT E.ty t (ρ x) (lo.map ρ) (hi.map ρ) (mx.map ρ))⟩
  | .fieldAddr s x f => ⟨fun ρ => vT (fieldAddrT E.ty s f (ρ x))⟩
  | .field t x f => ⟨fun ρ => vT (fieldT E.ty t f (ρ x))⟩
  | .indexAddr t x i => ⟨fun ρ => vT (indexAddrT E.ty t (ρ x) (ρ i))⟩
  | .index t x i => ⟨fun ρ => vT (indexT E.ty t (ρ x) (ρ i))⟩
  | .lookup t x i ok => ⟨fun ρ => vT (lookupT E.P E.ty t (ρ x) (ρ i) ok)⟩
  | .mapUpdate t m k x => ⟨fun ρ => uT (mapUpdateT E.P E.ty t (ρ m) (ρ k) (ρ x))⟩
  | .insert t m k x => ⟨fun ρ => uT (mapUpdateT E.P E.ty t (ρ m) (ρ k) (ρ x))⟩
  | .range t x => ⟨fun ρ => vT (rangeT E.ty t (ρ x))⟩
  | .next it s => ⟨fun ρ => vT (nextT s (ρ it))⟩
  | .typeAssert x _ asserted ok => ⟨fun ρ => vT (assertT E.ty asserted ok (ρ x))⟩
  | .extract t i => ⟨fun ρ => vT (extractT i (ρ t))⟩
  | .call c => callC E c
  | .defer c => ⟨fun ρ => deferT c ρ⟩
  | _ => ⟨fun ρ => .fail⟩
theorem callC_eq (E : Env) (c : Call) (ρ : Operand → Value) : (callC E c).f ρ = callT E c ρ := by
  have hm : (⟨c.args.toList.map ρ⟩ : Array Value) = c.args.map ρ := by apply Array.ext'; simp
  have ha : ∀ first : Array Value, (⟨first.toList ++ c.args.toList.map ρ⟩ : Array Value) = first ++ c.args.map ρ := fun first => by apply Array.ext'; simp
  unfold callC callT
  cases c.callee with
  | builtin b => rfl
  | invoke recv name => dsimp only; rw [hm]
  | value g =>
    dsimp only
    cases ρ g <;> first | rfl | (dsimp only; rw [ha])
theorem opC_eq (E : Env) (o : Oper) (ρ : Operand → Value) : (opC E o).f ρ = opT E ρ o := by
  unfold opC opT
  cases o.op <;> first | rfl | exact callC_eq E _ ρ
structure ValC where
  f : FRecs → TA → M Value
noncomputable def valC (E : Env) (G : List Nat) (ops : Array Oper) (i : Nat) : ValC :=
  match ops[i]? with
  | none => ⟨fun _ _ => M.fail⟩
  | some o => match o.guard with
    | none => bif opOk G o then ⟨fun r a => kbind (krun ((opC E o).f a.eval)) (fafter r)⟩ else ⟨fun _ _ => M.fail⟩
    | some (j, want) => bif opOk G o then ⟨fun r a => bif a.yield ops j == some want then kbind (krun ((opC E o).f a.eval)) (fafter r) else M.ret undef⟩
      else ⟨fun _ a => bif a.yield ops j == some want then M.fail else M.ret undef⟩
theorem valC_eq (E : Env) (G : List Nat) (ops : Array Oper) (i : Nat) (r : FRecs) (a : TA) : (valC E G ops i).f r a = fvalOp E G r ops i a := by
  unfold valC fvalOp
  cases ops[i]? with
  | none => rfl
  | some o =>
    dsimp only
    unfold Region.wanted
    cases o.guard with
    | none =>
      dsimp only
      cases opOk G o with
      | false => rfl
      | true => simp only [cond_true, opC_eq]
    | some q =>
      obtain ⟨j, want⟩ := q
      dsimp only
      cases opOk G o with
      | false => rfl
      | true => simp only [cond_true, opC_eq]
structure SeqC where
  f : FRecs → Option Nat → TA → M TA
noncomputable def seqC (E : Env) (G : List Nat) (ops : Array Oper) : List Nat → SeqC
  | [] => ⟨fun _ _ a => M.ret a⟩
  | i :: l => match isDefer ops[i]? with
    | some (o, c) => ⟨fun r inR a =>
      bif Region.wanted o (a.yield ops) && opOk G o && inR.isNone then
        kbind (krun (deferT c a.eval)) fun n => match n with
          | .defer d => (seqC E G ops l).f r inR ({ a with ds := d :: a.ds }.put o.dst undef)
          | _ => M.fail
      else M.fail⟩
    | none => ⟨fun r inR a => kbind ((valC E G ops i).f r a) fun v => (seqC E G ops l).f r inR (a.put (dstOf ops i) v)⟩
theorem seqC_eq (E : Env) (G : List Nat) (ops : Array Oper) (r : FRecs) (inR : Option Nat) : ∀ (l : List Nat) (a : TA), (seqC E G ops l).f r inR a = fseqOps E G r inR ops l a := by
  intro l
  induction l with
  | nil => intro a; rfl
  | cons i l ih =>
    intro a
    simp only [seqC, fseqOps]
    cases isDefer ops[i]? with
    | none => simp only [valC_eq, ih]
    | some q =>
      obtain ⟨o, c⟩ := q
      simp only [ih]
      rfl
structure DrawC where
  f : FRecs → TA → M (TA × List Rc)
noncomputable def drawC (E : Env) (G : List Nat) (ops : Array Oper) : List Nat → DrawC
  | [] => ⟨fun _ a => M.ret (a, [])⟩
  | i :: l => ⟨fun r a => kbind (klogged ((valC E G ops i).f r a) i) fun c => kbind ((drawC E G ops l).f r (a.put (dstOf ops i) c.v)) fun p => M.ret (p.1, c :: p.2)⟩
theorem drawC_eq (E : Env) (G : List Nat) (ops : Array Oper) (r : FRecs) : ∀ (l : List Nat) (a : TA), (drawC E G ops l).f r a = fdrawOps E G r ops l a := by
  intro l
  induction l with
  | nil => intro a; rfl
  | cons i l ih =>
    intro a
    simp only [drawC, fdrawOps, valC_eq, ih]
structure CodeC where
  f : FRecs → Option Nat → TA → M (Exit × TA)
noncomputable def codeC (E : Env) (G : List Nat) (c : Code) : CodeC :=
  match c with
  | .skip => ⟨fun _ _ a => M.ret (.normal, a)⟩
  | .label _ => ⟨fun _ _ a => M.ret (.normal, a)⟩
  | .region _ ops draw => bif draw then
      (bif textOk ops then ⟨fun r _ a => kbind ((drawC E G ops (List.range ops.size)).f r a) fun p => bif fastInd (masks ops) p.2 then M.ret (.normal, p.1) else M.fail⟩ else ⟨fun _ _ _ => M.fail⟩)
    else ⟨fun r inR a => kbind ((seqC E G ops (List.range ops.size)).f r inR a) fun b => M.ret (.normal, b)⟩
  | .seq x y => ⟨fun r inR a => kbind (r.code inR x a) fun p => match p.1 with
    | .normal => r.code inR y p.2
    | e => M.ret (e, p.2)⟩
  | .cond x t e => bif condOk x then
      ⟨fun r inR a => match a.eval x with
        | .bool b => r.code inR (if b then t else e) a
        | _ => M.fail⟩
    else ⟨fun _ _ _ => M.fail⟩
  | .block id b => ⟨fun r inR a => kbind (r.code inR b a) fun p => match p.1 with
    | .exit id' => M.ret (if id' = id then .normal else .exit id', p.2)
    | e => M.ret (e, p.2)⟩
  | .loop b => ⟨fun r inR a => kbind (r.code inR b a) fun p => match p.1 with
    | .normal => r.code inR (.loop b) p.2
    | e => M.ret (e, p.2)⟩
  | .rangeFunc f ps x y => ⟨fun r inR a => frangeM E G r inR f ps x y a⟩
  | .exit id => ⟨fun _ _ a => M.ret (.exit id, a)⟩
  | .goto l => ⟨fun _ _ a => M.ret (.goto l, a)⟩
  | .ret => ⟨fun _ _ a => M.ret (.ret, a)⟩
  | .scope b => ⟨fun r inR a => r.scp inR b b a⟩
  | .refuse _ => ⟨fun _ _ _ => M.fail⟩
theorem codeC_eq (E : Env) (G : List Nat) (c : Code) (r : FRecs) (inR : Option Nat) (a : TA) : (codeC E G c).f r inR a = fcodeStep E G r inR c a := by
  unfold codeC fcodeStep
  cases c with
  | region id ops draw =>
    dsimp only
    cases draw with
    | false => simp only [cond_false, seqC_eq]
    | true =>
      simp only [cond_true]
      unfold fdrawM
      cases textOk ops with
      | false => rfl
      | true => simp only [cond_true, drawC_eq]
  | cond x t e =>
    dsimp only
    cases condOk x with
    | false => rfl
    | true => rfl
  | _ => rfl
noncomputable def gevalN (E : Env) (G : List Nat) : Nat → FRecs
  | 0 => ⟨fun _ _ => M.fail, fun _ _ _ => M.fail, fun _ _ _ _ => M.fail⟩
  | n + 1 => ⟨fcallStep E G (gevalN E G n), fun inR c a => (codeC E G c).f (gevalN E G n) inR a, fscpStep (gevalN E G n)⟩
theorem gevalN_eq (E : Env) (G : List Nat) : ∀ n, gevalN E G n = fevalN E G n
  | 0 => rfl
  | n + 1 => by
    unfold gevalN fevalN
    rw [gevalN_eq E G n]
    have : (fun inR c a => (codeC E G c).f (fevalN E G n) inR a) = fcodeStep E G (fevalN E G n) := by
      funext inR c a
      exact codeC_eq E G c _ inR a
    rw [this]
end Go.Proofs.YtndjhcmgngnfbaaGreatDoor.AM
