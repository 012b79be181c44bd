/- The same evaluator with the temporaries in a trie: it answers as evalN does. No condition. -/
import Derived.Test.YtndjhcmgngnfbaaGreatDoorAmS
set_option linter.unusedSimpArgs false
set_option linter.unusedVariables false
set_option linter.all false
namespace Go.Proofs.YtndjhcmgngnfbaaGreatDoor.AM
open Go Go.RowKit
/-! ### Related computations -/
def RelM {α β : Type} (R : α → β → Prop) (m : M α) (m' : M β) : Prop := ∀ s x s', m s = some (x, s') → ∃ y, m' s = some (y, s') ∧ R x y
section
variable {α β γ δ : Type} {R : α → β → Prop} {S : γ → δ → Prop}
theorem RelM.ret {x : α} {y : β} (h : R x y) : RelM R (M.ret x) (M.ret y) := fun s x' s' hx => by cases hx; exact ⟨y, rfl, h⟩
theorem RelM.fail {m : M β} : RelM R M.fail m := fun s x s' hx => by cases hx
theorem RelM.bind {m : M α} {m' : M β} {f : α → M γ} {f' : β → M δ} (h : RelM R m m') (k : ∀ x y, R x y → RelM S (f x) (f' y)) : RelM S (M.bind m f) (M.bind m' f') := by
  intro s x s' hx
  obtain ⟨a, s1, h1, h2⟩ := bind_some hx
  obtain ⟨b, h3, h4⟩ := h s a s1 h1
  obtain ⟨y, h5, h6⟩ := k a b h4 s1 x s' h2
  exact ⟨y, by simp only [M.bind, h3, h5], h6⟩
theorem RelM.refl (m : M α) : RelM Eq m m := fun s x s' hx => ⟨x, hx, rfl⟩
theorem RelM.bindEq {m m' : M α} {f : α → M γ} {f' : α → M δ} (h : RelM Eq m m') (k : ∀ x, RelM S (f x) (f' x)) : RelM S (M.bind m f) (M.bind m' f') :=
  RelM.bind h fun x y hxy => by cases hxy; exact k x
end
/-! ### Temporaries -/
structure TA where
  t : Tr Value
  n : Nat
  ds : List Deferred
noncomputable def TA.get (a : TA) (i : Nat) : Value := TA.rec (motive := fun _ => Value) (fun t _ _ => Option.rec (motive := fun _ => Value) undef (fun v => v) (kget t i)) a
theorem TA.get_eq (a : TA) (i : Nat) : a.get i = match a.t.get i with
    | some v => v
    | none => undef := by
  cases a with
  | mk t n ds =>
    show Option.rec (motive := fun _ => Value) undef (fun v => v) (kget t i) = _
    rw [kget_eq]
    cases t.get i <;> rfl
noncomputable def TA.eval (a : TA) : Operand → Value
  | .tmp t => a.get t
  | .const v => v
  | .global g => .pointer (some ⟨g, 0, none⟩)
  | .func f => .func (.func f) #[] #[]
noncomputable def TA.put (a : TA) (d : Option Tmp) (v : Value) : TA :=
  match d with
  | none => a
  | some i => match a with
    | ⟨t, n, ds⟩ => bif Nat.blt i n then ⟨kput 64 t i v, n, ds⟩ else ⟨t, n, ds⟩
noncomputable def TA.arr (a : TA) : Array Value := ⟨(List.range a.n).map a.get⟩
noncomputable def TA.yield (a : TA) (ops : Array Oper) (j : Nat) : Option Bool :=
  match (ops[j]?).bind (·.dst) with
  | some i => match a.get i with
    | .bool b => some b
    | _ => none
  | none => none
noncomputable def ofVals : List Value → Nat → Tr Value → Tr Value
  | [], _, t => t
  | v :: l, i, t => ofVals l (i + 1) (kput 64 t i v)
structure Rep (a : TA) (b : Act) : Prop where
  sz : b.tmps.size = a.n
  get : ∀ i, b.tmps.getD i undef = a.get i
  ds : b.defers = a.ds
  small : a.n < 1000000
theorem Rep.eval {a : TA} {b : Act} (h : Rep a b) : b.eval = a.eval := by
  funext x
  cases x with
  | tmp t => exact h.get t
  | _ => rfl
theorem Rep.arr {a : TA} {b : Act} (h : Rep a b) : a.arr = b.tmps := by
  apply Array.ext_getElem?
  intro i
  have hg := h.get i
  rw [Array.getD_eq_getD_getElem?] at hg
  by_cases hi : i < a.n
  · have hs : i < b.tmps.size := by rw [h.sz]; exact hi
    rw [Array.getElem?_eq_getElem hs] at hg ⊢
    simp only [TA.arr]
    simp [hi, ← hg]
  · rw [Array.getElem?_eq_none (by simp [TA.arr]; omega), Array.getElem?_eq_none (by rw [h.sz]; omega)]
theorem Rep.yield {a : TA} {b : Act} (h : Rep a b) (ops : Array Oper) : yielded ops b.tmps = a.yield ops := by
  funext j
  unfold yielded TA.yield
  cases (ops[j]?).bind (·.dst) with
  | none => rfl
  | some i =>
    dsimp only [Option.bind_some]
    have hg := h.get i
    rw [Array.getD_eq_getD_getElem?] at hg
    rw [← hg]
    cases b.tmps[i]? with
    | none => rfl
    | some v => cases v <;> rfl
theorem Rep.put {a : TA} {b : Act} (h : Rep a b) (d : Option Tmp) (v : Value) : Rep (a.put d v) (b.put d v) := by
  cases d with
  | none => exact h
  | some i =>
    obtain ⟨at', an, ads⟩ := a
    simp only [TA.put, Act.put]
    cases hi : Nat.blt i an with
    | false =>
      have : ¬ i < an := fun hlt => by rw [Nat.blt, Nat.ble_eq_true_of_le hlt] at hi; cases hi
      have hs : b.tmps.setIfInBounds i v = b.tmps := Array.setIfInBounds_eq_of_size_le (by rw [h.sz]; exact Nat.le_of_not_lt this)
      rw [hs]
      exact h
    | true =>
      have hlt : i < an := Nat.le_of_ble_eq_true hi
      refine ⟨by simp [h.sz], fun j => ?_, h.ds, h.small⟩
      have hg := h.get j
      simp only [cond_true, TA.get_eq, kput_eq]
      rw [Tr.get_put _ _ _ _ _ (Nat.lt_of_le_of_lt (Nat.succ_le_of_lt hlt) (Nat.lt_trans (show an < 1000000 from h.small) (by decide)))]
      rw [Array.getD_eq_getD_getElem?, Array.getElem?_setIfInBounds]
      by_cases hj : j = i
      · subst hj
        simp [h.sz, hlt]
      · rw [if_neg (fun hh => hj hh.symm), if_neg hj, ← Array.getD_eq_getD_getElem?]
        rw [TA.get_eq] at hg
        exact hg
theorem ofVals_get : ∀ (l : List Value) (i : Nat) (t : Tr Value) (j : Nat), i + l.length < 10000000 → (ofVals l i t).get j = if i ≤ j ∧ j < i + l.length then l[j - i]? else t.get j
  | [], i, t, j, _ => by
    simp [ofVals]
    omega
  | v :: l, i, t, j, h => by
    simp only [List.length_cons] at h
    rw [ofVals, ofVals_get l (i + 1) _ j (by omega), kput_eq, Tr.get_put _ _ _ _ _ (by omega)]
    simp only [List.length_cons]
    by_cases h1 : j = i
    · subst h1
      rw [if_neg (by omega), if_pos rfl, if_pos (by omega)]
      simp
    · by_cases h2 : i + 1 ≤ j ∧ j < i + 1 + l.length
      · rw [if_pos h2, if_pos (by omega), show j - i = (j - (i + 1)) + 1 from by omega]
        simp
      · rw [if_neg h2, if_neg h1, if_neg (by omega)]
noncomputable def TA.start (l : List Value) (n : Nat) : TA := ⟨ofVals l 0 .leaf, n, []⟩
theorem Rep.start {args : Array Value} {n : Nat} (h1 : args.size ≤ n) (h2 : n < 1000000) : Rep (TA.start args.toList n) ⟨args ++ Array.replicate (n - args.size) undef, []⟩ := by
  refine ⟨by simp [TA.start]; omega, fun i => ?_, rfl, h2⟩
  simp only [TA.get_eq, TA.start]
  rw [ofVals_get _ _ _ _ (by simp; omega)]
  simp only [Nat.zero_le, true_and, Nat.zero_add, Nat.sub_zero, Array.length_toList]
  rw [Array.getD_eq_getD_getElem?]
  by_cases hi : i < args.size
  · rw [if_pos hi, Array.getElem?_append_left hi]
    simp [hi]
  · rw [if_neg hi, Array.getElem?_append_right (by omega)]
    simp only [Tr.get]
    rw [Array.getElem?_replicate]
    split <;> rfl
theorem Rep.withDs {a : TA} {b : Act} (h : Rep a b) (l : List Deferred) : Rep { a with ds := l ++ a.ds } { b with defers := l ++ b.defers } := ⟨h.sz, h.get, by rw [h.ds], h.small⟩
theorem Rep.ofDs {a : TA} {b : Act} (h : Rep a b) (l : Deferred) : Rep { a with ds := l :: a.ds } { b with defers := l :: b.defers } := ⟨h.sz, h.get, by rw [h.ds], h.small⟩
/-! ### The evaluator -/
structure FRecs where
  call : FuncId → Array Value → M Value
  code : Option Nat → Code → TA → M (Exit × TA)
  scp : Option Nat → Code → Code → TA → M (Exit × TA)
def XR (p : Exit × TA) (q : Exit × Act) : Prop := p.1 = q.1 ∧ Rep p.2 q.2
structure FOk (fr : FRecs) (r : Recs) : Prop where
  call : ∀ f args, RelM Eq (fr.call f args) (r.call f args)
  code : ∀ inR c a b, Rep a b → RelM XR (fr.code inR c a) (r.code inR c b)
  scp : ∀ inR sb c a b, Rep a b → RelM XR (fr.scp inR sb c a) (r.scp inR sb c b)
noncomputable def fround (r : FRecs) (l : Nat) (tmps : Array Value) (assign body : Code) : M Value :=
  bif Nat.blt tmps.size 1000000 then
    kbind (r.code (some l) assign (TA.start tmps.toList tmps.size)) fun p => match p.1 with
      | .normal => kbind (krun (beginT l)) fun _ => kbind (r.code (some l) body p.2) fun q => match q.1 with
        | .normal => krun (endT l none)
        | .ret => krun (endT l (some .ret))
        | .exit id => krun (endT l (some (.exit id)))
        | .goto t => krun (endT l (some (.goto t)))
        | _ => M.fail
      | _ => M.fail
  else M.fail
noncomputable def fafter (r : FRecs) : AN → M Value
  | .value v => M.ret v
  | .skip => M.ret undef
  | .enter f args => r.call f args
  | .round l t x y => fround r l t x y
  | .defer _ => M.fail
noncomputable def fvalOp (E : Env) (G : List Nat) (r : FRecs) (ops : Array Oper) (i : Nat) (a : TA) : M Value :=
  match ops[i]? with
  | none => M.fail
  | some o => bif Region.wanted o (a.yield ops) then
      bif opOk G o then kbind (krun (opT E a.eval o)) (fafter r) else M.fail
    else M.ret undef
noncomputable def fseqOps (E : Env) (G : List Nat) (r : FRecs) (inR : Option Nat) (ops : Array Oper) : List Nat → TA → M TA
  | [], a => M.ret a
  | i :: l, a =>
    match isDefer ops[i]? with
    | some (o, c) =>
      bif Region.wanted o (a.yield ops) && opOk G o && inR.isNone then
        kbind (krun (deferT c a.eval)) fun n => match n with
          | .defer d => fseqOps E G r inR ops l ({ a with ds := d :: a.ds }.put o.dst undef)
          | _ => M.fail
      else M.fail
    | none => kbind (fvalOp E G r ops i a) fun v => fseqOps E G r inR ops l (a.put (dstOf ops i) v)
noncomputable def klogged (m : M Value) (i : Nat) : M Rc := fun s =>
  St.rec (motive := fun _ => Option (Rc × St)) (fun h nx rd wr =>
    Option.rec (motive := fun _ => Option (Rc × St)) none (fun p => Prod.rec (motive := fun _ => Option (Rc × St)) (fun v s' =>
      St.rec (motive := fun _ => Option (Rc × St)) (fun h' nx' rd' wr' => some (⟨i, nx, nx', rd', wr', v⟩, ⟨h', nx', rd' ++ rd, wr' ++ wr⟩)) s') p) (m ⟨h, nx, [], []⟩)) s
theorem klogged_eq : @klogged = @logged := by
  funext m i s
  obtain ⟨h, nx, rd, wr⟩ := s
  unfold klogged logged
  dsimp only
  cases m ⟨h, nx, [], []⟩ with
  | none => rfl
  | some p => obtain ⟨v, h', nx', rd', wr'⟩ := p; rfl
noncomputable def ktrim (m : M Value) : M Value := fun s =>
  St.rec (motive := fun _ => Option (Value × St)) (fun h nx rd wr =>
    Option.rec (motive := fun _ => Option (Value × St)) none (fun p => Prod.rec (motive := fun _ => Option (Value × St)) (fun v s' =>
      St.rec (motive := fun _ => Option (Value × St)) (fun h' nx' rd' wr' => some (v, ⟨h', nx', rd'.filter (oldLoc nx nx') ++ rd, wr'.filter (oldLoc nx nx') ++ wr⟩)) s') p) (m ⟨h, nx, [], []⟩)) s
theorem ktrim_eq : ktrim = trim := by
  funext m s
  obtain ⟨h, nx, rd, wr⟩ := s
  unfold ktrim trim
  dsimp only
  cases m ⟨h, nx, [], []⟩ with
  | none => rfl
  | some p => obtain ⟨v, h', nx', rd', wr'⟩ := p; rfl
noncomputable def fdrawOps (E : Env) (G : List Nat) (r : FRecs) (ops : Array Oper) : List Nat → TA → M (TA × List Rc)
  | [], a => M.ret (a, [])
  | i :: l, a => kbind (klogged (fvalOp E G r ops i a) i) fun c => kbind (fdrawOps E G r ops l (a.put (dstOf ops i) c.v)) fun p => M.ret (p.1, c :: p.2)
def quiet (x : Rc) : Bool := x.W.isEmpty && Nat.beq x.n0 x.n1
def heapB (x y : Rc) : Bool :=
  (x.W.all fun l => !(locIn l y.R) && !(locIn l y.W)) && (y.W.all fun l => !(locIn l x.R)) &&
  locFar y.n0 y.n1 x.R && locFar y.n0 y.n1 x.W && locFar x.n0 x.n1 y.R && locFar x.n0 x.n1 y.W
def tmpB (ops : Array Oper) (i j : Nat) : Bool :=
  tmpFree (dstOf ops i) (usesOf ops j) && dstDiffer (dstOf ops i) (dstOf ops j) && tmpFree (dstOf ops j) (usesOf ops i)
/-- What the text alone tells of a region. -/
def tmpsOk (ops : Array Oper) (ms : List Nat) : List Nat → Bool
  | [] => true
  | i :: l => (l.all fun j => Nat.testBit (ms.getD j 0) i || tmpB ops i j) && tmpsOk ops ms l
def fastInd (ms : List Nat) : List Rc → Bool
  | [] => true
  | x :: L => (bif quiet x then L.all fun y => quiet y || (Nat.testBit (ms.getD y.i 0) x.i || heapB x y) else L.all fun y => Nat.testBit (ms.getD y.i 0) x.i || heapB x y) && fastInd ms L
def textOk (ops : Array Oper) : Bool := noDefer ops && edgesOk ops && tmpsOk ops (masks ops) (List.range ops.size)
noncomputable def fdrawM (E : Env) (G : List Nat) (r : FRecs) (ops : Array Oper) (a : TA) : M (Exit × TA) :=
  bif textOk ops then
    kbind (fdrawOps E G r ops (List.range ops.size) a) fun p => bif fastInd (masks ops) p.2 then M.ret (.normal, p.1) else M.fail
  else M.fail
noncomputable def frangeM (E : Env) (G : List Nat) (r : FRecs) (inR : Option Nat) (f : Operand) (params : Array Tmp) (assign body : Code) (a : TA) : M (Exit × TA) :=
  bif rangeOk G f then
    match a.eval f with
    | .func (.func g) first cap => match E.fn g with
      | some _ => kbind (krun (enterLoopT inR a.arr params assign body)) fun q =>
          kbind (r.call g (first ++ #[.func (.yield q.1) #[] #[]] ++ cap)) fun _ =>
          kbind (krun (endLoopT q.1)) fun jump => match jump with
            | none => M.ret (.normal, { a with ds := q.2 ++ a.ds })
            | some c => r.code inR c { a with ds := q.2 ++ a.ds }
      | none => M.fail
    | _ => M.fail
  else M.fail
noncomputable def fcodeStep (E : Env) (G : List Nat) (r : FRecs) (inR : Option Nat) (c : Code) (a : TA) : M (Exit × TA) :=
  match c with
  | .skip => M.ret (.normal, a)
  | .label _ => M.ret (.normal, a)
  | .region _ ops draw => bif draw then fdrawM E G r ops a else kbind (fseqOps E G r inR ops (List.range ops.size) a) fun b => M.ret (.normal, b)
  | .seq x y => kbind (r.code inR x a) fun p => match p.1 with
    | .normal => r.code inR y p.2
    | e => M.ret (e, p.2)
  | .cond x t e => bif condOk x then
      match a.eval x with
      | .bool b => r.code inR (if b then t else e) a
      | _ => M.fail
    else M.fail
  | .block id b => kbind (r.code inR b a) fun p => match p.1 with
    | .exit id' => M.ret (if id' = id then .normal else .exit id', p.2)
    | e => M.ret (e, p.2)
  | .loop b => kbind (r.code inR b a) fun p => match p.1 with
    | .normal => r.code inR (.loop b) p.2
    | e => M.ret (e, p.2)
  | .rangeFunc f ps x y => frangeM E G r inR f ps x y a
  | .exit id => M.ret (.exit id, a)
  | .goto l => M.ret (.goto l, a)
  | .ret => M.ret (.ret, a)
  | .scope b => r.scp inR b b a
  | .refuse _ => M.fail
noncomputable def fscpStep (r : FRecs) (inR : Option Nat) (b c : Code) (a : TA) : M (Exit × TA) :=
  kbind (r.code inR c a) fun p => match p.1 with
    | .goto l => match findLabel b l with
      | some rest => r.scp inR b rest p.2
      | none => M.ret p
    | _ => M.ret p
noncomputable def fdOps (E : Env) (G : List Nat) (ops : Array Oper) : List Nat → TA → M TA
  | [], a => M.ret a
  | i :: l, a => match ops[i]? with
    | none => M.fail
    | some o => bif Region.wanted o (a.yield ops) then
        bif isRecover o then fdOps E G ops l (a.put o.dst .nilIface)
        else bif opOk G o then kbind (krun (opT E a.eval o)) fun n => match n with
          | .value v => fdOps E G ops l (a.put o.dst v)
          | .skip => fdOps E G ops l (a.put o.dst undef)
          | _ => M.fail
        else M.fail
      else fdOps E G ops l (a.put o.dst undef)
noncomputable def fdCode (E : Env) (G : List Nat) (r : FRecs) : Code → TA → M (Exit × TA)
  | .seq x y, a => kbind (fdCode E G r x a) fun p => match p.1 with
    | .normal => r.code none y p.2
    | e => M.ret (e, p.2)
  | .region _ ops draw, a => bif draw then M.fail else kbind (fdOps E G ops (List.range ops.size) a) fun b => M.ret (.normal, b)
  | c, a => r.code none c a
noncomputable def fresT (ty : Nat → Option TInfo) (a : TA) : List ResultVar → AT (List Value)
  | [] => .ret []
  | .tmp t :: l => (fresT ty a l).bind fun vs => .ret (a.get t :: vs)
  | .cell c t :: l => (loadT ty t (a.get c)).bind fun v => (fresT ty a l).bind fun vs => .ret (v :: vs)
noncomputable def fdEnd (E : Env) (x : Func) (a : TA) : M Unit :=
  match a.ds with
  | [] => kbind (krun (fresT E.ty a x.results.toList)) fun _ => M.ret ()
  | _ => M.fail
noncomputable def fdCall (E : Env) (G : List Nat) (r : FRecs) (f : FuncId) (args : Array Value) : M Unit :=
  match E.fn f with
  | none => M.fail
  | some x => match x.body with
    | none => M.fail
    | some c => bif Nat.ble args.size x.ntmps && Nat.blt x.ntmps 1000000 then
        kbind (fdCode E G r c (TA.start args.toList x.ntmps)) fun p => match p.1 with
        | .normal => fdEnd E x p.2
        | .ret => fdEnd E x p.2
        | _ => M.fail
      else M.fail
noncomputable def fleaveM (E : Env) (G : List Nat) (r : FRecs) : List Deferred → M Unit
  | [] => M.ret ()
  | d :: ds => match d.target with
    | .collected b => kbind (krun (takeT b)) fun _ => fleaveM E G r ds
    | .fn (.func g) cap => kbind (fdCall E G r g (d.args ++ cap)) fun _ => fleaveM E G r ds
    | _ => M.fail
noncomputable def fcallBody (E : Env) (G : List Nat) (r : FRecs) (f : FuncId) (args : Array Value) : M Value :=
  match E.fn f with
  | none => M.fail
  | some x => match x.body with
    | none => M.fail
    | some c => bif Nat.ble args.size x.ntmps && Nat.blt x.ntmps 1000000 then
        kbind (r.code none c (TA.start args.toList x.ntmps)) fun p => match p.1 with
        | .normal => kbind (fleaveM E G r p.2.ds) fun _ => kbind (krun (fresT E.ty p.2 x.results.toList)) fun vs => M.ret (tupleOf vs)
        | .ret => kbind (fleaveM E G r p.2.ds) fun _ => kbind (krun (fresT E.ty p.2 x.results.toList)) fun vs => M.ret (tupleOf vs)
        | _ => M.fail
      else M.fail
noncomputable def fcallStep (E : Env) (G : List Nat) (r : FRecs) (f : FuncId) (args : Array Value) : M Value := ktrim (fcallBody E G r f args)
noncomputable def fevalN (E : Env) (G : List Nat) : Nat → FRecs
  | 0 => ⟨fun _ _ => M.fail, fun _ _ _ => M.fail, fun _ _ _ _ => M.fail⟩
  | n + 1 => ⟨fcallStep E G (fevalN E G n), fcodeStep E G (fevalN E G n), fscpStep (fevalN E G n)⟩
/-! ### It answers as evalN does -/
section
variable {E : Env} {G : List Nat} {fr : FRecs} {r : Recs}
theorem fround_ok (h : FOk fr r) (l : Nat) (tmps : Array Value) (x y : Code) : RelM Eq (fround fr l tmps x y) (roundM r l tmps x y) := by
  unfold fround roundM
  try simp only [kbind_eq, krun_eq]
  cases hb : Nat.blt tmps.size 1000000 with
  | false => exact RelM.fail
  | true =>
    have hb : tmps.size < 1000000 := Nat.le_of_ble_eq_true hb
    have hrep : Rep (TA.start tmps.toList tmps.size) ⟨tmps, []⟩ := by
      have := Rep.start (args := tmps) (n := tmps.size) (Nat.le_refl _) hb
      simpa using this
    simp only [cond_true]
    refine RelM.bind (h.code _ _ _ _ hrep) fun p q hpq => ?_
    obtain ⟨e, a⟩ := p
    obtain ⟨e', b⟩ := q
    obtain ⟨h1, h2⟩ := hpq
    dsimp only at h1 h2
    subst h1
    cases e <;> first
      | exact RelM.fail
      | (dsimp only
         refine RelM.bindEq (RelM.refl _) fun _ => RelM.bind (h.code _ _ _ _ h2) fun p q hpq => ?_
         obtain ⟨e, a⟩ := p
         obtain ⟨e', b⟩ := q
         obtain ⟨h1, h2⟩ := hpq
         dsimp only at h1 h2
         subst h1
         cases e <;> first | exact RelM.fail | exact RelM.refl _)
theorem fafter_ok (h : FOk fr r) (n : AN) : RelM Eq (fafter fr n) (afterOp r n) := by
  cases n with
  | value v => exact RelM.refl _
  | skip => exact RelM.refl _
  | enter f args => exact h.call _ _
  | round l t x y => exact fround_ok h _ _ _ _
  | defer d => exact RelM.fail
theorem fvalOp_ok (h : FOk fr r) (ops : Array Oper) (i : Nat) {a : TA} {b : Act} (hr : Rep a b) : RelM Eq (fvalOp E G fr ops i a) (valOp E G r ops i b) := by
  unfold fvalOp valOp
  try simp only [kbind_eq, krun_eq]
  rw [hr.yield, hr.eval]
  cases ops[i]? with
  | none => exact RelM.fail
  | some o =>
    dsimp only
    cases Region.wanted o (a.yield ops) with
    | false => exact RelM.refl _
    | true =>
      simp only [cond_true]
      cases opOk G o with
      | false => exact RelM.fail
      | true => exact RelM.bindEq (RelM.refl _) fun n => fafter_ok h n
theorem fseqOps_ok (h : FOk fr r) (inR : Option Nat) (ops : Array Oper) : ∀ (l : List Nat) (a : TA) (b : Act), Rep a b → RelM Rep (fseqOps E G fr inR ops l a) (seqOps E G r inR ops l b) := by
  intro l
  induction l with
  | nil => intro a b hr; exact RelM.ret hr
  | cons i l ih =>
    intro a b hr
    simp only [fseqOps, seqOps, kbind_eq, krun_eq]
    cases isDefer ops[i]? with
    | none => exact RelM.bindEq (fvalOp_ok h ops i hr) fun v => ih _ _ (hr.put _ _)
    | some q =>
      obtain ⟨o, c⟩ := q
      dsimp only
      rw [hr.yield, hr.eval]
      cases Region.wanted o (a.yield ops) && opOk G o && inR.isNone with
      | false => exact RelM.fail
      | true =>
        simp only [cond_true]
        refine RelM.bindEq (RelM.refl _) fun n => ?_
        cases n <;> first | exact RelM.fail | exact ih _ _ ((hr.ofDs _).put _ _)
theorem logged_ok {m m' : M Value} (h : RelM Eq m m') (i : Nat) : RelM Eq (logged m i) (logged m' i) := by
  intro s x s' hx
  unfold logged at hx
  cases hm : m ⟨s.h, s.nx, [], []⟩ with
  | none => rw [hm] at hx; cases hx
  | some q =>
    obtain ⟨v, s1⟩ := q
    rw [hm] at hx
    obtain ⟨y, h1, h2⟩ := h _ _ _ hm
    subst h2
    exact ⟨x, by unfold logged; rw [h1]; exact hx, rfl⟩
theorem fdrawOps_ok (h : FOk fr r) (ops : Array Oper) : ∀ (l : List Nat) (a : TA) (b : Act), Rep a b → RelM (fun p q => Rep p.1 q.1 ∧ p.2 = q.2) (fdrawOps E G fr ops l a) (drawOps E G r ops l b) := by
  intro l
  induction l with
  | nil => intro a b hr; exact RelM.ret ⟨hr, rfl⟩
  | cons i l ih =>
    intro a b hr
    simp only [fdrawOps, drawOps, kbind_eq, krun_eq, klogged_eq]
    refine RelM.bindEq (logged_ok (fvalOp_ok h ops i hr) i) fun c => RelM.bind (ih _ _ (hr.put _ _)) fun p q hpq => ?_
    exact RelM.ret ⟨hpq.1, by rw [hpq.2]⟩
theorem heapB_quiet {x y : Rc} (hx : quiet x = true) (hy : quiet y = true) : heapB x y = true := by
  unfold quiet at hx hy
  rw [Bool.and_eq_true] at hx hy
  have h1 : x.W = [] := List.isEmpty_iff.1 hx.1
  have h2 : y.W = [] := List.isEmpty_iff.1 hy.1
  simp [heapB, h1, h2, locFar, hx.2, hy.2]
theorem indB_of {ops : Array Oper} {x y : Rc} (h1 : heapB x y = true) (h2 : tmpB ops x.i y.i = true) (h3 : x.n1 ≤ y.n0) : indB ops x y = true := by
  simp only [heapB, tmpB, Bool.and_eq_true] at h1 h2
  obtain ⟨⟨⟨⟨⟨a1, a2⟩, a3⟩, a4⟩, a5⟩, a6⟩ := h1
  obtain ⟨⟨b1, b2⟩, b3⟩ := h2
  unfold indB
  rw [a1, a2, a3, a4, a5, a6, b1, b2, b3, Nat.ble_eq_true_of_le h3]
  rfl
theorem allInd_of {ops : Array Oper} {ms : List Nat} : ∀ (L : List Rc), tmpsOk ops ms (L.map (·.i)) = true → L.Pairwise (fun x y => x.n1 ≤ y.n0) → fastInd ms L = true → allInd ops ms L = true
  | [], _, _, _ => rfl
  | x :: L, h1, h2, h3 => by
    simp only [List.map_cons, tmpsOk, Bool.and_eq_true] at h1
    rw [List.pairwise_cons] at h2
    simp only [fastInd, Bool.and_eq_true] at h3
    simp only [allInd, Bool.and_eq_true]
    refine ⟨?_, allInd_of L h1.2 h2.2 h3.2⟩
    rw [List.all_eq_true]
    intro y hy
    have ht := List.all_eq_true.1 h1.1 y.i (List.mem_map.2 ⟨y, hy, rfl⟩)
    rw [Bool.or_eq_true] at ht ⊢
    rcases ht with ht | ht
    · exact .inl ht
    · have h3 := h3.1
      cases hq : quiet x with
      | true =>
        rw [hq, cond_true] at h3
        have h4 := List.all_eq_true.1 h3 y hy
        rw [Bool.or_eq_true, Bool.or_eq_true] at h4
        rcases h4 with h4 | h4 | h4
        · exact .inr (indB_of (heapB_quiet hq h4) ht (h2.1 y hy))
        · exact .inl h4
        · exact .inr (indB_of h4 ht (h2.1 y hy))
      | false =>
        rw [hq, cond_false] at h3
        have h4 := List.all_eq_true.1 h3 y hy
        rw [Bool.or_eq_true] at h4
        rcases h4 with h4 | h4
        · exact .inl h4
        · exact .inr (indB_of h4 ht (h2.1 y hy))
theorem drawOps_chain (hl : RLocal r) (ops : Array Oper) : ∀ (l : List Nat) (b b' : Act) (L : List Rc) (s s' : St), drawOps E G r ops l b s = some ((b', L), s') →
    L.map (·.i) = l ∧ s.nx ≤ s'.nx ∧ (∀ x ∈ L, s.nx ≤ x.n0) ∧ L.Pairwise (fun x y => x.n1 ≤ y.n0) := by
  intro l
  induction l with
  | nil => intro b b' L s s' h; cases h; exact ⟨rfl, Nat.le_refl _, fun x hx => (by cases hx), .nil⟩
  | cons i l ih =>
    intro b b' L s s' h
    simp only [drawOps] at h
    obtain ⟨c, s1, h1, h⟩ := bind_some h
    obtain ⟨⟨b2, L2⟩, s2, h2, h⟩ := bind_some h
    cases h
    obtain ⟨g1, g2, g3, g4⟩ := ih _ _ _ _ _ h2
    unfold logged at h1
    cases hm : valOp E G r ops i b ⟨s.h, s.nx, [], []⟩ with
    | none => rw [hm] at h1; cases h1
    | some q =>
      obtain ⟨v, s3⟩ := q
      rw [hm] at h1
      cases h1
      obtain ⟨R, W, d⟩ := valOp_local hl ops i b _ _ _ hm
      have hn : s.nx ≤ s3.nx := d.nx
      refine ⟨by simp [g1], Nat.le_trans hn g2, fun x hx => ?_, List.pairwise_cons.2 ⟨fun y hy => g3 y hy, g4⟩⟩
      rcases List.mem_cons.1 hx with rfl | hx
      · exact Nat.le_refl _
      · exact Nat.le_trans hn (g3 x hx)
theorem fdrawM_ok (h : FOk fr r) (hl : RLocal r) (ops : Array Oper) {a : TA} {b : Act} (hr : Rep a b) : RelM XR (fdrawM E G fr ops a) (drawM E G r ops b) := by
  unfold fdrawM
  cases ht : textOk ops with
  | false => exact RelM.fail
  | true =>
    simp only [cond_true, kbind_eq]
    unfold textOk at ht
    rw [Bool.and_eq_true] at ht
    intro s x s' hx
    obtain ⟨⟨p1, p2⟩, s1, h1, h2⟩ := bind_some hx
    obtain ⟨⟨q1, q2⟩, h3, h4⟩ := fdrawOps_ok (E := E) (G := G) h ops _ a b hr _ _ _ h1
    obtain ⟨h5, h6⟩ := h4
    dsimp only at h5 h6 h2
    subst h6
    cases hf : fastInd (masks ops) p2 with
    | false => rw [hf] at h2; cases h2
    | true =>
      rw [hf] at h2
      cases h2
      obtain ⟨g1, _, _, g4⟩ := drawOps_chain hl ops _ _ _ _ _ _ h3
      have hall : allInd ops (masks ops) p2 = true := allInd_of p2 (by rw [g1]; exact ht.2) g4 hf
      refine ⟨(.normal, q1), ?_, rfl, h5⟩
      unfold drawM
      rw [ht.1, cond_true]
      simp only [M.bind, h3, hall, cond_true]
      rfl
theorem frangeM_ok (h : FOk fr r) (inR : Option Nat) (f : Operand) (ps : Array Tmp) (x y : Code) {a : TA} {b : Act} (hr : Rep a b) : RelM XR (frangeM E G fr inR f ps x y a) (rangeM E G r inR f ps x y b) := by
  unfold frangeM rangeM
  try simp only [kbind_eq, krun_eq]
  cases rangeOk G f with
  | false => exact RelM.fail
  | true =>
    simp only [cond_true]
    rw [hr.eval, hr.arr]
    cases a.eval f with
    | func fn first cap =>
      cases fn with
      | func g =>
        dsimp only
        cases E.fn g with
        | none => exact RelM.fail
        | some z =>
          refine RelM.bindEq (RelM.refl _) fun q => RelM.bindEq (h.call _ _) fun _ => RelM.bindEq (RelM.refl _) fun jump => ?_
          cases jump with
          | none => exact RelM.ret ⟨rfl, hr.withDs _⟩
          | some c => exact h.code _ _ _ _ (hr.withDs _)
      | _ => exact RelM.fail
    | _ => exact RelM.fail
theorem fcodeStep_ok (h : FOk fr r) (hl : RLocal r) (inR : Option Nat) (c : Code) {a : TA} {b : Act} (hr : Rep a b) : RelM XR (fcodeStep E G fr inR c a) (codeStep E G r inR c b) := by
  unfold fcodeStep codeStep
  try simp only [kbind_eq, krun_eq]
  cases c with
  | skip => exact RelM.ret ⟨rfl, hr⟩
  | label l => exact RelM.ret ⟨rfl, hr⟩
  | exit id => exact RelM.ret ⟨rfl, hr⟩
  | goto l => exact RelM.ret ⟨rfl, hr⟩
  | ret => exact RelM.ret ⟨rfl, hr⟩
  | refuse _ => exact RelM.fail
  | scope x => exact h.scp _ _ _ _ _ hr
  | rangeFunc f ps x y => exact frangeM_ok h inR f ps x y hr
  | region id ops draw =>
    cases draw with
    | true => exact fdrawM_ok h hl ops hr
    | false => exact RelM.bind (fseqOps_ok h inR ops _ a b hr) fun p q hpq => RelM.ret ⟨rfl, hpq⟩
  | seq x y =>
    refine RelM.bind (h.code _ _ _ _ hr) fun p q hpq => ?_
    obtain ⟨e, a1⟩ := p
    obtain ⟨e', b1⟩ := q
    obtain ⟨h1, h2⟩ := hpq
    dsimp only at h1 h2 ⊢
    subst h1
    cases e <;> first | exact h.code _ _ _ _ h2 | exact RelM.ret ⟨rfl, h2⟩
  | cond x t e =>
    dsimp only
    rw [hr.eval]
    cases condOk x with
    | false => exact RelM.fail
    | true =>
      simp only [cond_true]
      cases a.eval x <;> first | exact RelM.fail | exact h.code _ _ _ _ hr
  | block id x =>
    refine RelM.bind (h.code _ _ _ _ hr) fun p q hpq => ?_
    obtain ⟨e, a1⟩ := p
    obtain ⟨e', b1⟩ := q
    obtain ⟨h1, h2⟩ := hpq
    dsimp only at h1 h2 ⊢
    subst h1
    cases e <;> exact RelM.ret ⟨rfl, h2⟩
  | loop x =>
    refine RelM.bind (h.code _ _ _ _ hr) fun p q hpq => ?_
    obtain ⟨e, a1⟩ := p
    obtain ⟨e', b1⟩ := q
    obtain ⟨h1, h2⟩ := hpq
    dsimp only at h1 h2 ⊢
    subst h1
    cases e <;> first | exact h.code _ _ _ _ h2 | exact RelM.ret ⟨rfl, h2⟩
theorem fscpStep_ok (h : FOk fr r) (inR : Option Nat) (sb c : Code) {a : TA} {b : Act} (hr : Rep a b) : RelM XR (fscpStep fr inR sb c a) (scpStep r inR sb c b) := by
  unfold fscpStep scpStep
  try simp only [kbind_eq, krun_eq]
  refine RelM.bind (h.code _ _ _ _ hr) fun p q hpq => ?_
  obtain ⟨e, a1⟩ := p
  obtain ⟨e', b1⟩ := q
  obtain ⟨h1, h2⟩ := hpq
  dsimp only at h1 h2 ⊢
  subst h1
  cases e with
  | goto l =>
    dsimp only
    cases findLabel sb l with
    | none => exact RelM.ret ⟨rfl, h2⟩
    | some rest => exact h.scp _ _ _ _ _ h2
  | _ => exact RelM.ret ⟨rfl, h2⟩
theorem fdOps_ok (ops : Array Oper) : ∀ (l : List Nat) (a : TA) (b : Act), Rep a b → RelM Rep (fdOps E G ops l a) (dOps E G ops l b) := by
  intro l
  induction l with
  | nil => intro a b hr; exact RelM.ret hr
  | cons i l ih =>
    intro a b hr
    simp only [fdOps, dOps, kbind_eq, krun_eq]
    rw [hr.yield, hr.eval]
    cases ops[i]? with
    | none => exact RelM.fail
    | some o =>
      dsimp only
      cases Region.wanted o (a.yield ops) with
      | false => exact ih _ _ (hr.put _ _)
      | true =>
        simp only [cond_true]
        cases isRecover o with
        | true => exact ih _ _ (hr.put _ _)
        | false =>
          simp only [cond_false]
          cases opOk G o with
          | false => exact RelM.fail
          | true =>
            refine RelM.bindEq (RelM.refl _) fun n => ?_
            cases n <;> first | exact RelM.fail | exact ih _ _ (hr.put _ _)
theorem fdCode_ok (h : FOk fr r) : ∀ (c : Code) (a : TA) (b : Act), Rep a b → RelM XR (fdCode E G fr c a) (dCode E G r c b) := by
  intro c
  induction c with
  | seq x y ihx _ =>
    intro a b hr
    simp only [fdCode, dCode, kbind_eq, krun_eq]
    refine RelM.bind (ihx a b hr) fun p q hpq => ?_
    obtain ⟨e, a1⟩ := p
    obtain ⟨e', b1⟩ := q
    obtain ⟨h1, h2⟩ := hpq
    dsimp only at h1 h2 ⊢
    subst h1
    cases e <;> first | exact h.code _ _ _ _ h2 | exact RelM.ret ⟨rfl, h2⟩
  | region id ops draw =>
    intro a b hr
    simp only [fdCode, dCode, kbind_eq, krun_eq]
    cases draw with
    | true => exact RelM.fail
    | false => exact RelM.bind (fdOps_ok ops _ a b hr) fun p q hpq => RelM.ret ⟨rfl, hpq⟩
  | _ => intro a b hr; exact h.code _ _ _ _ hr
theorem fresT_eq (ty : Nat → Option TInfo) {a : TA} {b : Act} (hr : Rep a b) : ∀ l, resT ty b.tmps l = fresT ty a l
  | [] => rfl
  | .tmp t :: l => by simp only [resT, fresT, fresT_eq ty hr l, hr.get]
  | .cell c t :: l => by simp only [resT, fresT, fresT_eq ty hr l, hr.get]
theorem fdEnd_ok (x : Func) {a : TA} {b : Act} (hr : Rep a b) : RelM Eq (fdEnd E x a) (dEnd E x b) := by
  unfold fdEnd dEnd
  try simp only [kbind_eq, krun_eq]
  rw [hr.ds, fresT_eq _ hr]
  cases a.ds <;> exact RelM.refl _
theorem fdCall_ok (h : FOk fr r) (f : FuncId) (args : Array Value) : RelM Eq (fdCall E G fr f args) (dCall E G r f args) := by
  unfold fdCall dCall
  try simp only [kbind_eq, krun_eq]
  cases E.fn f with
  | none => exact RelM.fail
  | some x =>
    dsimp only
    cases x.body with
    | none => exact RelM.fail
    | some c =>
      dsimp only
      cases hg : Nat.ble args.size x.ntmps && Nat.blt x.ntmps 1000000 with
      | false => exact RelM.fail
      | true =>
        rw [Bool.and_eq_true] at hg
        simp only [cond_true]
        refine RelM.bind (fdCode_ok h c _ _ (Rep.start (Nat.le_of_ble_eq_true hg.1) (Nat.le_of_ble_eq_true hg.2))) fun p q hpq => ?_
        obtain ⟨e, a1⟩ := p
        obtain ⟨e', b1⟩ := q
        obtain ⟨h1, h2⟩ := hpq
        dsimp only at h1 h2 ⊢
        subst h1
        cases e <;> first | exact RelM.fail | exact fdEnd_ok x h2
theorem fleaveM_ok (h : FOk fr r) : ∀ ds, RelM Eq (fleaveM E G fr ds) (leaveM E G r ds) := by
  intro ds
  induction ds with
  | nil => exact RelM.refl _
  | cons d ds ih =>
    simp only [fleaveM, leaveM, kbind_eq, krun_eq]
    cases d.target with
    | collected b => exact RelM.bindEq (RelM.refl _) fun _ => ih
    | fn f cap => cases f <;> first | exact RelM.fail | exact RelM.bindEq (fdCall_ok h _ _) fun _ => ih
    | _ => exact RelM.fail
theorem fcallBody_ok (h : FOk fr r) (f : FuncId) (args : Array Value) : RelM Eq (fcallBody E G fr f args) (callBody E G r f args) := by
  unfold fcallBody callBody
  try simp only [kbind_eq, krun_eq]
  cases E.fn f with
  | none => exact RelM.fail
  | some x =>
    dsimp only
    cases x.body with
    | none => exact RelM.fail
    | some c =>
      dsimp only
      cases hg : Nat.ble args.size x.ntmps && Nat.blt x.ntmps 1000000 with
      | false => exact RelM.fail
      | true =>
        rw [Bool.and_eq_true] at hg
        simp only [cond_true]
        refine RelM.bind (h.code none c _ _ (Rep.start (Nat.le_of_ble_eq_true hg.1) (Nat.le_of_ble_eq_true hg.2))) fun p q hpq => ?_
        obtain ⟨e, a1⟩ := p
        obtain ⟨e', b1⟩ := q
        obtain ⟨h1, h2⟩ := hpq
        dsimp only at h1 h2 ⊢
        subst h1
        cases e <;> first
          | exact RelM.fail
          | (dsimp only
             rw [h2.ds, fresT_eq _ h2]
             exact RelM.bindEq (fleaveM_ok h _) fun _ => RelM.refl _)
theorem trim_ok {m m' : M Value} (h : RelM Eq m m') : RelM Eq (trim m) (trim m') := by
  intro s x s' hx
  unfold trim at hx
  cases hm : m ⟨s.h, s.nx, [], []⟩ with
  | none => rw [hm] at hx; cases hx
  | some q =>
    obtain ⟨v, s1⟩ := q
    rw [hm] at hx
    obtain ⟨y, h1, h2⟩ := h _ _ _ hm
    subst h2
    exact ⟨x, by unfold trim; rw [h1]; exact hx, rfl⟩
theorem fcallStep_ok (h : FOk fr r) (f : FuncId) (args : Array Value) : RelM Eq (fcallStep E G fr f args) (callStep E G r f args) := by
  unfold fcallStep callStep
  rw [ktrim_eq]
  exact trim_ok (fcallBody_ok h f args)
theorem fevalN_ok (n : Nat) : FOk (fevalN E G n) (evalN E G n) := by
  induction n with
  | zero => exact ⟨fun _ _ => RelM.fail, fun _ _ _ _ _ => RelM.fail, fun _ _ _ _ _ _ => RelM.fail⟩
  | succ n ih => exact ⟨fun f args => fcallStep_ok ih f args, fun inR c a b hr => fcodeStep_ok ih (evalN_local n) inR c hr, fun inR sb c a b hr => fscpStep_ok ih inR sb c hr⟩
end
/-- **A closed call**, as the quick evaluator answers it. -/
theorem fclosed_call {E : Env} (hE : EnvOk E) {gs : List Table} (hok : tabOk gs = true) {G : List Nat} (hGs : gs.map (·.g) = G) {n : Nat} {f : FuncId} {args : Array Value} {v : Value}
    (h : (match (fevalN E G n).call f args (startSt gs) with | some (u, _) => some u | none => none) = some v) (hp : plain v = true) (ha : args.toList.all plain = true) {W : World} (hm : TabsMet gs W) :
    CallsIn Fence.wide 0 E.P f args W fun e w' => e = .returned v ∧ Below W.heap.size W w' := by
  subst hGs
  refine closed_call hE hok (n := n) ?_ hp ha hm
  cases hc : (fevalN E (gs.map (·.g)) n).call f args (startSt gs) with
  | none => rw [hc] at h; cases h
  | some q =>
    obtain ⟨u, s'⟩ := q
    rw [hc] at h
    cases h
    obtain ⟨y, h1, h2⟩ := (fevalN_ok n).call f args _ _ _ hc
    rw [h1, h2]
end Go.Proofs.YtndjhcmgngnfbaaGreatDoor.AM
