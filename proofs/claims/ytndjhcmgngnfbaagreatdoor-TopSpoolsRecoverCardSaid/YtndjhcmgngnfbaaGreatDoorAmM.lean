/- Every operation, of the abstract machine and of the model. No condition. -/
import Derived.Test.YtndjhcmgngnfbaaGreatDoorAmK
set_option linter.unusedSimpArgs false
set_option linter.unusedVariables false
set_option linter.all false
namespace Go.Proofs.YtndjhcmgngnfbaaGreatDoor.AM
open Go Go.RowKit
/-- What an operation asks for next. -/
inductive AN where
  | value (v : Value)
  | skip
  | enter (f : FuncId) (args : Array Value)
  | defer (d : Deferred)
  | round (l : Nat) (tmps : Array Value) (assign body : Code)
inductive DR (μ : Mp) : Deferred → Deferred → Prop
  | func (f : FuncId) (c c' a a' : Array Value) : VRs μ c.toList c'.toList → VRs μ a.toList a'.toList → DR μ ⟨.fn (.func f) c, a⟩ ⟨.fn (.func f) c', a'⟩
inductive NR (μ : Mp) : AN → Next → Prop
  | value (v v' : Value) : VR μ v v' → NR μ (.value v) (.value v')
  | skip : NR μ .skip .skip
  | enter (f : FuncId) (a a' : Array Value) : VRs μ a.toList a'.toList → NR μ (.enter f a) (.enter f a')
  | defer (d d' : Deferred) : DR μ d d' → NR μ (.defer d) (.defer d')
  | round (l : Nat) (e : Ent) (fn : FuncId) (t t' : Array Value) (a b : Code) : μ l = some e → VRs μ t.toList t'.toList → NR μ (.round l t a b) (.round e.b fn t' a b)
/-- What the evaluator knows of the program. -/
structure Env where
  P : Program
  ty : Nat → Option TInfo
  pl : Nat → Option (Array (Nat × Nat))
  fn : Nat → Option Func
structure EnvOk (E : Env) : Prop where
  ty : TyOk E.P E.ty
  pl : PlOk E.P E.pl
  mixed : E.P.follows .mixedOrders = true
  fn : ∀ f x, E.fn f = some x → E.P.funcs[f]? = some x ∧ (x.name == "runtime.NumGoroutine") = false ∧ x.body.isSome = true
section
variable {E : Env} {N : Nat} {w0 w : World} {h : Tr Blk} {α β γ δ : Type} {μ : Mp}
def vT (t : AT Value) : AT AN := t.bind fun v => .ret (.value v)
def uT (t : AT Unit) : AT AN := t.bind fun _ => .ret .skip
theorem sim_v {P : Program} {t : AT Value} {s : Sem Value} (hs : Sim P N w0 VR μ t s) : Sim P N w0 NR μ (vT t) (do pure (.value (← s))) :=
  Sim.bind hs fun _ _ _ _ hab => Sim.ret (.value _ _ hab)
theorem sim_u {P : Program} {t : AT Unit} {s : Sem Unit} (hs : Sim P N w0 (fun _ _ _ => True) μ t s) : Sim P N w0 NR μ (uT t) (do s; pure .skip) :=
  Sim.bind hs fun _ _ _ _ _ => Sim.ret .skip
/-! ### Calls -/
def enterT (E : Env) (f : FuncId) (args : Array Value) : AT AN :=
  match E.fn f with
  | some _ => .ret (.enter f args)
  | none => .fail
theorem run_callFunc (hE : EnvOk E) {f : FuncId} {x : Func} (hf : E.fn f = some x) (args : Array Value) (w : World) : (callFunc f args).run E.P w = .ok (.enter f args) w := by
  obtain ⟨h1, h2, h3⟩ := hE.fn f x hf
  unfold callFunc
  simp only [Sem.run_bind, run_program, Result.andThen_ok, h1, h2, Bool.false_eq_true, if_false]
  have : x.body.isNone = false := by cases hb : x.body <;> simp [hb] at h3 ⊢
  simp [this]
theorem sim_enter (hE : EnvOk E) (f : FuncId) {a a' : Array Value} (ha : VRs μ a.toList a'.toList) : Sim E.P N w0 NR μ (enterT E f a) (callFunc f a') := by
  unfold enterT
  cases hf : E.fn f with
  | none => exact Sim.fail
  | some x => exact Sim.retRun (run_callFunc hE hf a') (.enter f a a' ha)
/-- The method of a value, where it is declared for this very type. -/
def methodT (E : Env) (t : TypeId) (v : Value) (name : String) : Option (FuncId × Value) :=
  match E.ty t with
  | none => none
  | some i => match i.info.methods.find? (·.name == name) with
    | none => none
    | some m => bif m.path.isEmpty then
        match m.func, i.u with
        | some (f, true), .pointer _ => some (f, v)
        | some (_, true), _ => none
        | some (_, false), .pointer _ => none
        | some (f, false), _ => some (f, v)
        | none, _ => none
      else none
theorem run_method (hE : EnvOk E) {t : TypeId} {v v' : Value} {name : String} {f : FuncId} {r : Value} (h : methodT E t v name = some (f, r)) (n : Nat) (w : World) :
    r = v ∧ (method (n + 1) t v' name).run E.P w = .ok (f, v') w := by
  unfold methodT at h
  cases hi : E.ty t with
  | none => rw [hi] at h; cases h
  | some i =>
    obtain ⟨a1, a2⟩ := hE.ty _ _ hi
    rw [hi] at h
    dsimp only at h
    cases hm : i.info.methods.find? (·.name == name) with
    | none => rw [hm] at h; cases h
    | some m =>
      rw [hm] at h
      dsimp only at h
      cases hp : m.path.isEmpty with
      | false => rw [hp] at h; cases h
      | true =>
        rw [hp, cond_true] at h
        have hpl : m.path.toList = [] := by simpa using hp
        have start : (method (n + 1) t v' name).run E.P w = (match m.func with
            | none => (do match ← Place.get t (.val v') with
                | .iface t' v' => method n t' v' name
                | .nilIface => runtimePanic .nilDeref
                | _ => stuck "method row: interface value expected" : Sem (FuncId × Value))
            | some (f, pointerReceiver) => do pure (f, ← receiverAt t (.val v') pointerReceiver (if m.path.isEmpty then some ((name.splitOn ".").getLastD name) else none))).run E.P w := by
          simp only [method, Sem.run_bind, run_typeInfo a1, Result.andThen_ok, hm, hpl, follow, Sem.run_pure]
          cases m.func with
          | none => rfl
          | some q => rfl
        cases hf : m.func with
        | none => rw [hf] at h; cases h
        | some q =>
          obtain ⟨g, pr⟩ := q
          rw [hf] at h start
          cases hu : i.u with
          | pointer el =>
            rw [hu] at h
            cases pr with
            | false => cases h
            | true =>
              cases h
              refine ⟨rfl, ?_⟩
              rw [start]
              simp [receiverAt, run_underlying a2, hu, Place.get]
          | _ =>
            rw [hu] at h
            cases pr with
            | true => cases h
            | false =>
              cases h
              refine ⟨rfl, ?_⟩
              rw [start]
              simp [receiverAt, run_underlying a2, hu, Place.get]
def callMethodT (E : Env) (recv : Value) (name : String) (args : Array Value) : AT AN :=
  match recv with
  | .iface t v => match methodT E t v name with
    | some (f, r) => enterT E f (#[r] ++ args)
    | none => .fail
  | _ => .fail
theorem sim_callMethod (hE : EnvOk E) {recv recv' : Value} (hr : VR μ recv recv') (name : String) {a a' : Array Value} (ha : VRs μ a.toList a'.toList) : Sim E.P N w0 NR μ (callMethodT E recv name a) (callMethod recv' name a') := by
  unfold callMethodT
  cases hr with
  | iface t v v' hv =>
    dsimp only
    cases hm : methodT E t v name with
    | none => exact Sim.fail
    | some q =>
      obtain ⟨f, r⟩ := q
      dsimp only
      have h1 := fun w => run_method hE (v' := v') hm (E.P.types.size + 99) w
      obtain ⟨rfl, _⟩ := h1 w0
      unfold callMethod
      refine Sim.step (b := E.P) (fun w => rfl) ?_
      refine Sim.step (b := (f, v')) (fun w => (h1 w).2) ?_
      exact sim_enter hE f (by simpa using VRs.cons _ _ _ _ hv ha)
  | _ => exact Sim.fail
theorem zipFold_rel : ∀ (ps : List Tmp) (as as' : List Value) (t t' : Array Value), VRs μ as as' → VRs μ t.toList t'.toList →
    VRs μ ((ps.zip as).foldl (fun (tmps : Array Value) (p : Tmp × Value) => tmps.setIfInBounds p.1 p.2) t).toList ((ps.zip as').foldl (fun (tmps : Array Value) (p : Tmp × Value) => tmps.setIfInBounds p.1 p.2) t').toList := by
  intro ps
  induction ps with
  | nil => intro as as' t t' _ ht; simpa using ht
  | cons p ps ih =>
    intro as as' t t' ha ht
    cases ha with
    | nil => simpa using ht
    | cons v v' l l' h1 h2 =>
      simp only [List.zip_cons_cons, List.foldl_cons]
      exact ih l l' _ _ h2 (by simpa using ht.set h1 p)
def yieldT (l : Nat) (args : Array Value) : AT AN :=
  .getObj l fun o => match o with
    | .loop r => bif Nat.beq args.size r.params.size then .ret (.round l ((r.params.toList.zip args.toList).foldl (fun (tmps : Array Value) (p : Tmp × Value) => tmps.setIfInBounds p.1 p.2) r.tmps) r.assign r.body) else .fail
    | _ => .fail
theorem sim_yield {P : Program} {l : Nat} {e : Ent} (he : μ l = some e) {a a' : Array Value} (ha : VRs μ a.toList a'.toList) : Sim P N w0 NR μ (yieldT l a) (Instr.yield e.b a') := by
  unfold yieldT
  refine Sim.congr (s' := Go.getObj e.b >>= fun o => match o with
    | .loop r => if a'.size ≠ r.params.size then stuck "yield: the wrong number of arguments" else pure (.round e.b r.fn ((r.params.zip a').foldl (fun tmps (t, a) => tmps.setIfInBounds t a) r.tmps) r.assign r.body)
    | _ => stuck "range over a function: no such loop") (fun w => ?_) ?_
  · unfold Instr.yield Instr.getLoop
    simp only [Sem.run_bind]
    cases hr : (Go.getObj e.b).run P w with
    | halt _ _ => rfl
    | ok o w' =>
      cases o with
      | loop r =>
        simp only [Result.andThen_ok, Sem.run_pure]
        split <;> simp_all
      | _ => simp [Result.andThen]
  · refine Sim.getObj he fun o o' ho _ => ?_
    cases ho with
    | loop r r' ed h1 h2 h3 h4 h5 h6 h7 h8 =>
      dsimp only
      cases hb : Nat.beq a.size r.params.size with
      | false => exact Sim.fail
      | true =>
        simp only [cond_true]
        have hb := Nat.eq_of_beq_eq_true hb
        have hsz : a'.size = a.size := by have := ha.length; simpa using this.symm
        rw [if_neg (by rw [hsz, ← h4]; simpa using hb)]
        rw [h5, h6]
        refine Sim.ret (.round l e _ _ _ _ _ he ?_)
        have e1 : (r'.params.zip a').foldl (fun tmps (t, a) => tmps.setIfInBounds t a) r'.tmps = (r.params.toList.zip a'.toList).foldl (fun (tmps : Array Value) (p : Tmp × Value) => tmps.setIfInBounds p.1 p.2) r'.tmps := by
          rw [← h4, ← Array.foldl_toList]; simp
        rw [e1]
        exact zipFold_rel _ _ _ _ _ ha h3
    | _ => exact Sim.fail
def targetT (E : Env) (fn : Fn) (cap args : Array Value) : AT AN :=
  match fn with
  | .func f => enterT E f (args ++ cap)
  | .method name => match args[0]? with
    | some recv => callMethodT E recv name (args.extract 1 args.size)
    | none => .fail
  | .yield l => yieldT l args
  | _ => .fail
theorem sim_target (hE : EnvOk E) (fn : Fn) (hfn : ∀ l, fn ≠ .yield l) {c c' a a' : Array Value} (hc : VRs μ c.toList c'.toList) (ha : VRs μ a.toList a'.toList) : Sim E.P N w0 NR μ (targetT E fn c a) (invoke (.fn fn c') a') := by
  cases fn with
  | func f => exact sim_enter hE f (by simpa using ha.append hc)
  | method name =>
    simp only [targetT, invoke]
    rcases ha.get 0 with ⟨h1, h2⟩ | ⟨v, v', h1, h2, h3⟩
    · have : a[0]? = none := by simpa using h1
      rw [this]; exact Sim.fail
    · have e1 : a[0]? = some v := by simpa using h1
      have e2 : a'[0]? = some v' := by simpa using h2
      have hsz : a.size = a'.size := by simpa using ha.length
      rw [e1, e2]
      exact sim_callMethod hE h3 name (by rw [hsz]; exact ha.extract 1 _)
  | yield l => exact absurd rfl (hfn l)
  | methodOf t name => exact Sim.fail
  | via t p f b => exact Sim.fail
def builtinT (E : Env) (b : Builtin) (c : Call) (ρ : Operand → Value) : AT AN :=
  match b, c.args.toList with
  | .append, [x, y] => vT (appendT E.ty c.argTypes (ρ x) (ρ y))
  | .copy, [x, y] => vT (copyT E.ty c.argTypes (ρ x) (ρ y))
  | .delete, [x, y] => vT (deleteT E.P E.ty c.argTypes (ρ x) (ρ y))
  | .len, [x] => vT (lenT E.ty c.argTypes (ρ x))
  | .cap, [x] => vT (capT E.ty c.argTypes (ρ x))
  | .clear, [x] => vT (clearT E.ty c.argTypes (ρ x))
  | .max, l => bif l.all fun x => plain (ρ x) then vT ((ofOpt (pureRun E.P (Builtin.max_ #[] 0 (l.map ρ).toArray))).bind fun v => bif plain v then .ret v else .fail) else .fail
  | .min, l => bif l.all fun x => plain (ρ x) then vT ((ofOpt (pureRun E.P (Builtin.min_ #[] 0 (l.map ρ).toArray))).bind fun v => bif plain v then .ret v else .fail) else .fail
  | _, _ => .fail
theorem map_plain {ρ ρ' : Operand → Value} : ∀ {l : List Operand}, (∀ x ∈ l, VR μ (ρ x) (ρ' x)) → (l.all fun x => plain (ρ x)) = true → l.map ρ' = l.map ρ
  | [], _, _ => rfl
  | x :: l, h, hp => by
    simp only [List.all_cons, Bool.and_eq_true] at hp
    simp only [List.map_cons]
    rw [plain_eq hp.1 (h x (by simp)), map_plain (fun y hy => h y (by simp [hy])) hp.2]
theorem sim_builtin (hE : EnvOk E) (b : Builtin) (c : Call) (type : TypeId) (consts : Array Bool) {ρ ρ' : Operand → Value} (hρ : ∀ x ∈ c.args.toList, VR μ (ρ x) (ρ' x)) :
    Sim E.P N w0 NR μ (builtinT E b c ρ) (builtin b c.argTypes type consts (c.args.map ρ')) := by
  have hargs : c.args.map ρ' = (c.args.toList.map ρ').toArray := by apply Array.ext'; simp
  unfold builtinT
  rw [hargs]
  cases b with
  | append =>
    cases hl : c.args.toList with
    | nil => exact Sim.fail
    | cons x l =>
      cases l with
      | nil => exact Sim.fail
      | cons y l =>
        cases l with
        | nil => rw [hl] at hρ; exact sim_v (sim_append hE.ty _ _ (hρ x (by simp)) (hρ y (by simp)))
        | cons z l => exact Sim.fail
  | copy =>
    cases hl : c.args.toList with
    | nil => exact Sim.fail
    | cons x l =>
      cases l with
      | nil => exact Sim.fail
      | cons y l =>
        cases l with
        | nil => rw [hl] at hρ; exact sim_v (sim_copy hE.ty _ _ (hρ x (by simp)) (hρ y (by simp)))
        | cons z l => exact Sim.fail
  | delete =>
    cases hl : c.args.toList with
    | nil => exact Sim.fail
    | cons x l =>
      cases l with
      | nil => exact Sim.fail
      | cons y l =>
        cases l with
        | nil => rw [hl] at hρ; exact sim_v (sim_delete hE.ty _ _ (hρ x (by simp)) (hρ y (by simp)))
        | cons z l => exact Sim.fail
  | len =>
    cases hl : c.args.toList with
    | nil => exact Sim.fail
    | cons x l =>
      cases l with
      | nil => rw [hl] at hρ; exact sim_v (sim_len hE.ty _ _ (hρ x (by simp)))
      | cons y l => exact Sim.fail
  | cap =>
    cases hl : c.args.toList with
    | nil => exact Sim.fail
    | cons x l =>
      cases l with
      | nil => rw [hl] at hρ; exact sim_v (sim_cap hE.ty _ _ (hρ x (by simp)))
      | cons y l => exact Sim.fail
  | clear =>
    cases hl : c.args.toList with
    | nil => exact Sim.fail
    | cons x l =>
      cases l with
      | nil => rw [hl] at hρ; exact sim_v (sim_clear hE.ty _ _ (hρ x (by simp)))
      | cons y l => exact Sim.fail
  | max =>
    dsimp only
    cases hp : c.args.toList.all fun x => plain (ρ x) with
    | false => exact Sim.fail
    | true =>
      rw [map_plain hρ hp]
      exact sim_v (Sim.ofPure rfl)
  | min =>
    dsimp only
    cases hp : c.args.toList.all fun x => plain (ρ x) with
    | false => exact Sim.fail
    | true =>
      rw [map_plain hρ hp]
      exact sim_v (Sim.ofPure rfl)
  | _ => exact Sim.fail
def callT (E : Env) (c : Call) (ρ : Operand → Value) : AT AN :=
  match c.callee with
  | .builtin b => builtinT E b c ρ
  | .invoke recv name => callMethodT E (ρ recv) name (c.args.map ρ)
  | .value f => match ρ f with
    | .func fn first cap => targetT E fn cap (first ++ c.args.map ρ)
    | _ => .fail
theorem map_rel {ρ ρ' : Operand → Value} : ∀ {l : List Operand}, (∀ x ∈ l, VR μ (ρ x) (ρ' x)) → VRs μ (l.map ρ) (l.map ρ')
  | [], _ => .nil
  | x :: l, h => .cons _ _ _ _ (h x (by simp)) (map_rel fun y hy => h y (by simp [hy]))
theorem sim_call (hE : EnvOk E) (c : Call) (type : TypeId) {ρ ρ' : Operand → Value} (hρ : ∀ x ∈ c.operands.toList, VR μ (ρ x) (ρ' x)) :
    Sim E.P N w0 NR μ (callT E c ρ) (do let d ← resolve ρ' c type; invoke d.target d.args) := by
  unfold callT resolve
  have hargs : ∀ x ∈ c.args.toList, VR μ (ρ x) (ρ' x) := fun x hx => hρ x (by simp [Call.operands]; right; simpa using hx)
  have hm : VRs μ (c.args.map ρ).toList (c.args.map ρ').toList := by simpa using map_rel hargs
  cases hc : c.callee with
  | builtin b =>
    dsimp only
    refine Sim.step (b := _) (fun w => rfl) ?_
    exact sim_builtin hE b c type _ hargs
  | invoke recv name =>
    dsimp only
    refine Sim.step (b := _) (fun w => rfl) ?_
    have hr := hρ recv (by simp [Call.operands, hc])
    have he : (#[ρ' recv] ++ c.args.map ρ').extract 1 (#[ρ' recv] ++ c.args.map ρ').size = c.args.map ρ' := by
      apply Array.ext'
      simp only [Array.toList_extract, Array.toList_append, Array.toList_map, List.extract_eq_take_drop]
      simp [List.take_of_length_le]
    have := sim_callMethod (N := N) (w0 := w0) hE hr name hm
    refine Sim.congr (fun w => ?_) this
    have h0 : (#[ρ' recv] ++ c.args.map ρ')[0]? = some (ρ' recv) := by
      rw [Array.getElem?_append_left (by simp)]; rfl
    simp only [invoke, h0, he]
  | value f =>
    dsimp only
    have hf := hρ f (by simp [Call.operands, hc])
    generalize ρ f = v at hf
    generalize ρ' f = v' at hf
    cases hf with
    | func fn fi fi' ca ca' hfn h1 h2 =>
      dsimp only [Deferred.ofValue]
      refine Sim.step (b := _) (fun w => rfl) ?_
      exact sim_target hE fn hfn h2 (by simpa using h1.append hm)
    | yield l e he =>
      dsimp only [Deferred.ofValue]
      refine Sim.step (b := _) (fun w => rfl) ?_
      have : Sim E.P N w0 NR μ (yieldT l (#[] ++ c.args.map ρ)) (Instr.yield e.b (#[] ++ c.args.map ρ')) := sim_yield he (by simpa using hm)
      exact this
    | _ => exact Sim.fail
def deferT (c : Call) (ρ : Operand → Value) : AT AN :=
  match c.callee with
  | .value f => match ρ f with
    | .func (.func g) first cap => .ret (.defer ⟨.fn (.func g) cap, first ++ c.args.map ρ⟩)
    | _ => .fail
  | _ => .fail
theorem sim_defer {P : Program} (c : Call) (type : TypeId) {ρ ρ' : Operand → Value} (hρ : ∀ x ∈ c.operands.toList, VR μ (ρ x) (ρ' x)) :
    Sim P N w0 NR μ (deferT c ρ) (do pure (.defer (← resolve ρ' c type))) := by
  unfold deferT resolve
  have hargs : ∀ x ∈ c.args.toList, VR μ (ρ x) (ρ' x) := fun x hx => hρ x (by simp [Call.operands]; right; simpa using hx)
  have hm : VRs μ (c.args.map ρ).toList (c.args.map ρ').toList := by simpa using map_rel hargs
  cases hc : c.callee with
  | builtin b => exact Sim.fail
  | invoke recv name => exact Sim.fail
  | value f =>
    dsimp only
    have hf := hρ f (by simp [Call.operands, hc])
    generalize ρ f = v at hf
    generalize ρ' f = v' at hf
    cases hf with
    | func fn fi fi' ca ca' hfn h1 h2 =>
      cases fn with
      | func g =>
        dsimp only [Deferred.ofValue]
        refine Sim.step (b := _) (fun w => rfl) ?_
        exact Sim.ret (.defer _ _ (.func g _ _ _ _ h2 (by simpa using h1.append hm)))
      | _ => exact Sim.fail
    | _ => exact Sim.fail
/-! ### All operations -/
def methodSeen (E : Env) (first : Array Value) (name : String) : Bool :=
  match first.toList with
  | .iface t w :: _ => (methodT E t w name).isSome
  | _ => false
def nilCheckT (E : Env) : Value → AT Value
  | .pointer none => .fail
  | .nilIface => .fail
  | .nilFunc => .fail
  | .func (.method name) first cap => bif methodSeen E first name then .ret (.func (.method name) first cap) else .fail
  | v => .ret v
theorem run_nilAhead (hE : EnvOk E) {t : TypeId} {v v' : Value} {name : String} (h : (methodT E t v name).isSome = true) (n : Nat) (w : World) :
    (nilAhead (n + 1) t v' name).run E.P w = .ok (some false) w := by
  unfold methodT at h
  cases hi : E.ty t with
  | none => rw [hi] at h; cases h
  | some i =>
    obtain ⟨a1, a2⟩ := hE.ty _ _ hi
    rw [hi] at h
    dsimp only at h
    cases hm : i.info.methods.find? (·.name == name) with
    | none => rw [hm] at h; cases h
    | some m =>
      rw [hm] at h
      dsimp only at h
      cases hp : m.path.isEmpty with
      | false => rw [hp] at h; cases h
      | true =>
        rw [hp, cond_true] at h
        have hpl : m.path.toList = [] := by simpa using hp
        cases hf : m.func with
        | none => rw [hf] at h; cases h
        | some q =>
          obtain ⟨g, pr⟩ := q
          rw [hf] at h
          cases pr with
          | true => simp only [nilAhead, Sem.run_bind, run_typeInfo a1, Result.andThen_ok, hm, hpl, followBlind, Sem.run_pure, hf]
          | false =>
            cases hu : i.u with
            | pointer el => rw [hu] at h; cases h
            | _ => simp only [nilAhead, Sem.run_bind, run_typeInfo a1, Result.andThen_ok, hm, hpl, followBlind, Sem.run_pure, hf, run_underlying a2, hu]
def opT (E : Env) (ρ : Operand → Value) (o : Oper) : AT AN :=
  match o.op with
  | .move x => .ret (.value (ρ x))
  | .assign x => .ret (.value (ρ x))
  | .pick c a b => match ρ c with
    | .bool t => .ret (.value (if t then ρ a else ρ b))
    | _ => .fail
  | .alloc elem => vT (allocT E.ty elem)
  | .box elem x => vT (boxT elem (ρ x))
  | .build t parts => vT (buildT E.ty E.pl t ρ parts)
  | .buildSlice t len parts => vT (buildSliceT E.ty t len ρ parts)
  | .load t a => vT (loadT E.ty t (ρ a))
  | .store t a x => uT (storeT E.ty t (ρ x) (ρ a))
  | .nilCheck x => vT (nilCheckT E (ρ x))
  | .binOp op t x y _ => vT (binT E.P E.ty op t x y (ρ x) (ρ y))
  | .unOp op _ x => bif plain (ρ x) then vT ((ofOpt (pureRun E.P (Op.unary op (ρ x)))).bind fun v => bif plain v then .ret v else .fail) else .fail
  | .convert src dst x => vT (convT E.P E.ty src dst (ρ x))
  | .makeInterface t x => vT (ifaceT E.ty t (ρ x))
  | .makeFunc fn first cap => match fn with
    | .yield _ => .fail
    | _ => .ret (.value (.func fn (first.map ρ) (cap.map ρ)))
  | .makeMap t r => match E.ty t with
    | some i => match i.u with
      | .map _ _ => vT (makeMapT (r.map ρ))
      | _ => .fail
    | none => .fail
  | .makeSlice t l c => vT (makeSliceT E.ty t (ρ l) (ρ c))
  | .slice t x lo hi mx => vT (sliceT E.ty t (ρ x) (lo.map ρ) (hi.map ρ) (mx.map ρ))
  | .fieldAddr s x f => vT (fieldAddrT E.ty s f (ρ x))
  | .field t x f => vT (fieldT E.ty t f (ρ x))
  | .indexAddr t x i => vT (indexAddrT E.ty t (ρ x) (ρ i))
  | .index t x i => vT (indexT E.ty t (ρ x) (ρ i))
  | .lookup t x i ok => vT (lookupT E.P E.ty t (ρ x) (ρ i) ok)
  | .mapUpdate t m k x => uT (mapUpdateT E.P E.ty t (ρ m) (ρ k) (ρ x))
  | .insert t m k x => uT (mapUpdateT E.P E.ty t (ρ m) (ρ k) (ρ x))
  | .range t x => vT (rangeT E.ty t (ρ x))
  | .next it s => vT (nextT s (ρ it))
  | .typeAssert x _ asserted ok => vT (assertT E.ty asserted ok (ρ x))
  | .extract t i => vT (extractT i (ρ t))
  | .call c => callT E c ρ
  | .defer c => deferT c ρ
  | _ => .fail
theorem ov_map {ρ ρ' : Operand → Value} (x : Option Operand) (h : ∀ y ∈ x.toList, VR μ (ρ y) (ρ' y)) : OV μ (x.map ρ) (x.map ρ') := by
  cases x with
  | none => trivial
  | some y => exact h y (by simp)
theorem sim_op (hE : EnvOk E) (o : Oper) {ρ ρ' : Operand → Value} (hρ : ∀ x ∈ o.op.operands.toList, VR μ (ρ x) (ρ' x)) : Sim E.P N w0 NR μ (opT E ρ o) (execOp ρ' o) := by
  unfold opT execOp
  cases ho : o.op with
  | move x => exact Sim.ret (.value _ _ (hρ x (by simp [ho, Op.operands])))
  | assign x => exact Sim.ret (.value _ _ (hρ x (by simp [ho, Op.operands])))
  | pick c a b =>
    have h1 := hρ c (by simp [ho, Op.operands])
    have h2 := hρ a (by simp [ho, Op.operands])
    have h3 := hρ b (by simp [ho, Op.operands])
    dsimp only
    generalize ρ c = v at h1
    generalize ρ' c = v' at h1
    cases h1 with
    | bool t =>
      refine Sim.step (b := t) (fun w => rfl) ?_
      cases t with
      | true => exact Sim.ret (.value _ _ h2)
      | false => exact Sim.ret (.value _ _ h3)
    | _ => exact Sim.fail
  | alloc elem => exact sim_v (sim_alloc hE.ty elem _)
  | box elem x => exact sim_v (sim_box elem (hρ x (by simp [ho, Op.operands])))
  | build t parts => exact sim_v (sim_build hE.ty hE.pl t parts fun p hp => hρ p.2 (by simp [ho, Op.operands]; exact ⟨p.1, by simpa using hp⟩))
  | buildSlice t len parts => exact sim_v (sim_buildSlice hE.ty t len parts fun p hp => hρ p.2 (by simp [ho, Op.operands]; exact ⟨p.1, by simpa using hp⟩))
  | load t a => exact sim_v (sim_loadAt hE.ty t (hρ a (by simp [ho, Op.operands])))
  | store t a x => exact sim_u (sim_storeAt hE.ty t (hρ a (by simp [ho, Op.operands])) (hρ x (by simp [ho, Op.operands])))
  | nilCheck x =>
    have h1 := hρ x (by simp [ho, Op.operands])
    dsimp only
    generalize ρ x = v at h1
    generalize ρ' x = v' at h1
    cases h1 with
    | func fn f f' c c' hfn g1 g2 =>
      cases fn with
      | method name =>
        show Sim E.P N w0 NR μ (vT (bif methodSeen E f name then .ret (.func (.method name) f c) else .fail)) _
        cases hseen : methodSeen E f name with
        | false => exact Sim.fail
        | true =>
          obtain ⟨l⟩ := f
          obtain ⟨l'⟩ := f'
          have g0 := g1
          unfold methodSeen at hseen
          dsimp only at hseen g1
          cases g1 with
          | nil => cases hseen
          | cons a a' l l' k1 k2 =>
            cases k1 with
            | iface t u u' ku =>
              dsimp only at hseen
              intro st wd r st' hrun hs
              simp only [cond_true, vT] at hrun
              cases hrun
              refine ⟨μ, wd, _, .refl _, ?_, hs, .value _ _ (.func _ _ _ _ _ hfn g0 g2)⟩
              have hn := run_nilAhead hE (v' := u') hseen (E.P.types.size + 99) wd
              have hd : E.P.types.size + Made.depth = E.P.types.size + 99 + 1 := rfl
              simp [Sem.run_bind, hd, hn]
            | _ => cases hseen
      | yield l => exact absurd rfl (hfn l)
      | _ => exact Sim.ret (.value _ _ (.func _ _ _ _ _ hfn g1 g2))
    | ptrNil => exact Sim.fail
    | nilIface => exact Sim.fail
    | nilFunc => exact Sim.fail
    | yield l e he => exact Sim.ret (.value _ _ (.yield l e he))
    | bool b => exact Sim.ret (.value _ _ (.bool b))
    | int k n => exact Sim.ret (.value _ _ (.int k n))
    | float k n => exact Sim.ret (.value _ _ (.float k n))
    | complex k a b => exact Sim.ret (.value _ _ (.complex k a b))
    | string s => exact Sim.ret (.value _ _ (.string s))
    | ptr b off e he => exact Sim.ret (.value _ _ (.ptr b off e he))
    | sliceNil n c => exact Sim.ret (.value _ _ (.sliceNil n c))
    | sliceEnd b o c => exact Sim.ret (.value _ _ (.sliceEnd b o c))
    | slice b off e n c c' he hc => exact Sim.ret (.value _ _ (.slice b off e n c c' he hc))
    | mapNil => exact Sim.ret (.value _ _ .mapNil)
    | map r e he => exact Sim.ret (.value _ _ (.map r e he))
    | iface t v v' hv => exact Sim.ret (.value _ _ (.iface t v v' hv))
    | agg c c' hc => exact Sim.ret (.value _ _ (.agg c c' hc))
    | tuple c c' hc => exact Sim.ret (.value _ _ (.tuple c c' hc))
  | binOp op t x y yt => exact sim_v (sim_bin hE.ty op t x y (hρ x (by simp [ho, Op.operands])) (hρ y (by simp [ho, Op.operands])))
  | unOp op t x =>
    have h1 := hρ x (by simp [ho, Op.operands])
    dsimp only
    cases hp : plain (ρ x) with
    | false => exact Sim.fail
    | true => rw [plain_eq hp h1]; exact sim_v (Sim.ofPure rfl)
  | convert src dst x => exact sim_v (sim_conv hE.ty src dst (hρ x (by simp [ho, Op.operands])))
  | makeInterface t x => exact sim_v (sim_iface hE.ty t (hρ x (by simp [ho, Op.operands])))
  | makeFunc fn first cap =>
    have h1 : VRs μ (first.map ρ).toList (first.map ρ').toList := by simpa using map_rel (l := first.toList) fun x hx => hρ x (by simp [ho, Op.operands]; left; simpa using hx)
    have h2 : VRs μ (cap.map ρ).toList (cap.map ρ').toList := by simpa using map_rel (l := cap.toList) fun x hx => hρ x (by simp [ho, Op.operands]; right; simpa using hx)
    cases fn with
    | yield l => exact Sim.fail
    | _ => exact Sim.ret (.value _ _ (.func _ _ _ _ _ (fun l hl => by cases hl) h1 h2))
  | makeMap t r =>
    dsimp only
    cases hi : E.ty t with
    | none => exact Sim.fail
    | some i =>
      dsimp only
      cases hu : i.u with
      | map kt et => exact sim_v (sim_makeMap t hE.ty hi hu (ov_map r fun y hy => hρ y (by simp [ho, Op.operands]; simpa using hy)))
      | _ => exact Sim.fail
  | makeSlice t l c => exact sim_v (sim_makeSlice hE.ty t (hρ l (by simp [ho, Op.operands])) (hρ c (by simp [ho, Op.operands])))
  | slice t x lo hi mx =>
    exact sim_v (sim_slice hE.ty t (hρ x (by simp [ho, Op.operands])) (ov_map lo fun y hy => hρ y (by simp [ho, Op.operands] at hy ⊢; simp [hy])) (ov_map hi fun y hy => hρ y (by simp [ho, Op.operands] at hy ⊢; simp [hy])) (ov_map mx fun y hy => hρ y (by simp [ho, Op.operands] at hy ⊢; simp [hy])))
  | fieldAddr s x f => exact sim_v (sim_fieldAddr hE.ty s f (hρ x (by simp [ho, Op.operands])))
  | field t x f => exact sim_v (sim_field hE.ty t f (hρ x (by simp [ho, Op.operands])))
  | indexAddr t x i => exact sim_v (sim_indexAddr hE.ty t (hρ x (by simp [ho, Op.operands])) (hρ i (by simp [ho, Op.operands])))
  | index t x i => exact sim_v (sim_index hE.ty t (hρ x (by simp [ho, Op.operands])) (hρ i (by simp [ho, Op.operands])))
  | lookup t x i ok => exact sim_v (sim_lookup hE.ty t (hρ x (by simp [ho, Op.operands])) (hρ i (by simp [ho, Op.operands])) ok)
  | mapUpdate t m k x => exact sim_u (sim_mapUpdate hE.ty t (hρ m (by simp [ho, Op.operands])) (hρ k (by simp [ho, Op.operands])) (hρ x (by simp [ho, Op.operands])))
  | insert t m k x => exact sim_u (sim_mapUpdate hE.ty t (hρ m (by simp [ho, Op.operands])) (hρ k (by simp [ho, Op.operands])) (hρ x (by simp [ho, Op.operands])))
  | range t x => exact sim_v (sim_range hE.ty t (hρ x (by simp [ho, Op.operands])))
  | next it s => exact sim_v (sim_next s _ (hρ it (by simp [ho, Op.operands])))
  | typeAssert x t asserted ok => exact sim_v (sim_assert hE.ty t asserted ok (hρ x (by simp [ho, Op.operands])))
  | extract t i => exact sim_v (sim_extract i (hρ t (by simp [ho, Op.operands])))
  | call c => exact sim_call hE c _ fun x hx => hρ x (by simp [ho, Op.operands]; simpa using hx)
  | defer c => exact sim_defer c _ fun x hx => hρ x (by simp [ho, Op.operands]; simpa using hx)
  | _ => exact Sim.fail
end
end Go.Proofs.YtndjhcmgngnfbaaGreatDoor.AM
