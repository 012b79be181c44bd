/- A closed call: what the evaluator answers from the tables alone, the model's machine answers in every world that holds the tables. No condition. -/
import Derived.Test.YtndjhcmgngnfbaaGreatDoorAmR
set_option linter.unusedSimpArgs false
set_option linter.unusedVariables false
set_option linter.all false
section
namespace Go.Proofs.YtndjhcmgngnfbaaGreatDoor.AM
open Go Go.RowKit
/-- A table: its block, the type of its cells, what it holds. -/
structure Table where
  g : Nat
  t : TypeId
  vs : List Value
def Table.blk (x : Table) : Blk := .cells (x.vs.map some) x.t 0 false
def tabs (gs : List Table) : Tr Blk := gs.foldr (fun x h => Tr.put 64 h x.g x.blk) .leaf
def startSt (gs : List Table) : St := { h := tabs gs, nx := 1000, rd := [], wr := [] }
def tabOk (gs : List Table) : Bool := gs.all fun x => decide (x.g < 1000) && x.vs.all plain
def TabsMet (gs : List Table) (W : World) : Prop := ∀ x ∈ gs, ∃ arr t fr, W.heap[x.g]? = some (.cells arr t fr) ∧ arr.toList = x.vs
def tabMp (gs : List Table) : Mp := fun b => (gs.find? fun x => x.g == b).map fun x => ⟨b, 0, x.vs.length, 0, 0⟩
theorem tabs_get : ∀ (gs : List Table) (b : Nat), (∀ x ∈ gs, x.g < 1000) → (tabs gs).get b = (gs.find? fun x => x.g == b).map Table.blk
  | [], b, _ => rfl
  | x :: gs, b, h => by
    show (Tr.put 64 (tabs gs) x.g x.blk).get b = _
    rw [Tr.get_put _ _ _ _ _ (by have := h x (by simp); omega), tabs_get gs b fun y hy => h y (by simp [hy])]
    by_cases hb : b = x.g
    · simp [hb]
    · rw [if_neg hb, List.find?_cons_of_neg (by simpa using fun h => hb h.symm)]
theorem start_rel {gs : List Table} {W : World} (hok : tabOk gs = true) (hm : TabsMet gs W) : SR (tabMp gs) W.heap.size W (startSt gs).h W := by
  have hok' : ∀ x ∈ gs, x.g < 1000 ∧ ∀ v ∈ x.vs, plain v = true := by
    intro x hx
    have := List.all_eq_true.1 hok x hx
    rw [Bool.and_eq_true] at this
    exact ⟨of_decide_eq_true this.1, List.all_eq_true.1 this.2⟩
  have hg : ∀ b, (tabs gs).get b = (gs.find? fun x => x.g == b).map Table.blk := fun b => tabs_get gs b fun x hx => (hok' x hx).1
  refine ⟨fun b x hb => ?_, fun b e he => ?_, fun b1 b2 x1 x2 e1 e2 h1 h2 k1 k2 hne heq => ?_, .refl _ _, Nat.le_refl _⟩
  · rw [show (startSt gs).h = tabs gs from rfl, hg] at hb
    cases hf : gs.find? fun x => x.g == b with
    | none => rw [hf] at hb; cases hb
    | some y =>
      rw [hf] at hb
      cases hb
      refine ⟨⟨b, 0, y.vs.length, 0, 0⟩, by simp [tabMp, hf], ?_⟩
      have hy : y ∈ gs := List.mem_of_find?_eq_some hf
      have hyb : y.g = b := by simpa using List.find?_some hf
      obtain ⟨arr, tq, fr, ha, hl⟩ := hm y hy
      subst hyb
      have hsz : arr.size = y.vs.length := by rw [← hl]; simp
      refine ⟨arr, fr.1, fr.2, _, ha, by simp, by simp [hsz], fun _ => ⟨?_, rfl⟩, fun h => absurd rfl h, fun _ => ⟨rfl, rfl, rfl⟩, fun h => absurd h (by omega), fun i v hv => ?_⟩
      · exact (Array.getElem?_eq_some_iff.1 ha).1
      · have hv' : y.vs[i]? = some v := by
          rw [List.getElem?_map] at hv
          cases hq : y.vs[i]? with
          | none => rw [hq] at hv; cases hv
          | some q => rw [hq] at hv; cases hv; rfl
        refine ⟨v, by simpa [← hl] using hv', plain_refl _ ((hok' y hy).2 v (List.mem_of_getElem? hv'))⟩
  · rw [show (startSt gs).h = tabs gs from rfl, hg]
    simp only [tabMp] at he
    cases hf : gs.find? fun x => x.g == b with
    | none => rw [hf] at he; cases he
    | some y => exact ⟨_, rfl⟩
  · simp only [tabMp] at k1 k2
    cases hf : gs.find? fun x => x.g == b1 with
    | none => rw [hf] at k1; cases k1
    | some y =>
      cases hf2 : gs.find? fun x => x.g == b2 with
      | none => rw [hf2] at k2; cases k2
      | some y2 =>
        rw [hf] at k1; rw [hf2] at k2
        cases k1; cases k2
        exact absurd heq hne
theorem tabs_glob {gs : List Table} : GlobOk (gs.map (·.g)) (tabMp gs) := by
  intro g hg
  obtain ⟨x, hx, rfl⟩ := List.mem_map.1 hg
  cases hf : gs.find? fun y => y.g == x.g with
  | none => exact absurd (List.find?_eq_none.1 hf x hx) (by simp)
  | some y => exact ⟨⟨x.g, 0, y.vs.length, 0, 0⟩, by simp [tabMp, hf], rfl, rfl⟩
/-- **A closed call.** -/
theorem closed_call {E : Env} (hE : EnvOk E) {gs : List Table} (hok : tabOk gs = true) {n : Nat} {f : FuncId} {args : Array Value} {v : Value}
    (h : (match (evalN E (gs.map (·.g)) n).call f args (startSt gs) with | some (u, _) => some u | none => none) = some v) (hp : plain v = true) (ha : args.toList.all plain = true) {W : World} (hm : TabsMet gs W) :
    CallsIn Fence.wide 0 E.P f args W fun e w' => e = .returned v ∧ Below W.heap.size W w' := by
  cases hc : (evalN E (gs.map (·.g)) n).call f args (startSt gs) with
  | none => rw [hc] at h; cases h
  | some r =>
    obtain ⟨u, s'⟩ := r
    rw [hc] at h
    cases h
    refine ((evalN_sound (N := W.heap.size) (w0 := W) hE n).call f args _ v s' hc _ args W (start_rel hok hm) tabs_glob (VRs.refl_of fun x hx => plain_refl _ (List.all_eq_true.1 ha x hx))).mono ?_
    rintro e w' ⟨v', ν, rfl, _, hs, hv⟩
    exact ⟨by rw [plain_eq hp hv], hs.below⟩
theorem closed_calls {E : Env} (hE : EnvOk E) {gs : List Table} (hok : tabOk gs = true) {n : Nat} {f : FuncId} {args : Array Value} {v : Value}
    (h : (match (evalN E (gs.map (·.g)) n).call f args (startSt gs) with | some (u, _) => some u | none => none) = some v) (hp : plain v = true) (ha : args.toList.all plain = true) {W : World} (hm : TabsMet gs W) :
    Calls E.P f args W fun e w' => e = .returned v ∧ Below W.heap.size W w' :=
  callsIn_wide.1 (closed_call hE hok h hp ha hm)
end Go.Proofs.YtndjhcmgngnfbaaGreatDoor.AM
end
/- The evaluator's tables, taken off a program: lists, tries, and what makes them sound. No condition. -/
section
namespace Go.Proofs.YtndjhcmgngnfbaaGreatDoor.AM
open Go Go.RowKit
def ofList {α : Type} (l : List (Nat × α)) : Tr α := l.foldr (fun x h => Tr.put 64 h x.1 x.2) .leaf
theorem ofList_get {α : Type} : ∀ (l : List (Nat × α)) (b : Nat) (v : α), (∀ x ∈ l, x.1 < 10000000) → (ofList l).get b = some v → (b, v) ∈ l
  | [], b, v, _, hv => by cases hv
  | x :: l, b, v, h, hv => by
    have hv : (Tr.put 64 (ofList l) x.1 x.2).get b = some v := hv
    rw [Tr.get_put _ _ _ _ _ (by have := h x (by simp); omega)] at hv
    by_cases hb : b = x.1
    · rw [if_pos hb] at hv; cases hv; subst hb; exact List.mem_cons_self
    · rw [if_neg hb] at hv; exact List.mem_cons_of_mem _ (ofList_get l b v (fun y hy => h y (by simp [hy])) hv)
def mkTy (P : Program) (n : Nat) : List (Nat × TInfo) := (List.range n).filterMap fun t => match P.info? t, P.underlying t with
  | some i, some u => some (t, ⟨i, u⟩)
  | _, _ => none
def mkPl (P : Program) (n : Nat) : List (Nat × Array (Nat × Nat)) := (List.range n).filterMap fun t => match P.underlying t with
  | some (.struct fields) => (pureRun P (fields.mapM fun f => do pure (f.offset, ← Go.sizeOf f.type))).map fun ps => (t, ps)
  | _ => none
def mkFn (P : Program) (n : Nat) : List (Nat × Func) := (List.range n).filterMap fun f => match P.funcs[f]? with
  | some x => bif x.body.isSome && !(x.name == "runtime.NumGoroutine") then some (f, x) else none
  | none => none
theorem mkTy_mem {P : Program} {n t : Nat} {i : TInfo} (h : (t, i) ∈ mkTy P n) : t < n ∧ P.info? t = some i.info ∧ P.underlying t = some i.u := by
  obtain ⟨a, ha, hb⟩ := List.mem_filterMap.1 h
  have ha := List.mem_range.1 ha
  cases h1 : P.info? a with
  | none => rw [h1] at hb; cases hb
  | some x =>
    cases h2 : P.underlying a with
    | none => rw [h1, h2] at hb; cases hb
    | some y => rw [h1, h2] at hb; cases hb; exact ⟨ha, h1, h2⟩
theorem mkFn_mem {P : Program} {n f : Nat} {x : Func} (h : (f, x) ∈ mkFn P n) : f < n ∧ P.funcs[f]? = some x ∧ (x.name == "runtime.NumGoroutine") = false ∧ x.body.isSome = true := by
  obtain ⟨a, ha, hb⟩ := List.mem_filterMap.1 h
  have ha := List.mem_range.1 ha
  cases h1 : P.funcs[a]? with
  | none => rw [h1] at hb; cases hb
  | some y =>
    rw [h1] at hb
    cases h2 : y.body.isSome with
    | false => simp [h2] at hb
    | true =>
      cases h3 : y.name == "runtime.NumGoroutine" with
      | true => simp [h2, h3] at hb
      | false =>
        simp only [h2, h3, Bool.not_false, Bool.and_true, cond_true, Option.some.injEq, Prod.mk.injEq] at hb
        obtain ⟨rfl, rfl⟩ := hb
        exact ⟨ha, h1, h3, h2⟩
theorem mkPl_mem {P : Program} {n t : Nat} {ps : Array (Nat × Nat)} (h : (t, ps) ∈ mkPl P n) : t < n ∧ ∃ fields, P.underlying t = some (.struct fields) ∧ pureRun P (fields.mapM fun f => do pure (f.offset, ← Go.sizeOf f.type)) = some ps := by
  obtain ⟨a, ha, hb⟩ := List.mem_filterMap.1 h
  have ha := List.mem_range.1 ha
  split at hb
  · rename_i fields hu
    obtain ⟨q, hq, hb⟩ := Option.map_eq_some_iff.1 hb
    cases hb
    exact ⟨ha, fields, hu, hq⟩
  · cases hb
theorem envOk_of {P : Program} {nt nf : Nat} {ty : Tr TInfo} {pl : Tr (Array (Nat × Nat))} {fn : Tr Func} (hty : ofList (mkTy P nt) = ty) (hpl : ofList (mkPl P nt) = pl) (hfn : ofList (mkFn P nf) = fn) (hnt : nt < 10000000) (hnf : nf < 10000000)
    (hm : P.follows .mixedOrders = true) : EnvOk ⟨P, ty.get, pl.get, fn.get⟩ := by
  subst hty hpl hfn
  refine ⟨fun t i h => ?_, fun t fields ps hu h => ?_, hm, fun f x h => ?_⟩
  · exact (mkTy_mem (ofList_get _ _ _ (fun x hx => Nat.lt_trans (mkTy_mem (t := x.1) (i := x.2) hx).1 hnt) h)).2
  · obtain ⟨_, fields', hu', hr⟩ := mkPl_mem (ofList_get _ _ _ (fun x hx => Nat.lt_trans (mkPl_mem (t := x.1) (ps := x.2) hx).1 hnt) h)
    rw [hu] at hu'
    cases hu'
    exact pureRun_run _ _ hr
  · exact (mkFn_mem (ofList_get _ _ _ (fun x hx => Nat.lt_trans (mkFn_mem (f := x.1) (x := x.2) hx).1 hnf) h)).2
end Go.Proofs.YtndjhcmgngnfbaaGreatDoor.AM
end
/- The same functions by bare recursors: what the kernel reckons quickly. No condition. -/
section
namespace Go.Proofs.YtndjhcmgngnfbaaGreatDoor.AM
open Go
noncomputable def kget {α : Type} (t : Tr α) (n : Nat) : Option α :=
  Tr.rec (motive := fun _ => Nat → Option α) (fun _ => none)
    (fun _ v _ gl gr n => Nat.rec (motive := fun _ => Option α) v (fun m _ => Nat.rec (motive := fun _ => Option α) (gl (m / 2)) (fun _ _ => gr (m / 2)) (m % 2)) n) t n
noncomputable def kput {α : Type} (f : Nat) (t : Tr α) (n : Nat) (x : α) : Tr α :=
  Nat.rec (motive := fun _ => Tr α → Nat → Tr α) (fun t _ => t)
    (fun _ ih t n => Tr.rec (motive := fun _ => Tr α)
      (Nat.rec (motive := fun _ => Tr α) (.node .leaf (some x) .leaf) (fun m _ => Nat.rec (motive := fun _ => Tr α) (.node (ih .leaf (m / 2)) none .leaf) (fun _ _ => .node .leaf none (ih .leaf (m / 2))) (m % 2)) n)
      (fun l v r _ _ => Nat.rec (motive := fun _ => Tr α) (.node l (some x) r) (fun m _ => Nat.rec (motive := fun _ => Tr α) (.node (ih l (m / 2)) v r) (fun _ _ => .node l v (ih r (m / 2))) (m % 2)) n) t) f t n
noncomputable def kmod {α : Type} (t : Tr α) (n : Nat) (x : α) : Tr α :=
  Tr.rec (motive := fun _ => Nat → Tr α) (fun _ => .leaf)
    (fun l v r gl gr n => Nat.rec (motive := fun _ => Tr α) (.node l (some x) r) (fun m _ => Nat.rec (motive := fun _ => Tr α) (.node (gl (m / 2)) v r) (fun _ _ => .node l v (gr (m / 2))) (m % 2)) n) t n
theorem kget_eq {α : Type} (t : Tr α) : ∀ n, kget t n = t.get n := by
  induction t with
  | leaf => intro n; rfl
  | node l v r ihl ihr =>
    intro n
    rw [Tr.get_node]
    cases n with
    | zero => rfl
    | succ m =>
      rw [if_neg (by omega)]
      show (Nat.rec (motive := fun _ => Option α) (kget l (m / 2)) (fun _ _ => kget r (m / 2)) (m % 2)) = _
      have h2 : m % 2 = 0 ∨ m % 2 = 1 := by omega
      rcases h2 with h2 | h2
      · rw [h2, if_pos (by omega), show (m + 1) / 2 = m / 2 by omega]; exact ihl _
      · rw [h2, if_neg (by omega), show (m + 1) / 2 - 1 = m / 2 by omega]; exact ihr _
theorem kput_eq {α : Type} (x : α) : ∀ (f : Nat) (t : Tr α) (n : Nat), kput f t n x = Tr.put f t n x := by
  intro f
  induction f with
  | zero => intro t n; cases t <;> rfl
  | succ f ih =>
    intro t n
    have h2 : ∀ m : Nat, m % 2 = 0 ∨ m % 2 = 1 := fun m => by omega
    cases t with
    | leaf =>
      cases n with
      | zero => rfl
      | succ m =>
        show (Nat.rec (motive := fun _ => Tr α) (.node (kput f .leaf (m / 2) x) none .leaf) (fun _ _ => .node .leaf none (kput f .leaf (m / 2) x)) (m % 2)) = _
        simp only [Tr.put]
        rw [beq_false (show ¬ m + 1 = 0 by omega)]
        rcases h2 m with h2 | h2
        · rw [h2, beq_true (show (m + 1) % 2 = 1 by omega), show (m + 1) / 2 = m / 2 by omega, ih]; rfl
        · rw [h2, beq_false (show ¬ (m + 1) % 2 = 1 by omega), show (m + 1) / 2 - 1 = m / 2 by omega, ih]; rfl
    | node l v r =>
      cases n with
      | zero => rfl
      | succ m =>
        show (Nat.rec (motive := fun _ => Tr α) (.node (kput f l (m / 2) x) v r) (fun _ _ => .node l v (kput f r (m / 2) x)) (m % 2)) = _
        rw [ih, ih]
        simp only [Tr.put]
        rw [beq_false (show ¬ m + 1 = 0 by omega)]
        rcases h2 m with h2 | h2
        · rw [h2, beq_true (show (m + 1) % 2 = 1 by omega), show (m + 1) / 2 = m / 2 by omega]; rfl
        · rw [h2, beq_false (show ¬ (m + 1) % 2 = 1 by omega), show (m + 1) / 2 - 1 = m / 2 by omega]; rfl
theorem kmod_eq {α : Type} (x : α) (t : Tr α) : ∀ n, kmod t n x = t.mod n x := by
  induction t with
  | leaf => intro n; rfl
  | node l v r ihl ihr =>
    intro n
    simp only [Tr.mod]
    cases n with
    | zero => rfl
    | succ m =>
      show (Nat.rec (motive := fun _ => Tr α) (.node (kmod l (m / 2) x) v r) (fun _ _ => .node l v (kmod r (m / 2) x)) (m % 2)) = _
      have h2 : m % 2 = 0 ∨ m % 2 = 1 := by omega
      rw [beq_false (show ¬ m + 1 = 0 by omega)]
      rcases h2 with h2 | h2
      · rw [h2, beq_true (show (m + 1) % 2 = 1 by omega), show (m + 1) / 2 = m / 2 by omega, ← ihl]; rfl
      · rw [h2, beq_false (show ¬ (m + 1) % 2 = 1 by omega), show (m + 1) / 2 - 1 = m / 2 by omega, ← ihr]; rfl
noncomputable def kbind {α β : Type} (m : M α) (f : α → M β) : M β := fun s =>
  Option.rec (motive := fun _ => Option (β × St)) none (fun p => Prod.rec (motive := fun _ => Option (β × St)) (fun a s1 => f a s1) p) (m s)
theorem kbind_eq {α β : Type} : @kbind α β = @M.bind α β := by
  funext m f s
  unfold kbind M.bind
  cases m s with
  | none => rfl
  | some p => cases p; rfl
section
variable {α : Type}
noncomputable def kload (b i : Nat) (ih : Value → St → Option (α × St)) (s : St) : Option (α × St) :=
  St.rec (motive := fun _ => Option (α × St)) (fun h nx rd wr =>
    Option.rec (motive := fun _ => Option (α × St)) none (fun x => Blk.rec (motive := fun _ => Option (α × St))
      (fun c _ _ _ => Option.rec (motive := fun _ => Option (α × St)) none (fun y => Option.rec (motive := fun _ => Option (α × St)) none (fun v => ih v ⟨h, nx, (b, i + 2) :: rd, wr⟩) y) c[i]?)
      (fun _ => none) x) (kget h b)) s
noncomputable def kshape (b : Nat) (ih : Nat → TypeId → Nat → St → Option (α × St)) (s : St) : Option (α × St) :=
  St.rec (motive := fun _ => Option (α × St)) (fun h nx rd wr =>
    Option.rec (motive := fun _ => Option (α × St)) none (fun x => Blk.rec (motive := fun _ => Option (α × St))
      (fun c e kd _ => ih c.length e kd ⟨h, nx, (b, 0) :: rd, wr⟩) (fun _ => none) x) (kget h b)) s
noncomputable def kstore (b i : Nat) (v : Value) (ih : St → Option (α × St)) (s : St) : Option (α × St) :=
  St.rec (motive := fun _ => Option (α × St)) (fun h nx rd wr =>
    Option.rec (motive := fun _ => Option (α × St)) none (fun x => Blk.rec (motive := fun _ => Option (α × St))
      (fun c e kd sp => Option.rec (motive := fun _ => Option (α × St)) none (fun y => Option.rec (motive := fun _ => Option (α × St)) none
        (fun _ => bif Nat.ble 1 kd && oneCell v then ih ⟨kmod h b (.cells (c.set i (some v)) e kd sp), nx, (b, i + 2) :: (b, 0) :: rd, (b, i + 2) :: wr⟩ else none) y) c[i]?)
      (fun _ => none) x) (kget h b)) s
noncomputable def knew (x : Blk) (ih : Nat → St → Option (α × St)) (s : St) : Option (α × St) :=
  St.rec (motive := fun _ => Option (α × St)) (fun h nx rd wr =>
    Option.rec (motive := fun _ => Option (α × St)) (bif Nat.blt nx 1000000000000 then ih nx ⟨kput 60 h nx x, nx + 1, rd, wr⟩ else none) (fun _ => none) (kget h nx)) s
noncomputable def kgetObj (b : Nat) (ih : Obj → St → Option (α × St)) (s : St) : Option (α × St) :=
  St.rec (motive := fun _ => Option (α × St)) (fun h nx rd wr =>
    Option.rec (motive := fun _ => Option (α × St)) none (fun x => Blk.rec (motive := fun _ => Option (α × St))
      (fun _ _ _ _ => none) (fun o => ih o ⟨h, nx, (b, 0) :: rd, wr⟩) x) (kget h b)) s
noncomputable def ksetObj (b : Nat) (o : Obj) (ih : St → Option (α × St)) (s : St) : Option (α × St) :=
  St.rec (motive := fun _ => Option (α × St)) (fun h nx rd wr =>
    Option.rec (motive := fun _ => Option (α × St)) none (fun x => Blk.rec (motive := fun _ => Option (α × St))
      (fun _ _ _ _ => none) (fun _ => ih ⟨kmod h b (.obj o), nx, (b, 0) :: rd, (b, 0) :: wr⟩) x) (kget h b)) s
noncomputable def krun (t : AT α) : St → Option (α × St) :=
  AT.rec (motive := fun _ => St → Option (α × St)) (fun a s => some (a, s)) (fun _ => none)
    (fun b i _ ih => kload b i ih) (fun b _ ih => kshape b ih) (fun b i v _ ih => kstore b i v ih) (fun b off k _ => (AT.take b off k).run)
    (fun x _ ih => knew x ih) (fun b _ ih => kgetObj b ih) (fun b o _ ih => ksetObj b o ih) t
theorem krun_at (t : AT α) : ∀ s, krun t s = t.run s := by
  induction t with
  | ret a => intro s; rfl
  | fail => intro s; rfl
  | load b i k ih =>
    rintro ⟨h, nx, rd, wr⟩
    show kload b i (fun v => krun (k v)) ⟨h, nx, rd, wr⟩ = _
    simp only [kload, AT.run]
    rw [kget_eq]
    cases h.get b with
    | none => rfl
    | some x =>
      cases x with
      | obj o => rfl
      | cells c e kd sp =>
        dsimp only
        cases c[i]? with
        | none => rfl
        | some y =>
          cases y with
          | none => rfl
          | some v => exact ih v _
  | shape b k ih =>
    rintro ⟨h, nx, rd, wr⟩
    show kshape b (fun n e kd => krun (k n e kd)) ⟨h, nx, rd, wr⟩ = _
    simp only [kshape, AT.run]
    rw [kget_eq]
    cases h.get b with
    | none => rfl
    | some x =>
      cases x with
      | obj o => rfl
      | cells c e kd sp => exact ih _ _ _ _
  | store b i v k ih =>
    rintro ⟨h, nx, rd, wr⟩
    show kstore b i v (krun k) ⟨h, nx, rd, wr⟩ = _
    simp only [kstore, AT.run]
    rw [kget_eq]
    cases h.get b with
    | none => rfl
    | some x =>
      cases x with
      | obj o => rfl
      | cells c e kd sp =>
        dsimp only
        cases c[i]? with
        | none => rfl
        | some y =>
          cases y with
          | none => rfl
          | some u =>
            dsimp only
            rw [kmod_eq]
            cases Nat.ble 1 kd && oneCell v with
            | false => rfl
            | true => exact ih _
  | take b off k ih => intro s; rfl
  | new x k ih =>
    rintro ⟨h, nx, rd, wr⟩
    show knew x (fun n => krun (k n)) ⟨h, nx, rd, wr⟩ = _
    simp only [knew, AT.run]
    rw [kget_eq]
    cases h.get nx with
    | some x => rfl
    | none =>
      dsimp only
      rw [kput_eq]
      cases Nat.blt nx 1000000000000 with
      | false => rfl
      | true => exact ih _ _
  | getObj b k ih =>
    rintro ⟨h, nx, rd, wr⟩
    show kgetObj b (fun o => krun (k o)) ⟨h, nx, rd, wr⟩ = _
    simp only [kgetObj, AT.run]
    rw [kget_eq]
    cases h.get b with
    | none => rfl
    | some x =>
      cases x with
      | cells c e kd sp => rfl
      | obj o => exact ih _ _
  | setObj b o k ih =>
    rintro ⟨h, nx, rd, wr⟩
    show ksetObj b o (krun k) ⟨h, nx, rd, wr⟩ = _
    simp only [ksetObj, AT.run]
    rw [kget_eq]
    cases h.get b with
    | none => rfl
    | some x =>
      cases x with
      | cells c e kd sp => rfl
      | obj o' => dsimp only; rw [kmod_eq]; exact ih _
end
theorem krun_eq {α : Type} : @krun α = @AT.run α := by
  funext t s
  exact krun_at t s
end Go.Proofs.YtndjhcmgngnfbaaGreatDoor.AM
end
