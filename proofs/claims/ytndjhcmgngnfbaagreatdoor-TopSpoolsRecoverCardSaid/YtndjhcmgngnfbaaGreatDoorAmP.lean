/- What the evaluator answers, the model's machine comes to, on every tape. First part: operations and regions. No condition. -/
import Derived.Test.YtndjhcmgngnfbaaGreatDoorAmO
import Derived.RangeFuncLeaves
import Derived.RangeFuncNested
import Derived.LoopNIn
set_option linter.unusedSimpArgs false
set_option linter.unusedVariables false
set_option linter.all false
namespace Go.Proofs.YtndjhcmgngnfbaaGreatDoor.AM
open Go Go.RowKit
def GlobOk (G : List Nat) (μ : Mp) : Prop := ∀ g ∈ G, ∃ e, μ g = some e ∧ e.b = g ∧ e.o = 0
theorem GlobOk.ext {G : List Nat} {μ ν : Mp} (h : GlobOk G μ) (hx : Ext μ ν) : GlobOk G ν := fun g hg => let ⟨e, h1, h2, h3⟩ := h g hg; ⟨e, hx _ _ h1, h2, h3⟩
inductive DefsR (μ : Mp) : List Deferred → List Deferred → Prop
  | nil : DefsR μ [] []
  | mark (D : Nat) (e : Ent) (l l' : List Deferred) : μ D = some e → DefsR μ l l' → DefsR μ (⟨.collected D, #[]⟩ :: l) (⟨.collected e.b, #[]⟩ :: l')
  | func (d d' : Deferred) (l l' : List Deferred) : DR μ d d' → DefsR μ l l' → DefsR μ (d :: l) (d' :: l')
theorem DR.ext {μ ν : Mp} (hx : Ext μ ν) {d d' : Deferred} (h : DR μ d d') : DR ν d d' := by
  cases h with
  | func f c c' a a' h1 h2 => exact .func f c c' a a' (h1.ext hx) (h2.ext hx)
theorem DefsR.ext {μ ν : Mp} (hx : Ext μ ν) {l l' : List Deferred} (h : DefsR μ l l') : DefsR ν l l' := by
  induction h with
  | nil => exact .nil
  | mark D e l l' h1 _ ih => exact .mark D e l l' (hx _ _ h1) ih
  | func d d' l l' h1 _ ih => exact .func d d' l l' (h1.ext hx) ih
structure ActR (μ : Mp) (A a : Act) : Prop where
  tmps : VRs μ A.tmps.toList a.tmps.toList
  defs : DefsR μ A.defers a.defers
theorem ActR.ext {μ ν : Mp} (hx : Ext μ ν) {A a : Act} (h : ActR μ A a) : ActR ν A a := ⟨h.tmps.ext hx, h.defs.ext hx⟩
theorem undefR (μ : Mp) : VR μ undef undef := .tuple _ _ .nil
theorem VRs.getD {μ : Mp} {xs ys : Array Value} (h : VRs μ xs.toList ys.toList) (t : Nat) : VR μ (xs.getD t undef) (ys.getD t undef) := by
  simp only [Array.getD_eq_getD_getElem?]
  rcases h.get t with ⟨h1, h2⟩ | ⟨v, v', h1, h2, h3⟩
  · rw [Array.getElem?_toList] at h1 h2
    rw [h1, h2]; exact undefR μ
  · rw [Array.getElem?_toList] at h1 h2
    rw [h1, h2]; exact h3
theorem ActR.put {μ : Mp} {A a : Act} (h : ActR μ A a) (d : Option Tmp) {v v' : Value} (hv : VR μ v v') : ActR μ (A.put d v) (a.put d v') := by
  cases d with
  | none => exact h
  | some d => exact ⟨by simpa [Act.put] using h.tmps.set hv d, h.defs⟩
theorem ActR.eval {μ : Mp} {G : List Nat} {A a : Act} (h : ActR μ A a) (hG : GlobOk G μ) {o : Oper} (ho : opOk G o = true) : ∀ x ∈ o.op.operands.toList, VR μ (A.eval x) (a.eval x) := by
  intro x hx
  unfold opOk at ho
  rw [List.all_eq_true] at ho
  have := ho x hx
  cases x with
  | tmp t => exact h.tmps.getD t
  | const v => exact plain_refl μ this
  | global g =>
    obtain ⟨e, h1, h2, h3⟩ := hG g (by simpa using this)
    have := VR.ptr (μ := μ) g 0 e h1
    rw [h2, h3] at this
    exact this
  | func f => exact .func _ _ _ _ _ (fun l hl => by cases hl) .nil .nil
theorem yielded_eq {μ : Mp} {A a : Act} (h : ActR μ A a) (ops : Array Oper) : yielded ops a.tmps = yielded ops A.tmps := by
  funext j
  unfold yielded
  cases hd : (ops[j]?).bind (·.dst) with
  | none => rfl
  | some t =>
    simp only [Option.bind_some]
    rcases h.tmps.get t with ⟨h1, h2⟩ | ⟨v, v', h1, h2, h3⟩
    · rw [Array.getElem?_toList] at h1 h2
      rw [h1, h2]
    · rw [Array.getElem?_toList] at h1 h2
      rw [h1, h2]
      cases h3 <;> rfl
/-- The fence: the wide one; in a round, the round's. -/
def FenceR (inR : Option Nat) (μ : Mp) (F : Fence) : Prop :=
  match inR with
  | none => F = Fence.wide
  | some l => ∃ e, μ l = some e ∧ F = Fence.wide.inRound e.b
theorem FenceR.ext {inR : Option Nat} {μ ν : Mp} {F : Fence} (h : FenceR inR μ F) (hx : Ext μ ν) : FenceR inR ν F := by
  cases inR with
  | none => exact h
  | some l => obtain ⟨e, h1, h2⟩ := h; exact ⟨e, hx _ _ h1, h2⟩
theorem FenceR.fn {inR : Option Nat} {μ : Mp} {F : Fence} (h : FenceR inR μ F) (f : FuncId) : F.fn f := by
  cases inR with
  | none => have h : F = Fence.wide := h; subst h; trivial
  | some l => obtain ⟨e, h1, rfl⟩ := h; trivial
theorem FenceR.depth {inR : Option Nat} {μ : Mp} {F : Fence} (h : FenceR inR μ F) : F.depth = none := by
  cases inR with
  | none => have h : F = Fence.wide := h; subst h; rfl
  | some l => obtain ⟨e, h1, rfl⟩ := h; rfl
theorem FenceR.inRound {inR : Option Nat} {μ : Mp} {F : Fence} (h : FenceR inR μ F) (l : Nat) : F.inRound l = Fence.wide.inRound l := by
  cases inR with
  | none => have h : F = Fence.wide := h; subst h; rfl
  | some k => obtain ⟨e, h1, rfl⟩ := h; rfl
theorem FenceR.calls {inR : Option Nat} {μ : Mp} {F : Fence} (h : FenceR inR μ F) {P : Program} {f : FuncId} {args : Array Value} {w : World} {R : Ending → World → Prop} (hc : CallsIn Fence.wide 0 P f args w R) : CallsIn F (0 - 1) P f args w R := by
  cases inR with
  | none => have h : F = Fence.wide := h; subst h; exact hc
  | some l => obtain ⟨e, h1, rfl⟩ := h; exact hc
section
variable (E : Env) (G : List Nat) (N : Nat) (w0 : World)
/-- What is known when code has been left. -/
def CPost (μ : Mp) (e : Exit) (A : Act) (h : Tr Blk) : Exit → Act → World → Prop :=
  fun e2 b2 w2 => e2 = e ∧ ∃ ν, Ext μ ν ∧ SR ν N w0 h w2 ∧ ActR ν A b2
def VPost (μ : Mp) (v : Value) (h : Tr Blk) : Ending → World → Prop :=
  fun e w2 => ∃ v' ν, e = .returned v' ∧ Ext μ ν ∧ SR ν N w0 h w2 ∧ VR ν v v'
/-- A body in whose labels jumps may end, at most so many of them. -/
def scopedIn (F : Fence) (P : Program) (body : Code) (Q : Exit → Act → World → Prop) : Nat → Code → Act → World → Prop
  | 0, _, _, _ => False
  | m + 1, c, a, w => c.wpIn F 0 P (fun e a w => match e with
    | .goto l => match findLabel body l with
      | some rest => scopedIn F P body Q m rest a w
      | none => Q (.goto l) a w
    | e => Q e a w) a w
structure RSound (n : Nat) (r : Recs) : Prop where
  call : ∀ f args s v s', r.call f args s = some (v, s') → ∀ μ args' w, SR μ N w0 s.h w → GlobOk G μ → VRs μ args.toList args'.toList → CallsIn Fence.wide 0 E.P f args' w (VPost N w0 μ v s'.h)
  code : ∀ inR c a s e a' s', r.code inR c a s = some ((e, a'), s') → ∀ μ b w F, FenceR inR μ F → SR μ N w0 s.h w → GlobOk G μ → ActR μ a b → c.wpIn F 0 E.P (CPost N w0 μ e a' s'.h) b w
  loop : ∀ inR c a s e a' s', r.code inR (.loop c) a s = some ((e, a'), s') → ∀ μ b w F, FenceR inR μ F → SR μ N w0 s.h w → GlobOk G μ → ActR μ a b → Code.roundsIn F 0 E.P c (CPost N w0 μ e a' s'.h) n b w
  scp : ∀ inR sb c a s e a' s', r.scp inR sb c a s = some ((e, a'), s') → ∀ μ b w F, FenceR inR μ F → SR μ N w0 s.h w → GlobOk G μ → ActR μ a b → scopedIn F E.P sb (CPost N w0 μ e a' s'.h) n c b w
variable {E G N w0}
theorem CPost.ext {μ ν : Mp} (hx : Ext μ ν) {e : Exit} {A : Act} {h : Tr Blk} {e2 : Exit} {b2 : Act} {w2 : World} (hp : CPost N w0 ν e A h e2 b2 w2) : CPost N w0 μ e A h e2 b2 w2 := by
  obtain ⟨h1, ξ, h2, h3, h4⟩ := hp
  exact ⟨h1, ξ, hx.trans h2, h3, h4⟩
theorem CPost.mk' {μ : Mp} {e : Exit} {A b : Act} {h : Tr Blk} {w : World} (hs : SR μ N w0 h w) (ha : ActR μ A b) : CPost N w0 μ e A h e b w := ⟨rfl, μ, .refl _, hs, ha⟩
theorem bind_some {α β : Type} {m : M α} {f : α → M β} {s : St} {b : β} {s' : St} (h : M.bind m f s = some (b, s')) : ∃ a s1, m s = some (a, s1) ∧ f a s1 = some (b, s') := by
  simp only [M.bind] at h
  cases h1 : m s with
  | none => rw [h1] at h; cases h
  | some p => obtain ⟨a, s1⟩ := p; rw [h1] at h; exact ⟨a, s1, rfl, h⟩
theorem sim_begin {P : Program} {l : Nat} {e : Ent} {μ : Mp} (he : μ l = some e) : Sim P N w0 (fun _ _ _ => True) μ (beginT l) (Instr.beginRound e.b) := by
  unfold beginT
  refine Sim.congr (s' := Go.getObj e.b >>= fun o => match o with
    | .loop r => Go.setObj e.b (.loop { r with state := .busy }) >>= fun _ => match r.state with
        | .ready => pure ()
        | .done => runtimePanic (.error "range function continued iteration after function for loop body returned false")
        | .busy => runtimePanic (.error "range function continued iteration after loop body panic")
        | .exhausted => runtimePanic (.error "range function continued iteration after whole loop exit")
    | _ => stuck "range over a function: no such loop") (fun w => ?_) ?_
  · unfold Instr.beginRound Instr.getLoop
    simp only [Sem.run_bind]
    cases hr : (Go.getObj e.b).run P w with
    | halt _ _ => rfl
    | ok o w' => cases o <;> first | rfl | (simp [Sem.run_bind]; done) | (simp only [Result.andThen_ok, Sem.run_bind, Sem.run_pure]; rfl)
  · refine Sim.getObj he fun o o' ho _ => ?_
    cases ho with
    | loop r r' ed h1 h2 h3 h4 h5 h6 h7 h8 =>
      dsimp only
      cases hst : r.state <;> first
        | exact Sim.fail
        | (rw [← h1, hst]
           exact Sim.setObj he (.loop _ _ ed rfl h2 h3 h4 h5 h6 h7 h8) (Sim.ret trivial))
    | _ => exact Sim.fail
theorem sim_end {P : Program} {l : Nat} {e : Ent} {μ : Mp} (he : μ l = some e) (jump : Option Code) : Sim P N w0 VR μ (endT l jump) (Instr.endRound e.b jump) := by
  unfold endT
  refine Sim.congr (s' := Go.getObj e.b >>= fun o => match o with
    | .loop r => Go.setObj e.b (.loop { r with state := if jump.isNone then .ready else .done, pending := jump }) >>= fun _ => pure (.bool jump.isNone)
    | _ => stuck "range over a function: no such loop") (fun w => ?_) ?_
  · unfold Instr.endRound Instr.getLoop
    simp only [Sem.run_bind]
    cases hr : (Go.getObj e.b).run P w with
    | halt _ _ => rfl
    | ok o w' => cases o <;> first | rfl | (simp [Sem.run_bind]; done)
  · refine Sim.getObj he fun o o' ho _ => ?_
    cases ho with
    | loop r r' ed h1 h2 h3 h4 h5 h6 h7 h8 => exact Sim.setObj he (.loop _ _ ed rfl rfl h3 h4 h5 h6 h7 h8) (Sim.ret (.bool _))
    | _ => exact Sim.fail
theorem sim_endLoop {P : Program} {l : Nat} {e : Ent} {μ : Mp} (he : μ l = some e) : Sim P N w0 (fun _ a b => a = b) μ (endLoopT l) (Instr.endLoop e.b) := by
  unfold endLoopT
  refine Sim.congr (s' := Go.getObj e.b >>= fun o => match o with
    | .loop r => if (r.state == .busy) = true then runtimePanic (.error "range function recovered a loop body panic and did not resume panicking") else Go.setObj e.b (.loop { r with state := .exhausted }) >>= fun _ => pure r.pending
    | _ => stuck "range over a function: no such loop") (fun w => ?_) ?_
  · unfold Instr.endLoop Instr.getLoop
    simp only [Sem.run_bind]
    cases hr : (Go.getObj e.b).run P w with
    | halt _ _ => rfl
    | ok o w' =>
      cases o with
      | loop r =>
        simp only [Result.andThen_ok, Sem.run_pure]
        cases hst : r.state <;> simp [hst, runtimePanic]
      | _ => simp [Result.andThen]
  · refine Sim.getObj he fun o o' ho _ => ?_
    cases ho with
    | loop r r' ed h1 h2 h3 h4 h5 h6 h7 h8 =>
      dsimp only
      cases hst : r.state <;> first
        | exact Sim.fail
        | (rw [← h1, hst]
           simp only [beq_iff_eq, reduceCtorEq, if_false]
           exact Sim.setObj he (.loop _ _ ed rfl h2 h3 h4 h5 h6 h7 h8) (Sim.ret h2))
    | _ => exact Sim.fail
theorem sim_take {P : Program} {D : Nat} {e : Ent} {μ : Mp} (he : μ D = some e) : Sim P N w0 (fun _ _ b => b = []) μ (takeT D) (Instr.takeDeferred e.b) := by
  unfold takeT
  refine Sim.congr (s' := Go.getObj e.b >>= fun o => match o with
    | .deferred (some ds) => Go.setObj e.b (.deferred none) >>= fun _ => pure ds
    | _ => stuck "range over a function: the deferred calls have been taken") (fun w => ?_) ?_
  · unfold Instr.takeDeferred
    simp only [Sem.run_bind]
    cases hr : (Go.getObj e.b).run P w with
    | halt _ _ => rfl
    | ok o w' =>
      cases o with
      | deferred q => cases q <;> first | rfl | (simp [Sem.run_bind]; done)
      | _ => simp [Result.andThen]
  · refine Sim.getObj he fun o o' ho _ => ?_
    cases ho with
    | deferred => exact Sim.setObj he .taken (Sim.ret rfl)
    | _ => exact Sim.fail
/-! ### A round -/
theorem round_sound (_hE : EnvOk E) {n : Nat} {r : Recs} (hr : RSound E G N w0 n r) {l : Nat} {tmps : Array Value} {x y : Code} {s s' : St} {v : Value} (h : roundM r l tmps x y s = some (v, s')) {μ : Mp} {e : Ent} (he : μ l = some e) {tmps' : Array Value} {fn : FuncId} {w : World}
    {inR : Option Nat} {F : Fence} (hF : FenceR inR μ F) (hs : SR μ N w0 s.h w) (hG : GlobOk G μ) (ht : VRs μ tmps.toList tmps'.toList) : RoundIn F (0 - 1) E.P e.b fn tmps' x y w (VPost N w0 μ v s'.h) := by
  unfold roundM at h
  obtain ⟨⟨ex, a1⟩, s1, h1, h⟩ := bind_some h
  refine roundIn_of_wpIn (hF.fn fn) ?_
  rw [hF.inRound]
  have hw := hr.code (some l) x ⟨tmps, []⟩ s ex a1 s1 h1 μ ⟨tmps', []⟩ w _ ⟨e, he, rfl⟩ hs hG ⟨ht, .nil⟩
  refine wpIn_mono hw ?_
  rintro ex2 b2 w2 ⟨rfl, ν, hx, hs2, ha2⟩
  cases ex2 with
  | normal =>
    obtain ⟨_, s2, h2, h⟩ := bind_some h
    obtain ⟨⟨ey, a3⟩, s3, h3, h⟩ := bind_some h
    obtain ⟨ξ, w3, _, hx3, hrun3, hs3, _⟩ := sim_begin (P := E.P) (hx _ _ he) s1 w2 () s2 h2 hs2
    have hxx := hx.trans hx3
    have hw2 := hr.code (some l) y a1 s2 ey a3 s3 h3 ξ b2 w3 (Fence.wide.inRound e.b) ⟨e, hxx _ _ he, rfl⟩ hs3 (hG.ext hxx) (ha2.ext hx3)
    refine ⟨w3, hrun3, wpIn_mono hw2 ?_⟩
    rintro ez b4 w4 ⟨rfl, ζ, hx4, hs4, ha4⟩
    have hxx4 := hxx.trans hx4
    have fin : ∀ jump, (endT l jump).run s3 = some (v, s') → ∃ v' w', (Instr.endRound e.b jump).run E.P w4 = .ok v' w' ∧ VPost N w0 μ v s'.h (.returned v') w' := by
      intro jump hj
      obtain ⟨κ, w5, v', hx5, hrun5, hs5, hv5⟩ := sim_end (P := E.P) (hxx4 _ _ he) jump s3 w4 v s' hj hs4
      exact ⟨v', w5, hrun5, v', κ, rfl, hxx4.trans hx5, hs5, hv5⟩
    cases ez with
    | normal => exact fin none h
    | ret => exact fin (some .ret) h
    | exit id => exact fin (some (.exit id)) h
    | goto t => exact fin (some (.goto t)) h
    | panic c => cases h
    | outgrown => cases h
  | exit id => cases h
  | goto t => cases h
  | ret => cases h
  | panic c => cases h
  | outgrown => cases h
/-! ### An operation -/
theorem deferT_defer {c : Call} {ρ : Operand → Value} {s s' : St} {n : AN} (h : (deferT c ρ).run s = some (n, s')) : ∃ d, n = .defer d := by
  unfold deferT at h
  cases hc : c.callee with
  | builtin b => rw [hc] at h; cases h
  | invoke r m => rw [hc] at h; cases h
  | value f =>
    rw [hc] at h
    dsimp only at h
    cases hv : ρ f with
    | func fn fi ca =>
      rw [hv] at h
      cases fn with
      | func g => cases h; exact ⟨_, rfl⟩
      | _ => cases h
    | _ => rw [hv] at h; cases h
theorem valOp_noDefer {r : Recs} {ops : Array Oper} {i : Nat} {a : Act} {s s' : St} {v : Value} {o : Oper} (h : valOp E G r ops i a s = some (v, s')) (ho : ops[i]? = some o) (hw : Region.wanted o (yielded ops a.tmps) = true) : ∀ c, o.op ≠ .defer c := by
  intro c hc
  unfold valOp at h
  rw [ho] at h
  dsimp only at h
  rw [hw, cond_true] at h
  cases hok : opOk G o with
  | false => rw [hok] at h; cases h
  | true =>
    rw [hok, cond_true] at h
    obtain ⟨n, s1, h1, h2⟩ := bind_some h
    unfold opT at h1
    rw [hc] at h1
    obtain ⟨d, rfl⟩ := deferT_defer h1
    cases h2
theorem step_sound (hE : EnvOk E) {n : Nat} {r : Recs} (hr : RSound E G N w0 n r) {ops : Array Oper} {i : Nat} {a b : Act} {s s' : St} {v : Value} (h : valOp E G r ops i a s = some (v, s')) {μ : Mp} {w : World} {inR : Option Nat} {F : Fence} (hF : FenceR inR μ F)
    (hs : SR μ N w0 s.h w) (hG : GlobOk G μ) (ha : ActR μ a b) {K : Act → World → Prop} {Q : Exit → Act → World → Prop} (hK : ∀ ν b' w', Ext μ ν → SR ν N w0 s'.h w' → ActR ν (a.put (dstOf ops i) v) b' → K b' w') : wpOpIn F 0 E.P ops Q i K b w := by
  have h0 := h
  unfold valOp at h
  unfold wpOpIn
  cases ho : ops[i]? with
  | none => rw [ho] at h; cases h
  | some o =>
    have hd : dstOf ops i = o.dst := by simp [dstOf, ho]
    rw [ho] at h
    dsimp only at h ⊢
    rw [yielded_eq ha ops]
    cases hw : Region.wanted o (yielded ops a.tmps) with
    | false =>
      rw [hw] at h
      cases h
      simp only [Bool.false_eq_true, if_false]
      exact ⟨fun f _ => hF.fn f, hK μ _ w (.refl _) hs (by rw [hd]; exact ha.put _ (undefR μ))⟩
    | true =>
      rw [hw, cond_true] at h
      simp only [if_true]
      cases hok : opOk G o with
      | false => rw [hok] at h; cases h
      | true =>
        rw [hok, cond_true] at h
        obtain ⟨an, s1, h1, h2⟩ := bind_some h
        have hρ := ha.eval hG hok
        obtain ⟨ν, w1, n', hx, hrun, hs1, hn⟩ := sim_op (N := N) (w0 := w0) hE o hρ s w an s1 h1 hs
        refine ⟨fun f _ => hF.fn f, ?_⟩
        rw [Oper.semAt_eq _ _ _ (valOp_noDefer h0 ho hw), hrun]
        have hdep : F.depth.isSome = true → 1 ≤ 0 := fun hh => by rw [hF.depth] at hh; cases hh
        have fin : ∀ (ξ : Mp) v' w', Ext ν ξ → SR ξ N w0 s'.h w' → VR ξ v v' → K (b.put o.dst v') w' := fun ξ v' w' hx' hs' hv' =>
          hK ξ _ w' (hx.trans hx') hs' (by rw [hd]; exact (ha.ext (hx.trans hx')).put _ hv')
        cases hn with
        | value u u' hu => cases h2; exact fin ν u' w1 (.refl _) hs1 hu
        | skip => cases h2; exact fin ν undef w1 (.refl _) hs1 (undefR ν)
        | enter f ar ar' har =>
          refine ⟨hdep, ?_⟩
          have hc := hr.call f ar s1 v s' h2 ν ar' w1 hs1 (hG.ext hx) har
          refine (hF.calls hc).mono ?_
          rintro e w2 ⟨v', ξ, rfl, hx2, hs2, hv2⟩
          exact fin ξ v' w2 hx2 hs2 hv2
        | defer d d' hd' => cases h2
        | round l e fn t t' x y he ht =>
          refine ⟨hdep, ?_⟩
          refine (round_sound hE hr (fn := fn) h2 he (hF.ext hx) hs1 (hG.ext hx) ht).mono ?_
          rintro e2 w2 ⟨v', ξ, rfl, hx2, hs2, hv2⟩
          exact fin ξ v' w2 hx2 hs2 hv2
/-! ### Operations in the order of the text -/
theorem isDefer_some {o? : Option Oper} {o : Oper} {c : Call} (h : isDefer o? = some (o, c)) : o? = some o ∧ o.op = .defer c := by
  unfold isDefer at h
  cases o? with
  | none => cases h
  | some q =>
    dsimp only at h
    cases hq : q.op <;> rw [hq] at h <;> cases h
    exact ⟨rfl, hq⟩
theorem seq_sound (hE : EnvOk E) {n : Nat} {r : Recs} (hr : RSound E G N w0 n r) {ops : Array Oper} {inR : Option Nat} {F : Fence} : ∀ (l : List Nat) (a b : Act) (s : St) (a' : Act) (s' : St) (μ : Mp) (w : World), seqOps E G r inR ops l a s = some (a', s') → FenceR inR μ F → SR μ N w0 s.h w → GlobOk G μ → ActR μ a b →
    wpOpsIn F 0 E.P ops (CPost N w0 μ .normal a' s'.h) l b w := by
  intro l
  induction l with
  | nil => intro a b s a' s' μ w h hF hs hG ha; cases h; exact CPost.mk' hs ha
  | cons i l ih =>
    intro a b s a' s' μ w h hF hs hG ha
    rw [wpOpsIn_cons]
    simp only [seqOps] at h
    cases hd : isDefer ops[i]? with
    | none =>
      rw [hd] at h
      obtain ⟨v, s1, h1, h2⟩ := bind_some h
      refine step_sound hE hr h1 hF hs hG ha fun ν b' w' hx hs' ha' => ?_
      have := ih _ b' s1 a' s' ν w' h2 (hF.ext hx) hs' (hG.ext hx) ha'
      -- the posts agree
      revert this
      generalize hL : l = L
      intro this
      exact wpOpsIn_mono' (fun e2 b2 w2 hp => CPost.ext hx hp) L b' w' this
    | some q =>
      obtain ⟨o, c⟩ := q
      rw [hd] at h
      obtain ⟨ho, hop⟩ := isDefer_some hd
      dsimp only at h
      cases hg : Region.wanted o (yielded ops a.tmps) && opOk G o && inR.isNone with
      | false => rw [hg] at h; cases h
      | true =>
        rw [hg, cond_true] at h
        simp only [Bool.and_eq_true] at hg
        obtain ⟨⟨g1, g2⟩, g3⟩ := hg
        obtain ⟨an, s1, h1, h2⟩ := bind_some h
        have hρ := ha.eval hG g2
        have h1' : (opT E a.eval o).run s = some (an, s1) := by unfold opT; rw [hop]; exact h1
        obtain ⟨ν, w1, n', hx, hrun, hs1, hn⟩ := sim_op (N := N) (w0 := w0) hE o hρ s w an s1 h1' hs
        obtain ⟨d, rfl⟩ := deferT_defer h1
        unfold wpOpIn
        rw [ho]
        dsimp only
        rw [yielded_eq ha ops, g1]
        simp only [if_true]
        refine ⟨fun f _ => hF.fn f, ?_⟩
        have hro : F.round = none := by
          cases inR with
          | none => have hF : F = Fence.wide := hF; subst hF; rfl
          | some l => cases g3
        rw [hro, Oper.semAt_none, hrun]
        cases hn with
        | defer _ d' hd' =>
          have ha2 : ActR ν ({ a with defers := d :: a.defers }.put o.dst undef) ({ b with defers := d' :: b.defers }.put o.dst undef) :=
            ActR.put (A := { a with defers := d :: a.defers }) (a := { b with defers := d' :: b.defers }) ⟨(ha.ext hx).tmps, .func _ _ _ _ hd' (ha.ext hx).defs⟩ _ (undefR ν)
          have := ih _ _ s1 a' s' ν w1 h2 (hF.ext hx) hs1 (hG.ext hx) ha2
          exact wpOpsIn_mono' (fun e2 b2 w2 hp => CPost.ext hx hp) l _ w1 this
where
  wpOpsIn_mono' {F : Fence} {P : Program} {ops : Array Oper} {Q Q' : Exit → Act → World → Prop} (hq : ∀ e a w, Q e a w → Q' e a w) : ∀ (l : List Nat) (a : Act) (w : World), wpOpsIn F 0 P ops Q l a w → wpOpsIn F 0 P ops Q' l a w := by
    intro l
    induction l with
    | nil => intro a w h; exact hq _ _ _ h
    | cons i l ih =>
      intro a w h
      rw [wpOpsIn_cons] at h ⊢
      unfold wpOpIn at h ⊢
      cases ho : ops[i]? with
      | none => rw [ho] at h; exact ih a w h
      | some o =>
        rw [ho] at h
        dsimp only at h ⊢
        split
        · rename_i hw
          rw [if_pos hw] at h
          refine ⟨h.1, ?_⟩
          have h2 := h.2
          generalize (o.semAt F.round a.eval).run P w = res at h2 ⊢
          cases res with
          | ok nx w' =>
            cases nx <;> simp only [Oper.uponIn] at h2 ⊢ <;> first
              | exact ih _ _ h2
              | exact ⟨h2.1, h2.2.mono fun e w'' he => by cases e <;> first | exact ih _ _ he | exact hq _ _ _ he | (obtain ⟨a, w, hh⟩ := he; exact ⟨a, w, hq _ _ _ hh⟩)⟩
              | exact ⟨h2.1, h2.2.mono fun v w'' he => ih _ _ he⟩
          | halt x w' => cases x <;> simp only [Oper.uponIn] at h2 ⊢ <;> exact hq _ _ _ h2
        · rename_i hw
          rw [if_neg hw] at h
          exact ⟨h.1, ih _ _ h.2⟩
end
end Go.Proofs.YtndjhcmgngnfbaaGreatDoor.AM
