/- What the evaluator answers, the model's machine comes to, on every tape. Third part: statements, loops over functions, calls. No condition. -/
import Derived.Test.YtndjhcmgngnfbaaGreatDoorAmQ
import Derived.RecoverIn
set_option linter.unusedSimpArgs false
set_option linter.unusedVariables false
set_option linter.all false
namespace Go.Proofs.YtndjhcmgngnfbaaGreatDoor.AM
open Go Go.RowKit
section
variable {F : Fence} {P : Program}
theorem stepR_scope {b : Frame} {a : Act} {k : List Item} {cs : List Frame} {w : World} {c : Code} : step P (lone (b.atR a (.code (.scope c) :: k)) cs w) = .next (lone (b.atR a (.code c :: .inScope c :: k)) cs w) :=
  step_lone_go (by simp [stepG, stepG.exec, Frame.atR])
theorem stepR_inScope {b : Frame} {a : Act} {k : List Item} {cs : List Frame} {w : World} {c : Code} : step P (lone (b.atR a (.inScope c :: k)) cs w) = .next (lone (b.atR a k) cs w) :=
  step_lone_go (by simp [stepG, stepG.exec, Frame.atR])
theorem wpIn_scoped {Q : Exit → Act → World → Prop} {a : Act} {w : World} {body : Code} (m : Nat) (h : scopedIn F P body Q m body a w) : (Code.scope body).wpIn F 0 P Q a w := by
  intro b k cs hro hb hr
  have key : ∀ m c a w, scopedIn F P body Q m c a w →
      ∃ e a' w', Q e a' w' ∧ ArrivesIn (Machine.fenced P F) P (lone (b.atR a (.code c :: .inScope body :: k)) cs w) b k cs e a' w' := by
    intro m
    induction m with
    | zero => intro c a w h; exact h.elim
    | succ m ih =>
      intro c a w h
      obtain ⟨e, a₁, w₁, hq, harr⟩ := h b (.inScope body :: k) cs hro hb hr
      cases e with
      | normal => exact ⟨.normal, a₁, w₁, hq, StepsIn.trans harr (.one (fenced_calm hb hr rfl) stepR_inScope)⟩
      | exit id => exact ⟨.exit id, a₁, w₁, hq, fun k' hk => harr.1 k' hk, fun hro hk => harr.2 hro hk⟩
      | goto l =>
        dsimp only at hq
        cases hf : findLabel body l with
        | some rest =>
          rw [hf] at hq
          obtain ⟨e₂, a₂, w₂, hq₂, harr₂⟩ := ih rest a₁ w₁ hq
          exact ⟨e₂, a₂, w₂, hq₂, .of_steps (harr.1 (.code rest :: .inScope body :: k) (by simp [gotoIn, hf])) harr₂⟩
        | none =>
          rw [hf] at hq
          exact ⟨.goto l, a₁, w₁, hq, fun k' hk => harr.1 k' (by simp [gotoIn, hf, hk]), fun hro hk => harr.2 hro (by simp [gotoIn, hf, hk])⟩
      | ret => exact ⟨.ret, a₁, w₁, hq, harr⟩
      | panic ch => exact ⟨.panic ch, a₁, w₁, hq, harr⟩
      | outgrown => exact ⟨.outgrown, a₁, w₁, hq, harr⟩
  obtain ⟨e, a', w', hq, harr⟩ := key m body a w h
  exact ⟨e, a', w', hq, .of_steps (.one (fenced_calm hb hr rfl) stepR_scope) harr⟩
theorem roundsIn_mono {Q Q' : Exit → Act → World → Prop} (hq : ∀ e a w, Q e a w → Q' e a w) {c : Code} : ∀ (m : Nat) (a : Act) (w : World), Code.roundsIn F 0 P c Q m a w → Code.roundsIn F 0 P c Q' m a w := by
  intro m
  induction m with
  | zero => intro a w h; exact h
  | succ m ih =>
    intro a w h
    rw [roundsIn_succ] at h ⊢
    refine wpIn_mono h fun e a w hh => ?_
    cases e <;> first | exact ih _ _ hh | exact hq _ _ _ hh
theorem scopedIn_mono {Q Q' : Exit → Act → World → Prop} (hq : ∀ e a w, Q e a w → Q' e a w) {body : Code} : ∀ (m : Nat) (c : Code) (a : Act) (w : World), scopedIn F P body Q m c a w → scopedIn F P body Q' m c a w := by
  intro m
  induction m with
  | zero => intro c a w h; exact h
  | succ m ih =>
    intro c a w h
    refine wpIn_mono h fun e a w hh => ?_
    cases e with
    | goto l =>
      dsimp only at hh ⊢
      cases hf : findLabel body l with
      | some rest => rw [hf] at hh; exact ih _ _ _ hh
      | none => rw [hf] at hh; exact hq _ _ _ hh
    | _ => exact hq _ _ _ hh
end
section
variable {E : Env} {G : List Nat} {N : Nat} {w0 : World}
/-! ### A loop over a function -/
theorem sim_enterLoop {P : Program} {inR : Option Nat} {μ : Mp} {F : Fence} (hF : FenceR inR μ F) (fn : FuncId) {t t' : Array Value} (ht : VRs μ t.toList t'.toList) (ps : Array Tmp) (x y : Code) :
    Sim P N w0 (fun ν q q' => (∃ e, ν q.1 = some e ∧ q'.1 = e.b) ∧ DefsR ν q.2 q'.2) μ (enterLoopT inR t ps x y) (Instr.enterLoop fn t' ps x y F.round) := by
  unfold enterLoopT
  cases inR with
  | none =>
    have hF : F = Fence.wide := hF
    subst hF
    refine Sim.congr (s' := Go.newObj (.deferred (some [])) >>= fun r => Go.newObj (.loop { state := .ready, pending := none, fn, tmps := t', params := ps, assign := x, body := y, defers := r }) >>= fun k => pure (k, [⟨.collected r, #[]⟩])) (fun w => ?_) ?_
    · simp only [Instr.enterLoop, Fence.wide, Sem.run_bind, run_newObj, Result.andThen_ok, Sem.run_pure]
    · refine Sim.newObj .deferred fun ν D e hx he _ => ?_
      refine Sim.newObj (.loop _ _ e rfl rfl (ht.ext hx) rfl rfl rfl he rfl) fun ξ k e2 hx2 he2 _ => ?_
      exact Sim.ret ⟨⟨e2, he2, rfl⟩, .mark D e _ _ (hx2 _ _ he) .nil⟩
  | some l =>
    obtain ⟨e0, he0, rfl⟩ := hF
    refine Sim.congr (s' := Go.getObj e0.b >>= fun o => match o with
      | .loop r => Go.newObj (.loop { state := .ready, pending := none, fn, tmps := t', params := ps, assign := x, body := y, defers := r.defers }) >>= fun k => pure (k, [])
      | _ => stuck "range over a function: no such loop") (fun w => ?_) ?_
    · unfold Instr.enterLoop Instr.getLoop
      simp only [Fence.inRound, Sem.run_bind]
      cases hr : (Go.getObj e0.b).run P w with
      | halt _ _ => rfl
      | ok o w' => cases o <;> first | rfl | (simp [Sem.run_bind]; done)
    · refine Sim.getObj he0 fun o o' ho _ => ?_
      cases ho with
      | loop r r' ed h1 h2 h3 h4 h5 h6 h7 h8 =>
        refine Sim.newObj (.loop _ _ ed rfl rfl ht rfl rfl rfl h7 h8) fun ξ k e2 hx2 he2 _ => ?_
        exact Sim.ret ⟨⟨e2, he2, rfl⟩, .nil⟩
      | _ => exact Sim.fail
theorem DefsR.append {μ : Mp} {a a' b b' : List Deferred} (h : DefsR μ a a') (k : DefsR μ b b') : DefsR μ (a ++ b) (a' ++ b') := by
  induction h with
  | nil => exact k
  | mark D e l l' h1 _ ih => exact .mark D e _ _ h1 ih
  | func d d' l l' h1 _ ih => exact .func d d' _ _ h1 ih
theorem range_sound (hE : EnvOk E) {n : Nat} {r : Recs} (hr : RSound E G N w0 n r) {inR : Option Nat} {F : Fence} {f : Operand} {ps : Array Tmp} {x y : Code} {a b a' : Act} {e : Exit} {s s' : St} {μ : Mp} {w : World} (h : rangeM E G r inR f ps x y a s = some ((e, a'), s')) (hF : FenceR inR μ F) (hs : SR μ N w0 s.h w) (hG : GlobOk G μ) (ha : ActR μ a b) :
    (Code.rangeFunc f ps x y).wpIn F 0 E.P (CPost N w0 μ e a' s'.h) b w := by
  unfold rangeM at h
  cases hop : rangeOk G f with
  | false => simp only [hop] at h; cases h
  | true =>
    simp only [hop, cond_true] at h
    have hf : VR μ (a.eval f) (b.eval f) := by
      have hok : opOk G { (default : Oper) with op := .move f } = true := by simp only [opOk, Op.operands, List.all_cons, List.all_nil, Bool.and_true]; cases f <;> exact hop
      exact ha.eval hG hok f (by simp [Op.operands])
    generalize hv : a.eval f = v at h hf
    generalize hv' : b.eval f = v' at hf
    cases hf with
    | func fn fi fi' ca ca' hfn h1 h2 =>
      cases fn with
      | func g =>
        dsimp only at h
        cases hg : E.fn g with
        | none => rw [hg] at h; cases h
        | some xg =>
          rw [hg] at h
          obtain ⟨q, s1, e1, h⟩ := bind_some h
          obtain ⟨u, s2, e2, h⟩ := bind_some h
          obtain ⟨jump, s3, e3, h⟩ := bind_some h
          refine wpIn_rangeFunc fun fn _ => ?_
          obtain ⟨ν, w1, q', hx, hrun, hs1, ⟨el, hel, hql⟩, hdef⟩ := sim_enterLoop (P := E.P) hF fn ha.tmps ps x y s w q s1 e1 hs
          obtain ⟨l', mark⟩ := q'
          dsimp only at hql hdef
          subst hql
          refine ⟨el.b, mark, w1, ⟨.fn (.func g) ca', fi' ++ #[.func (.yield el.b) #[] #[]]⟩, w1, g, fi' ++ #[.func (.yield el.b) #[] #[]] ++ ca', w1, hrun, ?_, fun f' _ => hF.fn f', ?_, (by intro hh; rw [hF.depth] at hh; cases hh), ?_⟩
          · simp only [resolve, rangeCall, hv', Deferred.ofValue]
            have : Array.map b.eval #[Operand.const (Value.func (Fn.yield el.b) #[] #[])] = #[Value.func (Fn.yield el.b) #[] #[]] := by simp [Act.eval]
            rw [this]
            rfl
          · exact run_callFunc hE hg _ w1
          · have hargs : VRs ν (fi ++ #[Value.func (.yield q.1) #[] #[]] ++ ca).toList (fi' ++ #[Value.func (.yield el.b) #[] #[]] ++ ca').toList := by
              simpa using ((h1.ext hx).append (.cons _ _ _ _ (.yield q.1 el hel) .nil)).append (h2.ext hx)
            have hc := hr.call g _ s1 u s2 e2 ν _ w1 hs1 (hG.ext hx) hargs
            refine (hF.calls hc).mono ?_
            rintro en w2 ⟨u', ξ, rfl, hx2, hs2, _⟩
            have hxx := hx.trans hx2
            obtain ⟨ζ, w3, j', hx3, hrun3, hs3, hj⟩ := sim_endLoop (P := E.P) (hx2 _ _ hel) s2 w2 jump s3 e3 hs2
            have hj : jump = j' := hj
            subst hj
            have hxxx := hxx.trans hx3
            refine ⟨jump, w3, hrun3, ?_⟩
            have ha3 : ActR ζ { a with defers := q.2 ++ a.defers } { b with defers := mark ++ b.defers } := ⟨(ha.ext hxxx).tmps, (hdef.ext (hx2.trans hx3)).append (ha.ext hxxx).defs⟩
            cases jump with
            | none => cases h; exact ⟨rfl, ζ, hxxx, hs3, ha3⟩
            | some c =>
              have := hr.code inR c _ s3 e a' s' h ζ _ w3 F (hF.ext hxxx) hs3 (hG.ext hxxx) ha3
              exact wpIn_mono this fun e2 b2 w2 hp => CPost.ext hxxx hp
      | _ => cases h
    | _ => cases h
/-! ### All statements -/
theorem code_sound (hE : EnvOk E) {n : Nat} {r : Recs} (hr : RSound E G N w0 n r) (hl : RLocal r) {inR : Option Nat} {c : Code} {a b a' : Act} {e : Exit} {s s' : St} {μ : Mp} {w : World} {F : Fence} (h : codeStep E G r inR c a s = some ((e, a'), s')) (hF : FenceR inR μ F) (hs : SR μ N w0 s.h w) (hG : GlobOk G μ) (ha : ActR μ a b)
    (hloop : ∀ x, c = .loop x → Code.roundsIn F 0 E.P x (CPost N w0 μ e a' s'.h) (n + 1) b w) : c.wpIn F 0 E.P (CPost N w0 μ e a' s'.h) b w := by
  unfold codeStep at h
  cases c with
  | skip => cases h; exact wpIn_skip (CPost.mk' hs ha)
  | label l => cases h; exact wpIn_label (CPost.mk' hs ha)
  | exit id => cases h; exact wpIn_exit (CPost.mk' hs ha)
  | goto l => cases h; exact wpIn_goto (CPost.mk' hs ha)
  | ret => cases h; exact wpIn_ret (CPost.mk' hs ha)
  | refuse w => cases h
  | region id ops draw =>
    cases draw with
    | true => exact draw_sound hE hr hl h hF hs hG ha
    | false =>
      obtain ⟨a1, s1, h1, h⟩ := bind_some h
      cases h
      exact wpIn_region (seq_sound hE hr _ _ _ _ _ _ _ _ h1 hF hs hG ha)
  | seq x y =>
    obtain ⟨⟨e1, a1⟩, s1, h1, h⟩ := bind_some h
    refine wpIn_seq (wpIn_mono (hr.code inR x a s e1 a1 s1 h1 μ b w F hF hs hG ha) ?_)
    rintro e2 b2 w2 ⟨rfl, ν, hx, hs2, ha2⟩
    cases e2 with
    | normal => exact wpIn_mono (hr.code inR y a1 s1 e a' s' h ν b2 w2 F (hF.ext hx) hs2 (hG.ext hx) ha2) fun e2 b2 w2 hp => CPost.ext hx hp
    | _ => cases h; exact ⟨rfl, ν, hx, hs2, ha2⟩
  | cond x t el =>
    dsimp only at h
    have hxx : ∀ {q : Bool}, a.eval x = .bool q → condOk x = true → b.eval x = .bool q := by
      intro q hq hop
      have hv : VR μ (a.eval x) (b.eval x) := by
        have hok : opOk G { (default : Oper) with op := .move x } = true := by
          simp only [opOk, Op.operands, List.all_cons, List.all_nil, Bool.and_true]
          cases x <;> first | rfl | exact hop | cases hop
        exact ha.eval hG hok x (by simp [Op.operands])
      rw [hq] at hv
      generalize b.eval x = y at hv ⊢
      cases hv; rfl
    cases hop : condOk x with
    | false => simp only [hop] at h; cases h
    | true =>
      simp only [hop, cond_true] at h
      cases hv : a.eval x with
      | bool q =>
        rw [hv] at h
        refine wpIn_cond (t := q) (hxx hv hop) ?_
        exact hr.code inR _ a s e a' s' h μ b w F hF hs hG ha
      | _ => rw [hv] at h; cases h
  | block id x =>
    obtain ⟨⟨e1, a1⟩, s1, h1, h⟩ := bind_some h
    refine wpIn_block (wpIn_mono (hr.code inR x a s e1 a1 s1 h1 μ b w F hF hs hG ha) ?_)
    rintro e2 b2 w2 ⟨rfl, ν, hx, hs2, ha2⟩
    cases e2 with
    | exit id' =>
      cases h
      simp only [Exit.inBlock]
      by_cases hid : id' = id
      · simp only [hid, if_true]; exact ⟨rfl, ν, hx, hs2, ha2⟩
      · simp only [hid, if_false]; exact ⟨rfl, ν, hx, hs2, ha2⟩
    | _ => cases h; exact ⟨rfl, ν, hx, hs2, ha2⟩
  | loop x => exact wpIn_loop_rounds (n + 1) (hloop x rfl)
  | scope x => exact wpIn_scoped n (hr.scp inR x x a s e a' s' h μ b w F hF hs hG ha)
  | rangeFunc f ps x y => exact range_sound hE hr h hF hs hG ha
theorem loop_sound {n : Nat} {r : Recs} (hr : RSound E G N w0 n r) {inR : Option Nat} {c : Code} {a b a' : Act} {e : Exit} {s s' : St} {μ : Mp} {w : World} {F : Fence} (h : codeStep E G r inR (.loop c) a s = some ((e, a'), s')) (hF : FenceR inR μ F) (hs : SR μ N w0 s.h w) (hG : GlobOk G μ) (ha : ActR μ a b) :
    Code.roundsIn F 0 E.P c (CPost N w0 μ e a' s'.h) (n + 1) b w := by
  unfold codeStep at h
  obtain ⟨⟨e1, a1⟩, s1, h1, h⟩ := bind_some h
  rw [roundsIn_succ]
  refine wpIn_mono (hr.code inR c a s e1 a1 s1 h1 μ b w F hF hs hG ha) ?_
  rintro e2 b2 w2 ⟨rfl, ν, hx, hs2, ha2⟩
  cases e2 with
  | normal => exact roundsIn_mono (fun e2 b2 w2 hp => CPost.ext hx hp) _ _ _ (hr.loop inR c a1 s1 e a' s' h ν b2 w2 F (hF.ext hx) hs2 (hG.ext hx) ha2)
  | _ => cases h; exact ⟨rfl, ν, hx, hs2, ha2⟩
theorem scp_sound {n : Nat} {r : Recs} (hr : RSound E G N w0 n r) {inR : Option Nat} {sb c : Code} {a b a' : Act} {e : Exit} {s s' : St} {μ : Mp} {w : World} {F : Fence} (h : scpStep r inR sb c a s = some ((e, a'), s')) (hF : FenceR inR μ F) (hs : SR μ N w0 s.h w) (hG : GlobOk G μ) (ha : ActR μ a b) :
    scopedIn F E.P sb (CPost N w0 μ e a' s'.h) (n + 1) c b w := by
  unfold scpStep at h
  obtain ⟨⟨e1, a1⟩, s1, h1, h⟩ := bind_some h
  refine wpIn_mono (hr.code inR c a s e1 a1 s1 h1 μ b w F hF hs hG ha) ?_
  rintro e2 b2 w2 ⟨rfl, ν, hx, hs2, ha2⟩
  cases e2 with
  | goto l =>
    dsimp only at h ⊢
    cases hf : findLabel sb l with
    | some rest =>
      rw [hf] at h
      exact scopedIn_mono (fun e2 b2 w2 hp => CPost.ext hx hp) _ _ _ _ (hr.scp inR sb rest a1 s1 e a' s' h ν b2 w2 F (hF.ext hx) hs2 (hG.ext hx) ha2)
    | none => rw [hf] at h; cases h; exact ⟨rfl, ν, hx, hs2, ha2⟩
  | _ => cases h; exact ⟨rfl, ν, hx, hs2, ha2⟩
/-! ### Calls -/
theorem load_reads {P : Program} {ty : Nat → Option TInfo} (hty : TyOk P ty) {t : TypeId} {v v' x : Value} {s s' : St} {μ : Mp} {w : World} (h : (loadT ty t v).run s = some (x, s')) (hv : VR μ v v') (hs : SR μ N w0 s.h w) :
    s'.h = s.h ∧ ∃ x', VR μ x x' ∧ (do loadVar t (← asAddr v') : Sem Value).run P w = .ok x' w := by
  cases hv with
  | ptr b off e he =>
    simp only [loadT] at h
    cases hi : ty t with
    | none => rw [hi] at h; cases h
    | some i =>
      obtain ⟨h1, h2⟩ := hty t i hi
      rw [hi] at h
      dsimp only at h
      unfold loadVarT at h
      cases hd : isAggD i.u with
      | true =>
        rw [hd, cond_true, AT.run_bind] at h
        obtain ⟨vs, s1, e1, h⟩ := bind_some h
        cases h
        obtain ⟨g1, g2, g3, g4⟩ := loadN_reads _ _ _ _ _ e1
        obtain ⟨l', hl', hrun⟩ := loadCells_sr (P := P) (off := off) hs he vs 0 fun k v hv => by
          obtain ⟨c, t, kd, sp, e1, e2⟩ := g4 k v hv
          exact ⟨c, t, kd, sp, e1, by rw [Nat.add_zero]; exact e2⟩
        refine ⟨g1, .agg l'.toArray, .agg _ _ (by simpa using hl'), ?_⟩
        have := hrun w rfl #[]
        rw [g3] at this
        simp only [asAddr, Sem.run_bind, Sem.run_pure, Result.andThen_ok, loadVar, run_isAgg h2, hd, if_true, run_sizeOf h1, loadCells, this]
        simp
      | false =>
        rw [hd, cond_false] at h
        simp only [AT.run] at h
        cases hb : s.h.get b with
        | none => rw [hb] at h; cases h
        | some y =>
          rw [hb] at h
          cases y with
          | obj o => cases h
          | cells c tt kd sp =>
            dsimp only at h
            cases hc : c[off]? with
            | none => rw [hc] at h; cases h
            | some z =>
              rw [hc] at h
              cases z with
              | none => cases h
              | some u =>
                cases h
                obtain ⟨u', hu, hr⟩ := hs.load hb hc he
                refine ⟨rfl, u', hr, ?_⟩
                simp only [asAddr, Sem.run_bind, Sem.run_pure, Result.andThen_ok, loadVar, run_isAgg h2, hd, Bool.false_eq_true, if_false, run_load, hu]
  | _ => cases h
theorem res_reads {P : Program} {ty : Nat → Option TInfo} (hty : TyOk P ty) {tm tm' : Array Value} {μ : Mp} {w : World} (ht : VRs μ tm.toList tm'.toList) : ∀ (l : List ResultVar) (s s' : St) (vs : List Value), (resT ty tm l).run s = some (vs, s') → SR μ N w0 s.h w →
    s'.h = s.h ∧ ∃ vs', VRs μ vs vs' ∧ (l.mapM (fun x => match x with | .tmp t => pure (tm'.getD t undef) | .cell a t => do loadVar t (← asAddr (tm'.getD a undef))) : Sem (List Value)).run P w = .ok vs' w
  | [], s, s', vs, h, hs => by cases h; exact ⟨rfl, [], .nil, rfl⟩
  | .tmp t :: l, s, s', vs, h, hs => by
    simp only [resT, AT.run_bind] at h
    obtain ⟨ws, s1, e1, h⟩ := bind_some h
    cases h
    obtain ⟨g1, vs', g2, g3⟩ := res_reads hty ht l s s' ws e1 hs
    refine ⟨g1, tm'.getD t undef :: vs', .cons _ _ _ _ (ht.getD t) g2, ?_⟩
    simp only [List.mapM_cons, Sem.run_bind, Sem.run_pure, Result.andThen_ok, g3]
  | .cell c t :: l, s, s', vs, h, hs => by
    simp only [resT, AT.run_bind] at h
    obtain ⟨x, s1, e1, h⟩ := bind_some h
    rw [AT.run_bind] at h
    obtain ⟨ws, s2, e2, h⟩ := bind_some h
    cases h
    obtain ⟨k1, x', k2, k3⟩ := load_reads (N := N) (w0 := w0) hty e1 (ht.getD c) hs
    obtain ⟨g1, vs', g2, g3⟩ := res_reads hty ht l s1 s' ws e2 (by rw [k1]; exact hs)
    refine ⟨g1.trans k1, x' :: vs', .cons _ _ _ _ k2 g2, ?_⟩
    simp only [List.mapM_cons]
    rw [Sem.run_bind, k3]
    simp only [Result.andThen_ok, Sem.run_bind, g3, Sem.run_pure]
theorem tupleOf_rel {μ : Mp} {vs vs' : List Value} (h : VRs μ vs vs') : VR μ (tupleOf vs) (if h : vs'.toArray.size = 1 then vs'.toArray[0] else .tuple vs'.toArray) := by
  cases h with
  | nil => exact .tuple _ _ .nil
  | cons v v' l l' h1 h2 =>
    cases h2 with
    | nil => exact h1
    | cons u u' m m' h3 h4 =>
      have : ¬ (v' :: u' :: m').toArray.size = 1 := by simp
      rw [dif_neg this]
      exact .tuple _ _ (by simpa using VRs.cons _ _ _ _ h1 (.cons _ _ _ _ h3 h4))
theorem run_results {P : Program} {fn : Func} {tm' : Array Value} {w : World} {vs' : List Value} (h : (fn.results.toList.mapM (fun x => match x with | .tmp t => pure (tm'.getD t undef) | .cell a t => do loadVar t (← asAddr (tm'.getD a undef))) : Sem (List Value)).run P w = .ok vs' w) :
    (results fn tm').run P w = .ok (if h : vs'.toArray.size = 1 then vs'.toArray[0] else .tuple vs'.toArray) w := by
  unfold results
  rw [Array.mapM_eq_mapM_toList]
  simp only [Sem.run_bind, Sem.run_map]
  refine Eq.trans (congrArg (fun r => (r.andThen fun a w' => Result.ok a.toArray w').andThen fun a w' => Sem.run P (pure (if h : a.size = 1 then a[0] else Value.tuple a)) w') h) rfl
/-! ### Deferred calls, while nothing panics -/
theorem execOp_recover {o : Oper} (h : isRecover o = true) (ρ : Operand → Value) (P : Program) (w : World) : (execOp ρ o).run P w = .ok .recover w := by
  unfold isRecover at h
  cases ho : o.op with
  | call c =>
    rw [ho] at h
    dsimp only at h
    cases hc : c.callee with
    | builtin b =>
      rw [hc] at h
      cases b <;> first | (simp only [execOp, ho, resolve, hc]; rfl) | cases h
    | invoke a b => rw [hc] at h; cases h
    | value f => rw [hc] at h; cases h
  | _ => rw [ho] at h; cases h
theorem dOps_sound (hE : EnvOk E) {ops : Array Oper} {cs : List Frame} (hcs : recoverD cs = none) : ∀ (l : List Nat) (a b : Act) (s : St) (a' : Act) (s' : St) (μ : Mp) (w : World), dOps E G ops l a s = some (a', s') → SR μ N w0 s.h w → GlobOk G μ → ActR μ a b →
    wpOpsSIn Fence.wide 0 E.P ops (fun e2 b2 cs2 w2 => cs2 = cs ∧ CPost N w0 μ .normal a' s'.h e2 b2 w2) l b cs w := by
  intro l
  induction l with
  | nil => intro a b s a' s' μ w h hs hG ha; cases h; exact ⟨rfl, CPost.mk' hs ha⟩
  | cons i l ih =>
    intro a b s a' s' μ w h hs hG ha
    simp only [dOps] at h
    cases ho : ops[i]? with
    | none => rw [ho] at h; cases h
    | some o =>
      rw [ho] at h
      dsimp only at h
      simp only [wpOpsSIn, ho]
      refine ⟨fun _ _ => trivial, ?_⟩
      rw [yielded_eq ha ops]
      cases hw : Region.wanted o (yielded ops a.tmps) with
      | false =>
        rw [hw] at h
        simp only [Bool.false_eq_true, if_false]
        exact ih _ _ _ _ _ _ _ h hs hG (ha.put _ (undefR μ))
      | true =>
        rw [hw, cond_true] at h
        simp only [if_true]
        cases hr : isRecover o with
        | true =>
          rw [hr, cond_true] at h
          rw [execOp_recover hr]
          simp only [hcs]
          exact ih _ _ _ _ _ _ _ h hs hG (ha.put _ .nilIface)
        | false =>
          rw [hr, cond_false] at h
          cases hk : opOk G o with
          | false => rw [hk] at h; cases h
          | true =>
            rw [hk, cond_true] at h
            obtain ⟨an, s1, h1, h2⟩ := bind_some h
            have hρ := ha.eval hG hk
            obtain ⟨ν, w1, n', hx, hrun, hs1, hn⟩ := sim_op (N := N) (w0 := w0) hE o hρ s w an s1 h1 hs
            rw [hrun]
            have post : ∀ {e2 : Exit} {b2 : Act} {cs2 : List Frame} {w2 : World}, (cs2 = cs ∧ CPost N w0 ν .normal a' s'.h e2 b2 w2) → (cs2 = cs ∧ CPost N w0 μ .normal a' s'.h e2 b2 w2) := fun hp => ⟨hp.1, CPost.ext hx hp.2⟩
            cases hn with
            | value v v' hv => exact mono _ _ _ _ post (ih _ _ _ _ _ _ _ h2 hs1 (hG.ext hx) ((ha.ext hx).put _ hv))
            | skip => exact mono _ _ _ _ post (ih _ _ _ _ _ _ _ h2 hs1 (hG.ext hx) ((ha.ext hx).put _ (undefR ν)))
            | _ => cases h2
where
  mono {F : Fence} {P : Program} {ops : Array Oper} {Q Q' : Exit → Act → List Frame → World → Prop} : ∀ (l : List Nat) (a : Act) (cs : List Frame) (w : World), (∀ {e a cs w}, Q e a cs w → Q' e a cs w) → wpOpsSIn F 0 P ops Q l a cs w → wpOpsSIn F 0 P ops Q' l a cs w := by
    intro l
    induction l with
    | nil => intro a cs w hq h; exact hq h
    | cons i l ih =>
      intro a cs w hq h
      simp only [wpOpsSIn] at h ⊢
      cases ho : ops[i]? with
      | none => rw [ho] at h; exact ih _ _ _ hq h
      | some o =>
        rw [ho] at h
        dsimp only at h ⊢
        refine ⟨h.1, ?_⟩
        have h := h.2
        split
        · rename_i hw
          rw [if_pos hw] at h
          cases hr : (execOp a.eval o).run P w with
          | ok n w' =>
            rw [hr] at h
            cases n with
            | recover =>
              dsimp only at h ⊢
              cases hc : recoverD cs with
              | none => rw [hc] at h; exact ih _ _ _ hq h
              | some q => rw [hc] at h; exact ih _ _ _ hq h
            | value v => exact ih _ _ _ hq h
            | skip => exact ih _ _ _ hq h
            | _ => exact h
          | halt c w' =>
            rw [hr] at h
            cases c with
            | panic v => exact hq h
            | _ => exact h
        · rename_i hw
          rw [if_neg hw] at h
          exact ih _ _ _ hq h
theorem wpSIn_mono {F : Fence} {P : Program} {c : Code} {Q Q' : Exit → Act → List Frame → World → Prop} {a : Act} {cs : List Frame} {w : World} (h : c.wpSIn F 0 P Q a cs w) (hq : ∀ e a cs w, Q e a cs w → Q' e a cs w) : c.wpSIn F 0 P Q' a cs w :=
  fun b k h1 h2 h3 h4 => let ⟨e, a', cs', w', g1, g2, g3⟩ := h b k h1 h2 h3 h4; ⟨e, a', cs', w', g1, hq _ _ _ _ g2, g3⟩
theorem dCode_sound (hE : EnvOk E) {n : Nat} {r : Recs} (hr : RSound E G N w0 n r) {cs : List Frame} (hcs : recoverD cs = none) : ∀ (c : Code) (a b : Act) (s : St) (e : Exit) (a' : Act) (s' : St) (μ : Mp) (w : World), dCode E G r c a s = some ((e, a'), s') → SR μ N w0 s.h w → GlobOk G μ → ActR μ a b →
    c.wpSIn Fence.wide 0 E.P (fun e2 b2 cs2 w2 => cs2 = cs ∧ CPost N w0 μ e a' s'.h e2 b2 w2) b cs w := by
  intro c
  have plainCode : ∀ (c : Code) (a b : Act) (s : St) (e : Exit) (a' : Act) (s' : St) (μ : Mp) (w : World), r.code none c a s = some ((e, a'), s') → SR μ N w0 s.h w → GlobOk G μ → ActR μ a b →
      c.wpSIn Fence.wide 0 E.P (fun e2 b2 cs2 w2 => cs2 = cs ∧ CPost N w0 μ e a' s'.h e2 b2 w2) b cs w :=
    fun c a b s e a' s' μ w h hs hG ha => wpSIn_of_wpIn rfl (wpIn_mono (hr.code none c a s e a' s' h μ b w Fence.wide rfl hs hG ha) fun e2 b2 w2 hp => ⟨rfl, hp⟩)
  induction c with
  | seq x y ihx _ =>
    intro a b s e a' s' μ w h hs hG ha
    simp only [dCode] at h
    obtain ⟨⟨e1, a1⟩, s1, h1, h⟩ := bind_some h
    refine wpSIn_seq (wpSIn_mono (ihx a b s e1 a1 s1 μ w h1 hs hG ha) ?_)
    rintro e2 b2 cs2 w2 ⟨rfl, rfl, ν, hx, hs2, ha2⟩
    cases e2 with
    | normal => exact wpSIn_mono (plainCode y a1 b2 s1 e a' s' ν w2 h hs2 (hG.ext hx) ha2) fun e3 b3 cs3 w3 hp => ⟨hp.1, CPost.ext hx hp.2⟩
    | _ => cases h; exact ⟨rfl, rfl, ν, hx, hs2, ha2⟩
  | region id ops draw =>
    intro a b s e a' s' μ w h hs hG ha
    simp only [dCode] at h
    cases draw with
    | true => cases h
    | false =>
      rw [cond_false] at h
      obtain ⟨b1, s1, h1, h⟩ := bind_some h
      cases h
      exact wpSIn_region (dOps_sound hE hcs _ _ _ _ _ _ _ _ h1 hs hG ha)
  | _ => exact plainCode _
theorem dCall_sound (hE : EnvOk E) {n : Nat} {r : Recs} (hr : RSound E G N w0 n r) {f : FuncId} {args args' : Array Value} {s s' : St} {μ : Mp} {w : World} (h : dCall E G r f args s = some ((), s')) (hs : SR μ N w0 s.h w) (hG : GlobOk G μ) (ha : VRs μ args.toList args'.toList) :
    CallsDIn Fence.wide 0 E.P f args' .returning w fun e u w' => (∃ v, e = .returned v) ∧ u = .returning ∧ ∃ ν, Ext μ ν ∧ SR ν N w0 s'.h w' := by
  unfold dCall at h
  cases hf : E.fn f with
  | none => rw [hf] at h; cases h
  | some x =>
    rw [hf] at h
    obtain ⟨hfn, _, _⟩ := hE.fn f x hf
    dsimp only at h
    cases hb : x.body with
    | none => rw [hb] at h; cases h
    | some c =>
      rw [hb] at h
      dsimp only at h
      obtain ⟨⟨e1, a1⟩, s1, h1, h⟩ := bind_some h
      have hsz : args'.size = args.size := by have := ha.length; simpa using this.symm
      have hact : ActR μ ⟨args ++ Array.replicate (x.ntmps - args.size) undef, []⟩ ⟨args' ++ Array.replicate (x.ntmps - args'.size) undef, []⟩ := ⟨by
        rw [hsz]
        simpa using ha.append (VRs.replicate (undefR μ) (x.ntmps - args.size)), .nil⟩
      refine callsDIn_of_wpSIn hfn hb trivial fun c₀ cs hm => ?_
      have hcs : recoverD (c₀ :: cs) = none := by simp [recoverD, hm]
      refine wpSIn_mono (dCode_sound hE hr hcs c _ _ s e1 a1 s1 μ w h1 hs hG hact) ?_
      rintro e2 b2 cs2 w2 ⟨rfl, rfl, ν, hx, hs2, ha2⟩
      have fin : dEnd E x a1 s1 = some ((), s') → b2.defers = [] ∧ ∃ u', c₀ :: cs = { c₀ with mode := u' } :: cs ∧ ∃ v, (results x b2.tmps).run E.P w2 = .ok v w2 ∧
          ((∃ v', Ending.returned v = .returned v') ∧ u' = .returning ∧ ∃ ν, Ext μ ν ∧ SR ν N w0 s'.h w2) := by
        intro h
        have hd := ha2.defs
        unfold dEnd at h
        generalize a1.defers = ds at h hd
        cases ds with
        | cons d l => cases h
        | nil =>
          generalize b2.defers = ds' at hd
          cases hd
          obtain ⟨vs, s3, h3, h⟩ := bind_some h
          cases h
          obtain ⟨g1, vs', g2, g3⟩ := res_reads (N := N) (w0 := w0) hE.ty ha2.tmps _ _ _ _ h3 hs2
          exact ⟨rfl, .returning, by rw [← hm], _, run_results g3, ⟨_, rfl⟩, rfl, ν, hx, by rw [g1]; exact hs2⟩
      cases e2 with
      | normal => exact fin h
      | ret => exact fin h
      | exit id => cases h
      | goto l => cases h
      | panic c => cases h
      | outgrown => cases h
theorem leave_sound (hE : EnvOk E) {n : Nat} {r : Recs} (hr : RSound E G N w0 n r) {fn : Func} {R : Ending → World → Prop} {tm' : Array Value} : ∀ (ds ds' : List Deferred) (s s' : St) (μ : Mp) (w : World), leaveM E G r ds s = some ((), s') → DefsR μ ds ds' → SR μ N w0 s.h w → GlobOk G μ →
    (∀ ν w', Ext μ ν → SR ν N w0 s'.h w' → ∃ v, (results fn tm').run E.P w' = .ok v w' ∧ R (.returned v) w') → LeavesInM Fence.wide 0 E.P fn tm' R ds' .returning w := by
  intro ds
  induction ds with
  | nil =>
    intro ds' s s' μ w h hd hs hG hk
    cases h
    cases hd
    exact hk μ w (.refl _) hs
  | cons d ds ih =>
    intro ds' s s' μ w h hd hs hG hk
    cases hd with
    | mark D e l l' he hd2 =>
      simp only [leaveM] at h
      obtain ⟨_, s1, h1, h⟩ := bind_some h
      obtain ⟨ν, w1, q, hx, hrun, hs1, hq⟩ := sim_take (P := E.P) he s w () s1 h1 hs
      have hq : q = [] := hq
      subst hq
      exact ⟨by simp, .inl ⟨e.b, w1, rfl, hrun, ih l' s1 s' ν w1 h (hd2.ext hx) hs1 (hG.ext hx) fun ξ w' hx' hs' => hk ξ w' (hx.trans hx') hs'⟩⟩
    | func _ d' l l' hdr hd2 =>
      cases hdr with
      | func f c c' a a' h1 h2 =>
        simp only [leaveM] at h
        obtain ⟨_, s1, k1, h⟩ := bind_some h
        refine ⟨by simp, .inr ⟨(by intro hh; cases hh), .func f, c', f, a' ++ c', rfl, ?_, fun _ _ => trivial, ?_⟩⟩
        · cases hf : E.fn f with
          | none => unfold dCall at k1; rw [hf] at k1; cases k1
          | some x => exact run_callFunc hE hf _ w
        · refine (dCall_sound hE hr k1 hs hG (by simpa using h2.append h1)).mono ?_
          rintro en u w' ⟨⟨v, rfl⟩, rfl, ν, hx, hs1⟩
          exact ih l' s1 s' ν w' h (hd2.ext hx) hs1 (hG.ext hx) fun ξ w'' hx' hs' => hk ξ w'' (hx.trans hx') hs'
theorem body_sound (hE : EnvOk E) {n : Nat} {r : Recs} (hr : RSound E G N w0 n r) {f : FuncId} {args args' : Array Value} {v : Value} {s s' : St} {μ : Mp} {w : World} (h : callBody E G r f args s = some (v, s')) (hs : SR μ N w0 s.h w) (hG : GlobOk G μ) (ha : VRs μ args.toList args'.toList) :
    CallsIn Fence.wide 0 E.P f args' w (VPost N w0 μ v s'.h) := by
  unfold callBody at h
  cases hf : E.fn f with
  | none => rw [hf] at h; cases h
  | some x =>
    rw [hf] at h
    obtain ⟨hfn, _, _⟩ := hE.fn f x hf
    dsimp only at h
    cases hb : x.body with
    | none => rw [hb] at h; cases h
    | some c =>
      rw [hb] at h
      dsimp only at h
      obtain ⟨⟨e1, a1⟩, s1, h1, h⟩ := bind_some h
      have hsz : args'.size = args.size := by have := ha.length; simpa using this.symm
      have hact : ActR μ ⟨args ++ Array.replicate (x.ntmps - args.size) undef, []⟩ ⟨args' ++ Array.replicate (x.ntmps - args'.size) undef, []⟩ := ⟨by
        rw [hsz]
        simpa using ha.append (VRs.replicate (undefR μ) (x.ntmps - args.size)), .nil⟩
      refine callsIn_of_wp_marks hfn hb trivial ?_
      refine wpIn_mono (hr.code none c _ s e1 a1 s1 h1 μ _ w Fence.wide rfl hs hG hact) ?_
      rintro e2 b2 w2 ⟨rfl, ν, hx, hs2, ha2⟩
      have fin : (M.bind (leaveM E G r a1.defers) fun _ => M.bind (resT E.ty a1.tmps x.results.toList).run fun vs => M.ret (tupleOf vs)) s1 = some (v, s') → LeavesInM Fence.wide 0 E.P x b2.tmps (VPost N w0 μ v s'.h) b2.defers .returning w2 := by
        intro h
        obtain ⟨_, s2, h2, h⟩ := bind_some h
        obtain ⟨vs, s3, h3, h⟩ := bind_some h
        cases h
        refine leave_sound hE hr _ _ _ _ _ _ h2 ha2.defs hs2 (hG.ext hx) fun ξ w' hx' hs' => ?_
        obtain ⟨g1, vs', g2, g3⟩ := res_reads (N := N) (w0 := w0) hE.ty ((ha2.ext hx').tmps) _ _ _ _ h3 hs'
        exact ⟨_, run_results g3, _, ξ, rfl, hx.trans hx', by rw [g1]; exact hs', tupleOf_rel g2⟩
      cases e2 with
      | normal => exact fin h
      | ret => exact fin h
      | exit id => cases h
      | goto l => cases h
      | panic c => cases h
      | outgrown => cases h
theorem call_sound (hE : EnvOk E) {n : Nat} {r : Recs} (hr : RSound E G N w0 n r) {f : FuncId} {args args' : Array Value} {v : Value} {s s' : St} {μ : Mp} {w : World} (h : callStep E G r f args s = some (v, s')) (hs : SR μ N w0 s.h w) (hG : GlobOk G μ) (ha : VRs μ args.toList args'.toList) :
    CallsIn Fence.wide 0 E.P f args' w (VPost N w0 μ v s'.h) := by
  obtain ⟨s9, h9, hh9⟩ := trim_some h
  rw [hh9]
  exact body_sound (s := ⟨s.h, s.nx, [], []⟩) hE hr h9 hs hG ha
/-- **What the evaluator answers, the model's machine comes to.** -/
theorem evalN_sound (hE : EnvOk E) : ∀ n, RSound E G N w0 n (evalN E G n) := by
  intro n
  induction n with
  | zero =>
    exact ⟨fun _ _ _ _ _ h => (by cases h), fun _ _ _ _ _ _ _ h => (by cases h), fun _ _ _ _ _ _ _ h => (by cases h), fun _ _ _ _ _ _ _ _ h => (by cases h)⟩
  | succ n ih =>
    refine ⟨fun f args s v s' h μ args' w hs hG ha => call_sound hE ih h hs hG ha, fun inR c a s e a' s' h μ b w F hF hs hG ha => ?_, fun inR c a s e a' s' h μ b w F hF hs hG ha => loop_sound ih h hF hs hG ha, fun inR sb c a s e a' s' h μ b w F hF hs hG ha => scp_sound ih h hF hs hG ha⟩
    exact code_sound hE ih (evalN_local n) h hF hs hG ha fun x hx => by subst hx; exact loop_sound ih h hF hs hG ha
end
end Go.Proofs.YtndjhcmgngnfbaaGreatDoor.AM
