/- Append, joined: in place or in a new block. No condition. -/
import Derived.Test.YtndjhcmgngnfbaaGreatDoorAmF
set_option linter.unusedSimpArgs false
set_option linter.unusedVariables false
set_option linter.all false
namespace Go.Proofs.YtndjhcmgngnfbaaGreatDoor.AM
open Go Go.RowKit
section
variable {P : Program} {N : Nat} {w0 w : World} {h : Tr Blk} {α β γ δ : Type} {R : Mp → α → β → Prop} {μ : Mp} {ty : Nat → Option TInfo}
theorem run_take {b off : Nat} {k : List Value → TypeId → Nat → AT α} {st : St} {r : α × St} (hr : (AT.take b off k).run st = some r) :
    ∃ c t kd vs, st.h.get b = some (.cells c t kd true) ∧ c.drop off = vs.map some ∧ 2 ≤ kd ∧ off ≤ c.length ∧
      (k vs t kd).run { st with h := st.h.mod b (.cells (cutAt off c) t kd false), rd := (b, 0) :: (b, 1) :: locs b off c.length ++ st.rd, wr := (b, 1) :: locs b off c.length ++ st.wr } = some r := by
  simp only [AT.run] at hr
  cases hb : st.h.get b with
  | none => rw [hb] at hr; cases hr
  | some x =>
    rw [hb] at hr
    cases x with
    | obj o => cases hr
    | cells c t kd sp =>
      cases sp with
      | false => cases hr
      | true =>
        dsimp only at hr
        cases hv : allSome (c.drop off) with
        | none => rw [hv] at hr; cases hr
        | some vs =>
          rw [hv] at hr
          dsimp only at hr
          cases hg : Nat.ble 2 kd && Nat.ble off c.length with
          | false => rw [hg] at hr; cases hr
          | true =>
            rw [hg, cond_true] at hr
            simp only [Bool.and_eq_true, Nat.ble_eq] at hg
            exact ⟨c, t, kd, vs, rfl, allSome_spec hv, hg.1, hg.2, hr⟩
theorem SR.cut (hs : SR μ N w0 h w) {b off : Nat} {c : List (Option Value)} {t kd : Nat} {vs : List Value} {e : Ent} (hb : h.get b = some (.cells c t kd true)) (hv : c.drop off = vs.map some) (hkd : 2 ≤ kd) (hoff : off ≤ c.length) (he : μ b = some e) :
    SR μ N w0 (h.mod b (.cells (cutAt off c) t kd false)) w ∧
      ∀ b2 x2 e2, (h.mod b (.cells (cutAt off c) t kd false)).get b2 = some x2 → μ b2 = some e2 → e2.b = e.b → ∀ k, e.o + off ≤ k → ¬ uses e2 x2 k := by
  have hbs : (h.get b).isSome = true := by rw [hb]; rfl
  refine ⟨hs.less hb (by simp [cutAt]; omega) (fun i v hi => ?_) (fun hh => by cases hh), ?_⟩
  · rw [cutAt_get hoff] at hi
    split at hi
    · cases hi
    · exact hi
  · intro b2 x2 e2 hb2 he2 hsame k hk hu
    rw [Tr.get_mod _ _ _ _ hbs] at hb2
    by_cases eb : b2 = b
    · subst eb
      rw [if_pos rfl] at hb2; cases hb2
      rw [he] at he2; cases he2
      rcases hu with ⟨j, v, hj, rfl⟩ | ⟨h1, _⟩
      · rw [cutAt_get hoff] at hj
        split at hj
        · cases hj
        · rename_i hn
          have : j < c.length := (List.getElem?_eq_some_iff.1 hj).1
          omega
      · cases h1
    · rw [if_neg eb] at hb2
      rcases hs.sep b b2 _ _ _ _ hb hb2 he he2 (Ne.symm eb) hsame.symm with hro | hsep
      · have := hro.1
        simp only [isRo] at this
        omega
      · refine hsep k ⟨?_, hu⟩
        by_cases hlt : k < e.o + c.length
        · have hj : (c.drop off)[k - e.o - off]? = c[k - e.o]? := by rw [List.getElem?_drop]; congr 1; omega
          rw [hv, List.getElem?_map] at hj
          have hlen : vs.length = c.length - off := by have := congrArg List.length hv; simpa using this.symm
          have hlt2 : k - e.o - off < vs.length := by omega
          rw [List.getElem?_eq_getElem hlt2] at hj
          exact .inl ⟨k - e.o, vs[k - e.o - off], hj.symm, by omega⟩
        · exact .inr ⟨rfl, by omega⟩
theorem Mp.fresh (hs : SR μ N w0 h w) {b : Nat} (hb : h.get b = none) : μ b = none := by
  cases hm : μ b with
  | none => rfl
  | some e' => obtain ⟨x', hx'⟩ := hs.dom b e' hm; rw [hb] at hx'; cases hx'
theorem capOk_le {e : Ent} {off c c' : Nat} (h : CapOk e off c c') : c ≤ c' := by
  rcases h with h | h
  · omega
  · omega
/-- Behind a read of the old cells, whatever the capacity. -/
theorem run_appendS_grow {size bytes : Nat} {zero : Array Value} {elem : TypeId} {s x : Value} {base : Option Addr} {sLen sCap n : Nat} (hroom : ¬ sLen + n ≤ sCap) {old new : Array Value} {w : World}
    (ho : ∀ w2 : World, w2.heap = w.heap → (Builtin.firstCells size sLen s).run P w2 = .ok old w2) (hn : ∀ w2 : World, w2.heap = w.heap → (Builtin.firstCells size n x).run P w2 = .ok new w2) :
    ∃ nc d, sLen + n ≤ nc ∧ (appendS size bytes zero elem s x base sLen sCap n).run P w =
      .ok (.slice (some ⟨w.heap.size, 0, none⟩) (sLen + n) nc) { w with heap := w.heap.push (.cells (old ++ new ++ Builtin.zeroCells zero (nc - (sLen + n))) elem (0, 0)), drawn := d } := by
  refine ⟨(Question.appendCap (sLen + n) sCap elem).cut (w.tape w.drawn (.appendCap (sLen + n) sCap elem)), w.drawn + 1, ?_, ?_⟩
  · simp only [Question.cut]; omega
  · unfold appendS
    rw [if_neg hroom]
    simp only [Sem.run_bind, run_choose, Question.forced, Bool.false_eq_true, if_false, Result.andThen_ok, run_askRoom]
    rw [ho _ (by rfl)]
    simp only [Result.andThen_ok]
    rw [hn _ (by rfl)]
    simp only [Result.andThen_ok, newRow, Sem.run_bind, run_newObj, Sem.run_pure]
theorem sim_appendB (hty : TyOk P ty) {elem : TypeId} {j : TInfo} (_hj : ty elem = some j) {base base' : Option Addr} {sLen sCap sCap' n : Nat} {x x' : Value} (hsl : VR μ (.slice base sLen sCap) (.slice base' sLen sCap')) (hnm : ∀ b o s, base ≠ some ⟨b, o, some s⟩) (hx : VR μ x x')
    {z : Value} (hz : ¬ sLen + n ≤ sCap → j.info.zero = some z) :
    Sim P N w0 VR μ (appendB j elem base sLen sCap n x) (appendS j.info.size j.info.bytes z.cells elem (.slice base' sLen sCap') x' base' sLen sCap' n) := by
  unfold appendB
  cases hroom : Nat.ble (sLen + n) sCap with
  | true =>
    rw [Nat.ble_eq] at hroom
    simp only [cond_true]
    cases hsl with
    | sliceEnd => exact absurd rfl (hnm _ _ _)
    | sliceNil =>
      unfold appendS
      rw [if_pos hroom]
      refine Sim.bind (sim_first _ _ hx) fun ν a b hxt hab => ?_
      exact Sim.ret (.sliceNil _ _)
    | slice b off e _ _ _ he hc =>
      unfold appendS
      rw [if_pos (Nat.le_trans hroom (capOk_le hc))]
      refine Sim.bind (sim_first _ _ hx) fun ν new arr hxt hab => ?_
      dsimp only
      have h1 := sim_storeCells (P := P) (N := N) (w0 := w0) (b := b) (off := off + sLen * j.info.size) (e := e) new arr.toList 0 ν (hxt _ _ he) hab
      have e1 : (⟨e.b, e.o + off, none⟩ : Addr).add (sLen * j.info.size) = ⟨e.b, e.o + (off + sLen * j.info.size), none⟩ := by rw [add_eq, Nat.add_assoc]
      rw [e1]
      have h2 := Sim.bind (R' := VR) h1 (f := fun _ => .ret (.slice (some ⟨b, off, none⟩) (sLen + n) sCap)) (g := fun _ => pure (.slice (some ⟨e.b, e.o + off, none⟩) (sLen + n) sCap')) fun ξ _ _ hξ _ => Sim.ret (.slice b off e _ _ _ (hξ _ _ (hxt _ _ he)) hc)
      exact h2
  | false =>
    have hroom' : ¬ sLen + n ≤ sCap := fun h => by rw [Nat.ble_eq_true_of_le h] at hroom; cases hroom
    simp only [cond_false]
    rw [hz hroom']
    dsimp only
    cases hg : Nat.beq z.cells.size j.info.size && Nat.ble ((2 * (sLen + n) + 512) * j.info.bytes) 281474976710656 && Nat.ble 1 j.info.size && Nat.ble (sLen + n) 1000000000000 && Nat.ble sLen sCap with
    | false => exact Sim.fail
    | true =>
      simp only [Bool.and_eq_true, Nat.ble_eq] at hg
      obtain ⟨⟨⟨⟨hg1, hg2⟩, hg3⟩, hg4⟩, hg5⟩ := hg
      have hg1 := Nat.eq_of_beq_eq_true hg1
      simp only [cond_true]
      generalize hsz : j.info.size = size at *
      intro st w a st' ht hs
      rw [AT.run_bind] at ht
      simp only [M.bind] at ht
      cases hf : (firstT size n x).run st with
      | none => rw [hf] at ht; cases ht
      | some p =>
        obtain ⟨new, st1⟩ := p
        rw [hf] at ht
        obtain ⟨hh1, hn1, newA, hnew, hnrun⟩ := first_reads (P := P) hx hf hs
        dsimp only at ht
        cases hok : new.all oneCell && Nat.beq new.length (n * size) with
        | false => rw [hok] at ht; cases ht
        | true =>
          rw [hok, cond_true] at ht
          simp only [Bool.and_eq_true] at hok
          obtain ⟨hone, hnl⟩ := hok
          have hnl := Nat.eq_of_beq_eq_true hnl
          have hs1 : SR μ N w0 st1.h w := by rw [hh1]; exact hs
          have hzs : ∀ k, k * size ≤ (Builtin.zeroCells z.cells k).size := fun k => by rw [zeroCells_size, hg1]; exact Nat.le_refl _
          -- the fresh way, once the old cells are known
          have fresh : ∀ (old : List Value) (oldA : Array Value) (st2 : St), VRs μ old oldA.toList → old.length = sLen * size → (growT elem size (sLen + n) (old ++ new)).run st2 = some (a, st') → SR μ N w0 st2.h w →
              ¬ sLen + n ≤ sCap' → (∀ w2 : World, w2.heap = w.heap → (Builtin.firstCells size sLen (.slice base' sLen sCap')).run P w2 = .ok oldA w2) →
              ∃ ν w' b, Ext μ ν ∧ (appendS size j.info.bytes z.cells elem (.slice base' sLen sCap') x' base' sLen sCap' n).run P w = .ok b w' ∧ SR ν N w0 st'.h w' ∧ VR ν a b := by
            intro old oldA st2 ho hol hgr hs2 hroomc horun
            obtain ⟨nc, d, hnc, hrun⟩ := run_appendS_grow (P := P) (bytes := j.info.bytes) (zero := z.cells) (elem := elem) (base := base') hroomc horun hnrun
            obtain ⟨ν, e, e1, e2, e3, e4, e5, e6, e7, e8, e9⟩ := grow_fresh (w := w) (x := nc - (sLen + n)) (rest := Builtin.zeroCells z.cells (nc - (sLen + n))) hgr hs2 (ho.append hnew) (by simp [hol, hnl, Nat.add_mul]) (by omega) (hzs _)
            refine ⟨ν, _, _, e1, hrun, ?_, ?_⟩
            · have := e2.drew d
              have harr : (oldA.toList ++ newA.toList).toArray = oldA ++ newA := by apply Array.ext'; simp
              rw [harr] at this
              exact this
            · rw [e3]
              have := VR.slice (μ := ν) st2.nx 0 e (sLen + n) (sLen + n) nc e4 (by
                by_cases hq : nc = sLen + n
                · exact .inl hq
                · exact .inr ⟨by omega, by omega, by rw [e7, e9]; omega, by rw [e8]; omega⟩)
              rw [e5, e6] at this
              exact this
          cases hsl with
          | sliceEnd => exact absurd rfl (hnm _ _ _)
          | sliceNil =>
            dsimp only at ht
            cases h0 : Nat.beq sLen 0 with
            | false => rw [h0] at ht; cases ht
            | true =>
              rw [h0, cond_true] at ht
              have h0 := Nat.eq_of_beq_eq_true h0
              exact fresh [] #[] st1 .nil (by simp [h0]) ht hs1 hroom' fun w2 _ => rfl
          | slice b off e _ _ _ he hc =>
            dsimp only at ht
            simp only [AT.run] at ht
            cases hb : st1.h.get b with
            | none => rw [hb] at ht; cases ht
            | some y =>
              rw [hb] at ht
              cases y with
              | obj o => cases ht
              | cells c t kd sp =>
                dsimp only at ht
                obtain ⟨e', he', hB⟩ := hs1.blk b _ hb
                rw [he] at he'; cases he'
                obtain ⟨arr, lo, hi, tq, q1, q2, q3, q4, q5, q6, q7, q8⟩ := hB
                cases hk : Nat.ble kd 1 || (Nat.beq kd (size + 2) && !(Nat.beq (off + sCap * size) c.length)) with
                | true =>
                  rw [hk, cond_true] at ht
                  have hcc : sCap' = sCap := by
                    rcases hc with hc | ⟨hc1, hc2, hc3, hc4⟩
                    · exact hc
                    · exfalso
                      rw [Bool.or_eq_true] at hk
                      rcases hk with hk | hk
                      · rw [Nat.ble_eq] at hk
                        exact hc2 (q6 hk).1
                      · simp only [Bool.and_eq_true, Bool.not_eq_true'] at hk
                        have hk1 := Nat.eq_of_beq_eq_true hk.1
                        have := (q7 (by omega)).1
                        have hes : e.s = size := by omega
                        rw [hes, q2] at hc3
                        rw [hc3] at hk
                        simp at hk
                  rw [AT.run_bind] at ht
                  simp only [M.bind] at ht
                  cases hl : (loadN b off (sLen * size)).run { st1 with rd := (b, 0) :: st1.rd } with
                  | none => rw [hl] at ht; cases ht
                  | some p =>
                    obtain ⟨old, st2⟩ := p
                    rw [hl] at ht
                    obtain ⟨g1, g2, g3, g4⟩ := loadN_reads _ _ _ _ _ hl
                    obtain ⟨l', hl', hrun⟩ := loadCells_sr (P := P) (off := off) hs1 he old 0 fun k v hv => by
                      obtain ⟨c, t, kd, sp, e1, e2⟩ := g4 k v hv
                      exact ⟨c, t, kd, sp, e1, by rw [Nat.add_zero]; exact e2⟩
                    refine fresh old l'.toArray st2 (by simpa using hl') g3 ht (by rw [g1]; exact hs1) (by rw [hcc]; exact hroom') fun w2 hw => ?_
                    have := hrun w2 hw #[]
                    rw [g3] at this
                    simpa [Builtin.firstCells, loadCells] using this
                | false =>
                  rw [hk, cond_false] at ht
                  cases hk2 : Nat.beq kd (size + 2) && Nat.beq t elem with
                  | false => rw [hk2] at ht; cases ht
                  | true =>
                    rw [hk2, cond_true] at ht
                    simp only [Bool.and_eq_true] at hk2
                    obtain ⟨hk3, hk4⟩ := hk2
                    have hk4 := Nat.eq_of_beq_eq_true hk4
                    subst hk4
                    have hk3' := Nat.eq_of_beq_eq_true hk3
                    subst hk3'
                    simp only [hk3, Bool.true_and, Bool.or_eq_false_iff, Bool.not_eq_false'] at hk
                    have hcap := Nat.eq_of_beq_eq_true hk.2
                    have hes : e.s = size := by have := (q7 (by omega)).1; omega
                    obtain ⟨c2, t2, kd2, vs, u1, u2, u3, u4, u5⟩ := run_take ht
                    rw [hb] at u1
                    cases u1
                    have hvl : vs.length = c.length - off := by have := congrArg List.length u2; simpa using this.symm
                    have hmul : sLen * size ≤ sCap * size := Nat.mul_le_mul_right _ hg5
                    obtain ⟨hsc, hno⟩ := hs1.cut hb u2 u3 u4 he
                    -- the old cells, as the model reads them
                    have hold : ∃ l' : List Value, VRs μ (vs.take (sLen * size)) l' ∧ ∀ w2 : World, w2.heap = w.heap → ∀ acc, (loadCellsFrom ⟨e.b, e.o + off, none⟩ 0 (vs.take (sLen * size)).length acc).run P w2 = .ok (acc ++ l'.toArray) w2 :=
                      loadCells_sr (P := P) (off := off) hs1 he (vs.take (sLen * size)) 0 fun k v hv => by
                        refine ⟨c, _, _, _, hb, ?_⟩
                        have hk5 : k < sLen * size := by have := (List.getElem?_eq_some_iff.1 hv).1; simp at this; omega
                        rw [List.getElem?_take_of_lt hk5] at hv
                        have : (c.drop off)[k]? = some (some v) := by rw [u2, List.getElem?_map, hv]; rfl
                        rw [List.getElem?_drop] at this
                        rw [Nat.add_zero]; exact this
                    obtain ⟨l', hl', hlrun⟩ := hold
                    have htl : (vs.take (sLen * size)).length = sLen * size := by simp; omega
                    by_cases hroomc : sLen + n ≤ sCap'
                    · -- in place
                      have hcx : sCap' ≤ sCap + e.x := by
                        rcases hc with hc | hc
                        · omega
                        · exact hc.2.2.2
                      have hm1 : sCap' * size ≤ sCap * size + e.x * size := by rw [← Nat.add_mul]; exact Nat.mul_le_mul_right _ hcx
                      have hm2 : (sLen + n) * size ≤ sCap' * size := Nat.mul_le_mul_right _ hroomc
                      have hm3 : (sCap' - (sLen + n)) * size = sCap' * size - (sLen + n) * size := Nat.sub_mul _ _ _
                      have hm4 : (sLen + n) * size = sLen * size + n * size := Nat.add_mul _ _ _
                      rw [hes] at q3
                      have hnlen : newA.toList.length = n * size := by rw [← hnew.length, hnl]
                      have hkd0 : size + 2 ≠ 0 := by omega
                      obtain ⟨w', arr', r1, r2, r3, r4, r5, r6⟩ := storeFree (P := P) newA.toList 0 w arr (b := e.b) (o := e.o + off + sLen * size) (q := e.o + off) (t := tq) (lo := lo) (hi := hi) q1 (by rw [hnlen]; omega)
                        (q5 hkd0).2 (hnew.oneCells hone) hsc (by omega) hno (q5 hkd0).1
                      have hcsz : ((vs.take (sLen * size) ++ new).map some).length = (sLen + n) * size := by simp; omega
                      simp only [growT, AT.run] at u5
                      cases hbn : (st1.h.mod b (.cells (cutAt off c) t (size + 2) false)).get st1.nx with
                      | some y => rw [hbn] at u5; cases u5
                      | none =>
                        rw [hbn] at u5
                        dsimp only at u5
                        cases hb2 : Nat.blt st1.nx 1000000000000 with
                        | false => rw [hb2] at u5; cases u5
                        | true =>
                          rw [hb2, cond_true] at u5
                          cases u5
                          have hlt : st1.nx + 1 < 2 ^ 60 := by rw [Nat.blt_eq] at hb2; omega
                          have hμn := Mp.fresh r2 hbn
                          have hadd := r2.add (x := .cells ((vs.take (sLen * size) ++ new).map some) t (size + 2) true) (e := ⟨e.b, e.o + off, (sLen + n) * size, size, sCap' - (sLen + n)⟩) hbn hlt
                            (by
                              refine ⟨arr', lo, hi, tq, r3, hcsz.symm, ?_, fun h0 => by omega, fun _ => ⟨(q5 hkd0).1, fun i hi' => (q5 hkd0).2 i (by omega)⟩, fun h1 => by omega, fun _ => ⟨rfl, by dsimp only; omega⟩, ?_⟩
                              · rw [hcsz]; dsimp only; omega
                              · intro i v hv
                                rw [List.getElem?_map] at hv
                                cases hv2 : (vs.take (sLen * size) ++ new)[i]? with
                                | none => rw [hv2] at hv; cases hv
                                | some u =>
                                  rw [hv2] at hv
                                  cases hv
                                  dsimp only
                                  by_cases hi2 : i < sLen * size
                                  · rw [List.getElem?_append_left (by omega), List.getElem?_take_of_lt hi2] at hv2
                                    have h5 : (c.drop off)[i]? = some (some v) := by rw [u2, List.getElem?_map, hv2]; rfl
                                    rw [List.getElem?_drop] at h5
                                    obtain ⟨v', h6, h7⟩ := q8 _ _ h5
                                    exact ⟨v', by rw [r5 _ (by omega), ← h6]; congr 1; omega, h7.ext (Mp.add_ext _ hμn)⟩
                                  · rw [List.getElem?_append_right (by omega), htl] at hv2
                                    have hi3 : i - sLen * size < newA.toList.length := by
                                      have := (List.getElem?_eq_some_iff.1 hv2).1
                                      omega
                                    rcases hnew.get (i - sLen * size) with ⟨h1, h2⟩ | ⟨x1, x2, h1, h2, h3⟩
                                    · rw [h1] at hv2; cases hv2
                                    · rw [h1] at hv2; cases hv2
                                      refine ⟨x2, ?_, h3.ext (Mp.add_ext _ hμn)⟩
                                      have := r6 (i - sLen * size) hi3
                                      rw [h2] at this
                                      rw [← this]; congr 1; omega)
                            (fun b2 x2 e2 hb2 he2 hsame i hi2 => by
                              refine hno b2 x2 e2 hb2 he2 hsame i ?_ hi2.2
                              rcases hi2.1 with ⟨q, u, _, rfl⟩ | ⟨_, h9⟩
                              · dsimp only; omega
                              · dsimp only at h9; omega)
                          refine ⟨_, w', .slice (some ⟨e.b, e.o + off, none⟩) (sLen + n) sCap', hadd.1, ?_, hadd.2, ?_⟩
                          · unfold appendS
                            rw [if_pos hroomc]
                            simp only [Sem.run_bind]
                            rw [hnrun w rfl]
                            simp only [Result.andThen_ok, add_eq, Sem.run_bind]
                            rw [r1]
                            rfl
                          · have := VR.slice (μ := Mp.add μ st1.nx ⟨e.b, e.o + off, (sLen + n) * size, size, sCap' - (sLen + n)⟩) st1.nx 0 ⟨e.b, e.o + off, (sLen + n) * size, size, sCap' - (sLen + n)⟩ (sLen + n) (sLen + n) sCap' (Mp.add_same _ _) (by
                              by_cases hq : sCap' = sLen + n
                              · exact .inl hq
                              · refine .inr ⟨by omega, by dsimp only; omega, by dsimp only; omega, by dsimp only; omega⟩)
                            exact this
                    · -- a new block
                      refine fresh (vs.take (sLen * size)) l'.toArray _ (by simpa using hl') htl u5 hsc hroomc fun w2 hw => ?_
                      have := hlrun w2 hw #[]
                      rw [htl] at this
                      simpa [Builtin.firstCells, loadCells] using this
def zerosT (j : TInfo) (elem : TypeId) (n : Nat) : AT Value :=
  bif Nat.beq n 0 then .ret (.slice none 0 0) else
  match j.info.zero with
  | some z =>
    bif Nat.beq z.cells.size j.info.size && Nat.ble ((2 * n + 512) * j.info.bytes) 281474976710656 && Nat.ble 1 j.info.size && Nat.ble n 1000000000000 && (Builtin.zeroCells z.cells n).toList.all plain then
      growT elem j.info.size n (Builtin.zeroCells z.cells n).toList
    else .fail
  | none => .fail
def zerosI (j : TInfo) (elem : TypeId) : Int → AT Value
  | .ofNat n => zerosT j elem n
  | .negSucc _ => .fail
/-- append([]T(nil), make([]T, n)...). -/
theorem sim_zeros (hty : TyOk P ty) {t0 t1 : TypeId} {i0 i1 j : TInfo} {elem : TypeId} {argTypes : Array TypeId} {type : TypeId} {ik k : IntKind} {l : Int} {n : Nat}
    (ha0 : argTypes[0]? = some t0) (ha1 : argTypes[1]? = some t1) (h0 : ty t0 = some i0) (h1 : ty t1 = some i1) (hu : i0.u = .slice elem) (hi1 : i1.u = .int ik) (hj : ty elem = some j) (hl : IntKind.i64.wrap l = (n : Int)) :
    Sim P N w0 VR μ (zerosT j elem n) (Builtin.append_ argTypes type #[.slice none 0 0, .int k l]) := by
  obtain ⟨a1, a2⟩ := hty _ _ h0
  obtain ⟨b1, b2⟩ := hty _ _ h1
  obtain ⟨c1, c2⟩ := hty _ _ hj
  have hai : ∀ w, (asInt (.int k l)).run P w = .ok l w := fun _ => rfl
  unfold zerosT
  cases hn : Nat.beq n 0 with
  | true =>
    have hn := Nat.eq_of_beq_eq_true hn
    subst hn
    refine Sim.retRun (b := .slice none 0 0) (fun w => ?_) (.sliceNil _ _)
    unfold Builtin.append_
    simp [ha0, ha1, Sem.run_bind, run_underlying a2, hu, run_sizeOf c1, run_underlying b2, hi1, hl, hai, run_typeInfo c1]
  | false =>
    have hn0 : n ≠ 0 := fun h => by subst h; cases hn
    simp only [cond_false]
    cases hz : j.info.zero with
    | none => exact Sim.fail
    | some z =>
      dsimp only
      cases hg : Nat.beq z.cells.size j.info.size && Nat.ble ((2 * n + 512) * j.info.bytes) 281474976710656 && Nat.ble 1 j.info.size && Nat.ble n 1000000000000 && (Builtin.zeroCells z.cells n).toList.all plain with
      | false => exact Sim.fail
      | true =>
        simp only [Bool.and_eq_true, Nat.ble_eq] at hg
        obtain ⟨⟨⟨⟨hg1, hg2⟩, hg3⟩, hg4⟩, hg5⟩ := hg
        have hg1 := Nat.eq_of_beq_eq_true hg1
        simp only [cond_true]
        intro st w a st' ht hs
        have hrun : ∃ nc d, n ≤ nc ∧ (Builtin.append_ argTypes type #[.slice none 0 0, .int k l]).run P w =
            .ok (.slice (some ⟨w.heap.size, 0, none⟩) n nc) { w with heap := w.heap.push (.cells (Builtin.zeroCells z.cells n ++ Builtin.zeroCells z.cells (nc - n)) elem (0, 0)), drawn := d } := by
          refine ⟨(Question.appendCap n 0 elem).cut (w.tape w.drawn (.appendCap n 0 elem)), w.drawn + 1, ?_, ?_⟩
          · simp only [Question.cut]; omega
          · have hmul : n * j.info.size ≠ 0 := Nat.mul_ne_zero hn0 (by omega)
            have hnb : n * j.info.bytes ≤ (2 * n + 512) * j.info.bytes := Nat.mul_le_mul_right _ (by omega)
            have hlim : ¬ ((n : Int) * (j.info.bytes : Int) > 2 ^ 48) := by
              have : ((n * j.info.bytes : Nat) : Int) = (n : Int) * (j.info.bytes : Int) := by push_cast; rfl
              rw [← this]; omega
            have hcap : ¬ Builtin.nextslicecap n 0 * j.info.bytes > 2 ^ 48 := by
              have := Nat.mul_le_mul_right j.info.bytes (nextslicecap_le (need := n) (c := 0) (by omega))
              omega
            have hmax : ¬ ((n : Int) > IntKind.i64.max) := by
              have : IntKind.i64.max = 9223372036854775807 := by decide
              omega
            have hneg : ¬ ((n : Int) < 0) := by omega
            have hle : ¬ n ≤ 0 := by omega
            unfold Builtin.append_
            simp only [ha0, ha1, List.getElem?_toArray, List.getElem?_cons_zero, List.getElem?_cons_succ, Sem.run_bind, run_underlying a2, hu, Result.andThen_ok, run_sizeOf c1, run_underlying b2, hi1, Sem.run_pure, hai, hl, hneg, if_false, if_true,
              run_typeInfo c1, hlim, Int.toNat_natCast, Nat.zero_add, hle, hmax, false_and, hcap, run_choose, Question.forced, Bool.false_eq_true, run_askRoom, Builtin.firstCells, Nat.zero_mul, Bool.not_true, hmul, run_zeroValue c1 hz, newRow, run_newObj]
            simp
        obtain ⟨nc, d, hnc, hrun⟩ := hrun
        have hlen : (Builtin.zeroCells z.cells n).toList.length = n * j.info.size := by simp [zeroCells_size, hg1]
        obtain ⟨ν, e, e1, e2, e3, e4, e5, e6, e7, e8, e9⟩ := grow_fresh (w := w) (x := nc - n) (rest := Builtin.zeroCells z.cells (nc - n)) ht hs (VRs.refl_of fun v hv => plain_refl _ (List.all_eq_true.1 hg5 v hv)) hlen (by omega) (by rw [zeroCells_size, hg1]; exact Nat.le_refl _)
        refine ⟨ν, _, _, e1, hrun, ?_, ?_⟩
        · have := e2.drew d
          simpa using this
        · rw [e3]
          have := VR.slice (μ := ν) st.nx 0 e n n nc e4 (by
            by_cases hq : nc = n
            · exact .inl hq
            · exact .inr ⟨by omega, by omega, by rw [e7, e9]; omega, by rw [e8]; omega⟩)
          rw [e5, e6] at this
          exact this
def appendT (ty : Nat → Option TInfo) (argTypes : Array TypeId) (s x : Value) : AT Value :=
  match argTypes[0]?, argTypes[1]? with
  | some t0, some t1 => match ty t0, ty t1 with
    | some i0, some i1 => match i0.u with
      | .slice elem => bif isIntD i1.u then
          match ty elem, s, x with
          | some j, .slice none 0 0, .int _ l => zerosI j elem (IntKind.i64.wrap l)
          | _, _, _ => .fail
        else
        match ty elem, s, lenV x with
        | some _, .slice (some ⟨_, _, some _⟩) _ _, some _ => .fail
        | some j, .slice base sLen sCap, some n => appendB j elem base sLen sCap n x
        | _, _, _ => .fail
      | _ => .fail
    | _, _ => .fail
  | _, _ => .fail
theorem sim_append (hty : TyOk P ty) (argTypes : Array TypeId) (type : TypeId) {s s' x x' : Value} (hs : VR μ s s') (hx : VR μ x x') :
    Sim P N w0 VR μ (appendT ty argTypes s x) (Builtin.append_ argTypes type #[s', x']) := by
  unfold appendT
  cases ha0 : argTypes[0]? with
  | none => exact Sim.fail
  | some t0 =>
    cases ha1 : argTypes[1]? with
    | none => exact Sim.fail
    | some t1 =>
      dsimp only
      cases h0 : ty t0 with
      | none => exact Sim.fail
      | some i0 =>
        cases h1 : ty t1 with
        | none => exact Sim.fail
        | some i1 =>
          dsimp only
          cases hu : i0.u with
          | slice elem =>
            dsimp only
            cases hi : isIntD i1.u with
            | true =>
              simp only [cond_true]
              cases hd : i1.u with
              | int ik =>
                cases hj : ty elem with
                | none => exact Sim.fail
                | some j =>
                  cases hs with
                  | sliceNil l c =>
                    cases l with
                    | succ l => exact Sim.fail
                    | zero =>
                      cases c with
                      | succ c => exact Sim.fail
                      | zero =>
                        cases hx with
                        | int k l =>
                          show Sim P N w0 VR μ (zerosI j elem (IntKind.i64.wrap l)) _
                          cases hw : IntKind.i64.wrap l with
                          | negSucc q => exact Sim.fail
                          | ofNat n => exact sim_zeros hty ha0 ha1 h0 h1 hu hd hj hw
                        | _ => exact Sim.fail
                  | _ => exact Sim.fail
              | _ => rw [hd] at hi; cases hi
            | false =>
              simp only [cond_false]
              cases hj : ty elem with
              | none => exact Sim.fail
              | some j =>
                cases hl : lenV x with
                | none =>
                  cases s with
                  | slice a l c =>
                    cases a with
                    | none => exact Sim.fail
                    | some a => obtain ⟨_, _, sp⟩ := a; cases sp <;> exact Sim.fail
                  | _ => exact Sim.fail
                | some n =>
                  have key : ∀ base base' sLen sCap sCap', VR μ (.slice base sLen sCap) (.slice base' sLen sCap') → (∀ b o s, base ≠ some ⟨b, o, some s⟩) → Sim P N w0 VR μ (appendB j elem base sLen sCap n x) (Builtin.append_ argTypes type #[.slice base' sLen sCap', x']) := by
                    intro base base' sLen sCap sCap' hsl hnm
                    have hle : sCap ≤ sCap' := by
                      cases hsl with
                      | sliceNil => exact Nat.le_refl _
                      | sliceEnd => exact Nat.zero_le _
                      | slice _ _ _ _ _ _ _ hc => exact capOk_le hc
                    by_cases hroom : sLen + n ≤ sCap
                    · refine Sim.congr (fun w => run_append hty ha0 ha1 h0 h1 hu hi hj (fun w => run_lenOf hx hl w) (z := .bool false) (fun h => absurd (Nat.le_trans hroom hle) h) w) ?_
                      exact sim_appendB hty hj hsl hnm hx fun h => absurd hroom h
                    · unfold appendB
                      have hb : Nat.ble (sLen + n) sCap = false := by
                        cases hh : Nat.ble (sLen + n) sCap with
                        | false => rfl
                        | true => rw [Nat.ble_eq] at hh; exact absurd hh hroom
                      cases hz : j.info.zero with
                      | none => rw [hb]; exact Sim.fail
                      | some z =>
                        cases hg : Nat.beq z.cells.size j.info.size && Nat.ble ((2 * (sLen + n) + 512) * j.info.bytes) 281474976710656 && Nat.ble 1 j.info.size && Nat.ble (sLen + n) 1000000000000 && Nat.ble sLen sCap with
                        | false => rw [hb]; simp only [cond_false, hg]; exact Sim.fail
                        | true =>
                          have hg' := hg
                          simp only [Bool.and_eq_true, Nat.ble_eq] at hg'
                          refine Sim.congr (fun w => run_append hty ha0 ha1 h0 h1 hu hi hj (fun w => run_lenOf hx hl w) (z := z) (fun _ => ⟨hz, hg'.1.1.1.2, hg'.1.2⟩) w) ?_
                          have := sim_appendB (N := N) (w0 := w0) (n := n) hty hj hsl hnm hx (z := z) fun _ => hz
                          unfold appendB at this
                          rw [hz] at this
                          exact this
                  cases hs with
                  | sliceNil l c => exact key none none l c c (.sliceNil l c) (fun _ _ _ h => by cases h)
                  | slice b off e l c c' he hc => exact key _ _ l c c' (.slice b off e l c c' he hc) (fun _ _ _ h => by cases h)
                  | _ => exact Sim.fail
          | _ => exact Sim.fail
end
end Go.Proofs.YtndjhcmgngnfbaaGreatDoor.AM
