/- Slices of slices, make, copy, len, bytes and strings. No condition. -/
import Derived.Test.YtndjhcmgngnfbaaGreatDoorAmH
import Derived.IntWalk
set_option linter.unusedSimpArgs false
set_option linter.unusedVariables false
set_option linter.all false
section
namespace Go.Proofs.YtndjhcmgngnfbaaGreatDoor.AM
open Go Go.RowKit
section
variable {P : Program} {N : Nat} {w0 w : World} {h : Tr Blk} {α β γ δ : Type} {R : Mp → α → β → Prop} {μ : Mp} {ty : Nat → Option TInfo}
/-- A bound of a slice expression. -/
def bnd (y : Nat) : Value → Option Nat
  | .int _ i => idx i (y + 1)
  | _ => none
theorem run_bound {y k : Nat} {v v' : Value} (hv : VR μ v v') (h : bnd y v = some k) (code : BoundsCode) (w : World) : (Instr.sliceBound v' y code).run P w = .ok k w ∧ k ≤ y := by
  cases hv with
  | int kd i =>
    obtain ⟨h1, h2, h3, h4⟩ := idx_some h
    refine ⟨?_, by omega⟩
    simp only [Instr.sliceBound, asIntOf, Sem.run_bind, Sem.run_pure, Result.andThen_ok]
    rw [if_pos ⟨h1, by omega⟩, h3]
    rfl
  | _ => cases h
def OV (μ : Mp) : Option Value → Option Value → Prop
  | none, none => True
  | some v, some v' => VR μ v v'
  | _, _ => False
def bndO (d y : Nat) : Option Value → Option Nat
  | none => some d
  | some v => bnd y v
/-- The bounds of a slice expression: low, high, and the end of the capacity. -/
def bounds (len cap : Nat) (low high max : Option Value) : Option (Nat × Nat × Nat) :=
  match max, high with
  | some v, some u =>
    match bnd cap v with
    | some m => match bnd m u with
      | some h => match bndO 0 h low with
        | some l => some (l, h, m)
        | none => none
      | none => none
    | none => none
  | some _, none => none
  | none, high => match bndO len cap high with
    | some h => match bndO 0 h low with
      | some l => some (l, h, cap)
      | none => none
    | none => none
theorem idx_mono {i : Int} {a b k : Nat} (h : idx i a = some k) (hab : a ≤ b) : idx i b = some k := by
  unfold idx idx.Int.blt' at h ⊢
  cases i with
  | ofNat m =>
    dsimp only at h ⊢
    cases hb : Nat.blt m a with
    | false => rw [hb] at h; cases h
    | true =>
      rw [hb] at h
      have : Nat.blt m b = true := by rw [Nat.blt_eq] at hb ⊢; omega
      rw [this]; exact h
  | negSucc m => cases h
theorem bnd_mono {a b k : Nat} {v : Value} (h : bnd a v = some k) (hab : a ≤ b) : bnd b v = some k := by
  cases v <;> first | (cases h; done) | exact idx_mono h (by omega)
theorem run_boundO {d y k : Nat} {v v' : Option Value} (hv : OV μ v v') (h : bndO d y v = some k) (code : BoundsCode) (w : World) :
    (match v' with | some u => Instr.sliceBound u y code | none => pure d : Sem Nat).run P w = .ok k w := by
  cases v with
  | none => cases v' with | none => cases h; rfl | some u => exact hv.elim
  | some v => cases v' with | none => exact hv.elim | some u => exact (run_bound hv h code w).1
/-- With the capacity that the model has. -/
theorem run_bounds {isSlice : Bool} {len cap cap' l h m : Nat} {low low' high high' max max' : Option Value} (hl : OV μ low low') (hh : OV μ high high') (hm : OV μ max max') (hb : bounds len cap low high max = some (l, h, m)) (hc : cap ≤ cap') (w : World) :
    (Instr.sliceBounds isSlice len cap' low' high' max').run P w = .ok (l, h, if max.isSome then m else cap') w := by
  unfold bounds at hb
  unfold Instr.sliceBounds
  cases max with
  | none =>
    cases max' with
    | some _ => exact hm.elim
    | none =>
      dsimp only at hb
      cases h1 : bndO len cap high with
      | none => rw [h1] at hb; cases hb
      | some hq =>
        rw [h1] at hb
        dsimp only at hb
        cases h2 : bndO 0 hq low with
        | none => rw [h2] at hb; cases hb
        | some lq =>
          rw [h2] at hb
          cases hb
          have lowR : ∀ (code : BoundsCode) (w : World), low = none ∧ low' = none ∧ l = 0 ∨ ∃ u', low' = some u' ∧ (Instr.sliceBound u' h code).run P w = .ok l w := by
            intro code w
            cases low with
            | none => cases low' with | none => cases h2; exact .inl ⟨rfl, rfl, rfl⟩ | some u => exact hl.elim
            | some u =>
              cases low' with
              | none => exact hl.elim
              | some u' => exact .inr ⟨u', rfl, (run_bound (P := P) hl h2 code w).1⟩
          cases high with
          | none =>
            cases high' with
            | some u => exact hh.elim
            | none =>
              cases h1
              rcases lowR .sliceB w with ⟨_, g2, g3⟩ | ⟨u', g1, g2⟩
              · subst g2; subst g3; simp
              · subst g1; simp [g2]
          | some v =>
            cases high' with
            | none => exact hh.elim
            | some u =>
              have r1 := (run_bound (P := P) hh (bnd_mono h1 hc) (if isSlice = true then .sliceAcap else .sliceAlen) w).1
              rcases lowR .sliceB w with ⟨_, g2, g3⟩ | ⟨u', g1, g2⟩
              · subst g2; subst g3; simp [r1]
              · subst g1; simp [r1, g2]
  | some v =>
    cases max' with
    | none => exact hm.elim
    | some v' =>
      cases high with
      | none => cases hb
      | some u =>
        cases high' with
        | none => exact hh.elim
        | some u' =>
          dsimp only at hb
          cases h1 : bnd cap v with
          | none => rw [h1] at hb; cases hb
          | some mq =>
            rw [h1] at hb
            dsimp only at hb
            cases h2 : bnd mq u with
            | none => rw [h2] at hb; cases hb
            | some hq =>
              rw [h2] at hb
              dsimp only at hb
              cases h3 : bndO 0 hq low with
              | none => rw [h3] at hb; cases hb
              | some lq =>
                rw [h3] at hb
                cases hb
                have e0 := fun w => (run_bound (P := P) hm (bnd_mono h1 hc) (if isSlice = true then .slice3Acap else .slice3Alen) w).1
                have e1 := fun w => (run_bound (P := P) hh h2 .slice3B w).1
                simp only [Sem.run_bind, e0, e1, Result.andThen_ok]
                cases low with
                | none => cases low' with | none => cases h3; simp | some u => exact hl.elim
                | some x =>
                  cases low' with
                  | none => exact hl.elim
                  | some x' =>
                    have := (run_bound (P := P) hl h3 .slice3C w).1
                    simp [this]
def sliceT (ty : Nat → Option TInfo) (t : TypeId) (x : Value) (low high max : Option Value) : AT Value :=
  match ty t with
  | none => .fail
  | some i => match i.u, x with
    | .string, .string s => bif max.isSome then .fail else
      match bounds s.data.toList.length s.data.toList.length low high none with
      | some (l, h, _) => .ret (.string ⟨((s.data.toList.take h).drop l).toArray⟩)
      | none => .fail
    | .slice elem, .slice base len cap => match ty elem, bounds len cap low high max with
      | some j, some (l, h, m) =>
        match base with
        | none => .ret (.slice none (h - l) (m - l))
        | some ⟨_, _, some _⟩ => bif max.isNone && Nat.beq h 0 && Nat.beq l 0 then .ret (.slice (some ⟨0, 0, some 0⟩) 0 0) else .fail
        | some ⟨b, off, none⟩ =>
          bif max.isSome then .ret (.slice (some (if m = l then ⟨b, off, none⟩ else ⟨b, off + l * j.info.size, none⟩)) (h - l) (m - l))
          else .shape b fun _ _ kd =>
            bif Nat.ble kd 1 || (Nat.beq kd (j.info.size + 2) && Nat.ble l m && (!(Nat.beq m l) || Nat.beq l 0)) then
              .ret (.slice (some (if m = l then ⟨b, off, none⟩ else ⟨b, off + l * j.info.size, none⟩)) (h - l) (m - l))
            else bif Nat.beq m l && Nat.beq h l then .ret (.slice (some ⟨0, 0, some 0⟩) 0 0) else .fail
      | _, _ => .fail
    | .array n elem, .pointer (some ⟨b, off, none⟩) => match ty elem, bounds n n low high max with
      | some j, some (l, h, m) => .ret (.slice (some (if m = l then ⟨b, off, none⟩ else ⟨b, off + l * j.info.size, none⟩)) (h - l) (m - l))
      | _, _ => .fail
    | .pointer arr, .pointer (some ⟨b, off, none⟩) => match ty arr with
      | some ia => match ia.u with
        | .array n elem => match ty elem, bounds n n low high max with
          | some j, some (l, h, m) => .ret (.slice (some (if m = l then ⟨b, off, none⟩ else ⟨b, off + l * j.info.size, none⟩)) (h - l) (m - l))
          | _, _ => .fail
        | _ => .fail
      | none => .fail
    | _, _ => .fail
theorem bounds_le {len cap l h m : Nat} {low high max : Option Value} (hb : bounds len cap low high max = some (l, h, m)) : max = none → m = cap := by
  intro hm
  subst hm
  unfold bounds at hb
  dsimp only at hb
  cases h1 : bndO len cap high with
  | none => rw [h1] at hb; cases hb
  | some hq =>
    rw [h1] at hb
    dsimp only at hb
    cases h2 : bndO 0 hq low with
    | none => rw [h2] at hb; cases hb
    | some lq => rw [h2] at hb; cases hb; rfl
theorem vr_slice_at {b off l s n c : Nat} {e : Ent} (he : μ b = some e) (q : Prop) [Decidable q] :
    VR μ (.slice (some (if q then ⟨b, off, none⟩ else ⟨b, off + l * s, none⟩)) n c) (.slice (some (if q then ⟨e.b, e.o + off, none⟩ else ⟨e.b, e.o + (off + l * s), none⟩)) n c) := by
  by_cases hq : q
  · rw [if_pos hq, if_pos hq]; exact .slice b off e n c c he (.inl rfl)
  · rw [if_neg hq, if_neg hq]; exact .slice b _ e n c c he (.inl rfl)
theorem sim_slice (hty : TyOk P ty) (t : TypeId) {x x' : Value} {low low' high high' max max' : Option Value} (hx : VR μ x x') (hl : OV μ low low') (hh : OV μ high high') (hm : OV μ max max') :
    Sim P N w0 VR μ (sliceT ty t x low high max) (Instr.sliceAt t x' low' high' max') := by
  unfold sliceT
  cases hi : ty t with
  | none => exact Sim.fail
  | some i =>
    obtain ⟨a1, a2⟩ := hty t i hi
    dsimp only
    unfold Instr.sliceAt
    refine Sim.underlying a2 ?_
    have hmm : max'.isSome = max.isSome := by cases max <;> cases max' <;> first | rfl | exact hm.elim
    cases hu : i.u with
    | string =>
      cases hx with
      | string s =>
        dsimp only
        cases hmx : max.isSome with
        | true => exact Sim.fail
        | false =>
          simp only [cond_false]
          cases hb : bounds s.data.toList.length s.data.toList.length low high none with
          | none => exact Sim.fail
          | some p =>
            obtain ⟨l, h, m⟩ := p
            have hb' := fun w => run_bounds (P := P) (isSlice := false) (cap' := s.size) hl hh (max := none) (max' := none) trivial hb (Nat.le_refl _) w
            refine Sim.retRun (b := .string (s.extract l h)) (fun w => ?_) ?_
            · rw [hmx] at hmm
              have : max' = none := by cases max' <;> first | rfl | (simp at hmm)
              subst this
              simp only [Instr.slice, Sem.run_bind, run_underlying a2, hu, Result.andThen_ok]
              have h9 : (Instr.sliceBounds false s.size s.size low' high' none).run P w = .ok (l, h, s.size) w := by
                have := hb' w
                simpa using this
              simp [h9]
            · have : s.extract l h = ⟨((s.data.toList.take h).drop l).toArray⟩ := by
                apply ByteArray.ext
                apply Array.ext'
                simp [ByteArray.data_extract, List.extract_eq_take_drop, List.drop_take]
              rw [this]
              exact .string _
      | _ => exact Sim.fail
    | slice elem =>
      have key : ∀ (base base' : Option Addr) (len cap cap' : Nat), VR μ (.slice base len cap) (.slice base' len cap') → ∀ j l h m, ty elem = some j → bounds len cap low high max = some (l, h, m) → ∀ w,
          (Instr.slice t (.slice base' len cap') low' high' max').run P w = .ok (.slice (if (if max.isSome then m else cap') = l then base' else base'.map fun y : Addr => y.add (l * j.info.size)) (h - l) ((if max.isSome then m else cap') - l)) w := by
        intro base base' len cap cap' hv j l h m hj hb w
        have hle : cap ≤ cap' := by
          cases hv with
          | sliceNil => exact Nat.le_refl _
          | sliceEnd => exact Nat.zero_le _
          | slice _ _ _ _ _ _ _ hc => exact capOk_le hc
        have hb' := run_bounds (P := P) (isSlice := true) hl hh hm hb hle w
        simp only [Instr.slice, Sem.run_bind, run_underlying a2, hu, Result.andThen_ok, hb', run_sizeOf (hty _ _ hj).1, Sem.run_pure]
      cases hx with
      | sliceEnd b o c =>
        dsimp only
        cases hj : ty elem with
        | none => exact Sim.fail
        | some j =>
          cases hb : bounds 0 0 low high max with
          | none => exact Sim.fail
          | some p =>
            obtain ⟨l, h, m⟩ := p
            dsimp only
            cases hz : max.isNone && Nat.beq h 0 && Nat.beq l 0 with
            | false => exact Sim.fail
            | true =>
              simp only [Bool.and_eq_true] at hz
              have hz1 := Nat.eq_of_beq_eq_true hz.1.2
              have hz2 := Nat.eq_of_beq_eq_true hz.2
              subst hz1 hz2
              simp only [cond_true]
              refine Sim.retRun (fun w => key _ _ 0 0 c (.sliceEnd b o c) j 0 0 m hj hb w) ?_
              simp only [Option.map_some, Nat.zero_mul, Nat.sub_self]
              have : ∀ q : Nat, (if q = 0 then some (⟨b, o, none⟩ : Addr) else some (Addr.add ⟨b, o, none⟩ 0)) = some ⟨b, o, none⟩ := by intro q; split <;> rfl
              rw [this]
              exact .sliceEnd _ _ _
      | sliceNil len cap =>
        dsimp only
        cases hj : ty elem with
        | none => exact Sim.fail
        | some j =>
          cases hb : bounds len cap low high max with
          | none => exact Sim.fail
          | some p =>
            obtain ⟨l, h, m⟩ := p
            dsimp only
            refine Sim.retRun (fun w => key none none len cap cap (.sliceNil _ _) j l h m hj hb w) ?_
            have hq : (if max.isSome = true then m else cap) = m := by
              cases hmx : max with
              | none => rw [bounds_le hb hmx]; simp
              | some v => simp
            rw [hq]
            have : (if m = l then (none : Option Addr) else Option.map (fun x : Addr => x.add (l * j.info.size)) none) = none := by split <;> rfl
            rw [this]
            exact .sliceNil _ _
      | slice b off e len cap cap' he hc =>
        dsimp only
        cases hj : ty elem with
        | none => exact Sim.fail
        | some j =>
          cases hb : bounds len cap low high max with
          | none => exact Sim.fail
          | some p =>
            obtain ⟨l, h, m⟩ := p
            dsimp only
            have hrun := key _ _ len cap cap' (.slice b off e len cap cap' he hc) j l h m hj hb
            have hadd : Option.map (fun x : Addr => x.add (l * j.info.size)) (some (⟨e.b, e.o + off, none⟩ : Addr)) = some ⟨e.b, e.o + (off + l * j.info.size), none⟩ := by
              simp only [Option.map_some, add_eq, Nat.add_assoc]
            rw [hadd] at hrun
            cases hmx : max with
            | some v =>
              simp only [Option.isSome_some, cond_true]
              rw [hmx] at hrun
              simp only [Option.isSome_some, if_true] at hrun
              refine Sim.retRun hrun ?_
              by_cases hml : m = l
              · rw [if_pos hml, if_pos hml]; exact .slice b off e _ _ _ he (.inl rfl)
              · rw [if_neg hml, if_neg hml]; exact .slice b _ e _ _ _ he (.inl rfl)
            | none =>
              simp only [Option.isSome_none, cond_false]
              have hmc := bounds_le hb hmx
              subst hmc
              rw [hmx] at hrun
              simp only [Option.isSome_none, Bool.false_eq_true, if_false] at hrun
              refine Sim.shape he fun t' kd hk1 hk2 => ?_
              cases hg : Nat.ble kd 1 || (Nat.beq kd (j.info.size + 2) && Nat.ble l m && (!(Nat.beq m l) || Nat.beq l 0)) with
              | false =>
                simp only [cond_false]
                cases hz : Nat.beq m l && Nat.beq h l with
                | false => exact Sim.fail
                | true =>
                  rw [Bool.and_eq_true] at hz
                  have hz1 := Nat.eq_of_beq_eq_true hz.1
                  have hz2 := Nat.eq_of_beq_eq_true hz.2
                  refine Sim.retRun hrun ?_
                  subst hz2
                  rw [Nat.sub_self]
                  by_cases hcc : cap' = h
                  · rw [if_pos hcc]; exact .sliceEnd _ _ _
                  · rw [if_neg hcc]; exact .sliceEnd _ _ _
              | true =>
                simp only [cond_true]
                refine Sim.retRun hrun ?_
                by_cases hcc : cap' = m
                · subst hcc
                  by_cases hml : cap' = l
                  · rw [if_pos hml, if_pos hml]; exact .slice b off e _ _ _ he (.inl rfl)
                  · rw [if_neg hml, if_neg hml]; exact .slice b _ e _ _ _ he (.inl rfl)
                · rcases hc with hc | ⟨c1, c2, c3, c4⟩
                  · exact absurd hc hcc
                  · rw [Bool.or_eq_true] at hg
                    rcases hg with hg | hg
                    · rw [Nat.ble_eq] at hg; exact absurd (hk1 hg) c2
                    · simp only [Bool.and_eq_true, Bool.or_eq_true, Bool.not_eq_true', Nat.ble_eq] at hg
                      obtain ⟨⟨g1, g2⟩, g3⟩ := hg
                      have g1 := Nat.eq_of_beq_eq_true g1
                      have hes : e.s = j.info.size := by have := (hk2 (by omega)).1; omega
                      have hcl : ¬ cap' = l := by omega
                      rw [if_neg hcl]
                      have hms : (m - l) * e.s = m * e.s - l * e.s := Nat.sub_mul _ _ _
                      have hmm2 : l * e.s ≤ m * e.s := Nat.mul_le_mul_right _ g2
                      rw [← hes]
                      by_cases hml : m = l
                      · rw [if_pos hml]
                        have hl0 : l = 0 := by
                          rcases g3 with g3 | g3
                          · rw [hml] at g3; simp at g3
                          · exact Nat.eq_of_beq_eq_true g3
                        subst hl0
                        have := VR.slice (μ := μ) b off e (h - 0) (m - 0) (cap' - 0) he (.inr ⟨by omega, c2, by simpa using c3, by omega⟩)
                        simpa using this
                      · rw [if_neg hml]
                        exact VR.slice b (off + l * e.s) e (h - l) (m - l) (cap' - l) he (.inr ⟨by omega, c2, by rw [hms]; omega, by omega⟩)
      | _ => exact Sim.fail
    | array n elem =>
      cases hx with
      | ptr b off e he =>
        dsimp only
        cases hj : ty elem with
        | none => exact Sim.fail
        | some j =>
          cases hb : bounds n n low high max with
          | none => exact Sim.fail
          | some p =>
            obtain ⟨l, h, m⟩ := p
            dsimp only
            have hb' := fun w => run_bounds (P := P) (isSlice := false) hl hh hm hb (Nat.le_refl _) w
            have hq : (if max.isSome = true then m else n) = m := by
              cases hmx : max with
              | none => rw [bounds_le hb hmx]; simp
              | some v => simp
            rw [hq] at hb'
            refine Sim.retRun (b := .slice (some (if m = l then ⟨e.b, e.o + off, none⟩ else ⟨e.b, e.o + (off + l * j.info.size), none⟩)) (h - l) (m - l)) (fun w => ?_) (vr_slice_at he _)
            simp only [Instr.sureAddr, Sem.run_bind, Sem.run_pure, Result.andThen_ok, hb', run_sizeOf (hty _ _ hj).1, add_eq, Nat.add_assoc]
      | _ => exact Sim.fail
    | pointer arr =>
      cases hx with
      | ptr b off e he =>
        dsimp only
        cases hia : ty arr with
        | none => exact Sim.fail
        | some ia =>
          obtain ⟨b1, b2⟩ := hty _ _ hia
          dsimp only
          cases hua : ia.u with
          | array n elem =>
            dsimp only
            cases hj : ty elem with
            | none => exact Sim.fail
            | some j =>
              cases hb : bounds n n low high max with
              | none => exact Sim.fail
              | some p =>
                obtain ⟨l, h, m⟩ := p
                dsimp only
                have hb' := fun w => run_bounds (P := P) (isSlice := false) hl hh hm hb (Nat.le_refl _) w
                have hq : (if max.isSome = true then m else n) = m := by
                  cases hmx : max with
                  | none => rw [bounds_le hb hmx]; simp
                  | some v => simp
                rw [hq] at hb'
                refine Sim.retRun (b := .slice (some (if m = l then ⟨e.b, e.o + off, none⟩ else ⟨e.b, e.o + (off + l * j.info.size), none⟩)) (h - l) (m - l)) (fun w => ?_) (vr_slice_at he _)
                simp only [Instr.slice, Sem.run_bind, run_underlying a2, hu, Result.andThen_ok, asAddr, Sem.run_pure, run_underlying b2, hua, hb', run_sizeOf (hty _ _ hj).1, add_eq, Nat.add_assoc]
          | _ => exact Sim.fail
      | _ => exact Sim.fail
    | _ => exact Sim.fail
def makeSliceT (ty : Nat → Option TInfo) (t : TypeId) (len cap : Value) : AT Value :=
  match ty t, len, cap with
  | some i, .int _ (.ofNat l), .int _ (.ofNat c) => match i.u with
    | .slice elem => match ty elem with
      | some j => bif Nat.ble l c && Nat.ble c 1000000 && Nat.ble j.info.bytes 1000000 then
          match (if c * j.info.size = 0 then some #[] else j.info.zero.map (·.cells)) with
          | none => .fail
          | some z => bif (zeroRow z (c * j.info.size)).all plain then
              .new (.cells ((zeroRow z (c * j.info.size)).map some) elem 1 false) fun b => .ret (.slice (some ⟨b, 0, none⟩) l c)
            else .fail
        else .fail
      | none => .fail
    | _ => .fail
  | _, _, _ => .fail
theorem wrap_small (n : Nat) (h : n ≤ 1000000) : IntKind.i64.wrap (Int.ofNat n) = (n : Int) := by
  rw [IntWalk.i64_in _ (by simp; omega)]; rfl
theorem sim_makeSlice (hty : TyOk P ty) (t : TypeId) {l l' c c' : Value} (hl : VR μ l l') (hc : VR μ c c') : Sim P N w0 VR μ (makeSliceT ty t l c) (Instr.makeSlice t l' c') := by
  unfold makeSliceT
  cases hi : ty t with
  | none => exact Sim.fail
  | some i =>
    obtain ⟨a1, a2⟩ := hty t i hi
    cases hl with
    | int kl ln =>
      cases ln with
      | negSucc _ => exact Sim.fail
      | ofNat l =>
        cases hc with
        | int kc cn =>
          cases cn with
          | negSucc _ => exact Sim.fail
          | ofNat c =>
            dsimp only
            cases hu : i.u with
            | slice elem =>
              dsimp only
              cases hj : ty elem with
              | none => exact Sim.fail
              | some j =>
                obtain ⟨b1, b2⟩ := hty _ _ hj
                dsimp only
                cases hg : Nat.ble l c && Nat.ble c 1000000 && Nat.ble j.info.bytes 1000000 with
                | false => exact Sim.fail
                | true =>
                  simp only [Bool.and_eq_true, Nat.ble_eq] at hg
                  obtain ⟨⟨g1, g2⟩, g3⟩ := hg
                  simp only [cond_true]
                  cases hz : (if c * j.info.size = 0 then some #[] else j.info.zero.map (·.cells)) with
                  | none => exact Sim.fail
                  | some z =>
                    dsimp only
                    cases hpz : (zeroRow z (c * j.info.size)).all plain with
                    | false => exact Sim.fail
                    | true =>
                      simp only [cond_true]
                      rw [List.all_eq_true] at hpz
                      have hzr : VRs μ (zeroRow z (c * j.info.size)) (zeroRow z (c * j.info.size)) := .refl_of fun v hv => plain_refl μ (hpz v hv)
                      have hmul : j.info.bytes * c ≤ 1000000 * 1000000 := Nat.mul_le_mul g3 g2
                      have key : ∀ w, (Instr.makeSlice t (.int kl (.ofNat l)) (.int kc (.ofNat c))).run P w = (newRow elem (zeroRow z (c * j.info.size)).toArray >>= fun a => pure (.slice (some a) l c)).run P w := by
                        intro w
                        have hzz : (Array.range (c * j.info.size)).map (z[· % z.size]!) = (zeroRow z (c * j.info.size)).toArray := by unfold zeroRow; exact (Array.toArray_toList).symm
                        unfold Instr.makeSlice
                        simp only [Sem.run_bind, run_underlying a2, hu, Result.andThen_ok, asInt, asIntOf, Sem.run_pure, run_typeInfo b1, wrap_small l (by omega), wrap_small c g2]
                        have hb1 : (j.info.bytes : Int) * (c : Int) ≤ 1000000 * 1000000 := by
                          have h9 := Int.ofNat_le.2 hmul
                          rw [Int.natCast_mul] at h9
                          omega
                        have t1 : decide ((c : Int) < 0) = false := decide_eq_false (by omega)
                        have t2 : decide ((j.info.bytes : Int) * (c : Int) > 2 ^ 48) = false := decide_eq_false (by omega)
                        have t3 : decide ((l : Int) < 0) = false := decide_eq_false (by omega)
                        have t4 : decide ((l : Int) > (c : Int)) = false := decide_eq_false (by omega)
                        rw [t1, t2, t3, t4]
                        simp only [Bool.or_false, Bool.false_eq_true, if_false]
                        simp only [Int.toNat_natCast, Sem.run_bind, run_askRoom, Result.andThen_ok, run_sizeOf b1]
                        by_cases h0 : c * j.info.size = 0
                        · rw [if_pos h0] at hz ⊢
                          cases hz
                          simp only [Sem.run_bind, Sem.run_pure, Result.andThen_ok]
                          rw [hzz]
                        · rw [if_neg h0] at hz ⊢
                          simp only [Option.map_eq_some_iff] at hz
                          obtain ⟨zv, hzv, rfl⟩ := hz
                          simp only [Sem.run_bind, run_zeroValue b1 hzv, Sem.run_pure, Result.andThen_ok]
                          rw [hzz]
                      refine Sim.congr key ?_
                      exact Sim.newExact hzr fun ν b e hx he ho hs hl => by
                        refine Sim.ret ?_
                        have := VR.slice (μ := ν) b 0 e l c c he (.inl rfl)
                        rw [ho] at this
                        exact this
            | _ => exact Sim.fail
        | _ => exact Sim.fail
    | _ => exact Sim.fail
def copyT (ty : Nat → Option TInfo) (argTypes : Array TypeId) (d s : Value) : AT Value :=
  match argTypes[0]? with
  | some t0 => match ty t0 with
    | some i0 => match i0.u with
      | .slice elem => match ty elem, d, lenV s with
        | some j, .slice base dLen _, some sn =>
          (firstT j.info.size (Nat.min sn dLen) s).bind fun vs =>
            match base with
            | some ⟨b, off, none⟩ => (storeN b off vs).bind fun _ => .ret (goInt (Nat.min sn dLen))
            | none => .ret (goInt (Nat.min sn dLen))
            | _ => .fail
        | _, _, _ => .fail
      | _ => .fail
    | none => .fail
  | none => .fail
theorem sim_copy (hty : TyOk P ty) (argTypes : Array TypeId) (type : TypeId) {d d' s s' : Value} (hd : VR μ d d') (hs : VR μ s s') : Sim P N w0 VR μ (copyT ty argTypes d s) (Builtin.copy_ argTypes type #[d', s']) := by
  unfold copyT
  cases ha0 : argTypes[0]? with
  | none => exact Sim.fail
  | some t0 =>
    dsimp only
    cases h0 : ty t0 with
    | none => exact Sim.fail
    | some i0 =>
      obtain ⟨a1, a2⟩ := hty _ _ h0
      dsimp only
      cases hu : i0.u with
      | slice elem =>
        dsimp only
        cases hj : ty elem with
        | none => exact Sim.fail
        | some j =>
          cases hl : lenV s with
          | none => cases d <;> exact Sim.fail
          | some sn =>
            have e1 : ∀ (base' : Option Addr) (n c' : Nat) (w : World), (Builtin.copy_ argTypes type #[.slice base' n c', s']).run P w =
                (Builtin.firstCells j.info.size (Nat.min sn n) s' >>= fun cells => match base' with | some a => storeCells a cells.toList >>= fun _ => pure (goInt (Nat.min sn n)) | none => pure (goInt (Nat.min sn n)) : Sem Value).run P w := by
              intro base' n c' w
              unfold Builtin.copy_
              simp only [ha0, List.getElem?_toArray, List.getElem?_cons_zero, List.getElem?_cons_succ, Sem.run_bind, run_underlying a2, hu, Result.andThen_ok, run_lenOf hs hl, run_sizeOf (hty _ _ hj).1]
              cases base' <;> rfl
            cases hd with
            | sliceEnd b o c =>
              dsimp only
              refine Sim.congr (e1 _ 0 c) ?_
              exact Sim.bind (sim_first _ _ hs) fun ν a b hx hab => Sim.fail
            | sliceNil n c =>
              dsimp only
              refine Sim.congr (e1 none n c) ?_
              exact Sim.bind (sim_first _ _ hs) fun ν a b hx hab => Sim.ret (.int _ _)
            | slice b off e n c c' he hc =>
              dsimp only
              refine Sim.congr (e1 _ n c') ?_
              refine Sim.bind (sim_first _ _ hs) fun ν vs arr hx hab => ?_
              dsimp only
              have h1 := sim_storeCells (P := P) (N := N) (w0 := w0) (b := b) (off := off) (e := e) vs arr.toList 0 ν (hx _ _ he) hab
              exact Sim.bind (R' := VR) h1 (f := fun _ => .ret (goInt (Nat.min sn n))) (g := fun _ => pure (goInt (Nat.min sn n))) fun ξ _ _ hξ _ => Sim.ret (.int _ _)
            | _ => exact Sim.fail
      | _ => exact Sim.fail
end
end Go.Proofs.YtndjhcmgngnfbaaGreatDoor.AM
end
/- Maps, iterators over strings, conversions, interfaces, of the abstract machine and of the model. No condition. -/
section
namespace Go.Proofs.YtndjhcmgngnfbaaGreatDoor.AM
open Go Go.RowKit
section
variable {P : Program} {N : Nat} {w0 w : World} {h : Tr Blk} {α β γ δ : Type} {R : Mp → α → β → Prop} {μ : Mp} {ty : Nat → Option TInfo}
theorem pureRun_bind (s : Sem α) (f : α → Sem β) : pureRun P (s >>= f) = (pureRun P s).bind fun a => pureRun P (f a) := by
  show pureRun P (s.bind f) = _
  induction s with
  | pure a => rfl
  | program k ih => exact ih P
  | mark m k ih => exact ih
  | _ => rfl
/-! ### Maps -/
def keysPlain (es : Array MapEntry) : Bool := es.toList.all fun e => plain e.key
theorem findNow_rel {d : TypeDesc} {k : Value} : ∀ {es es' : List MapEntry} (i : Nat), ERs μ es es' → (∀ e ∈ es, plain e.key = true) →
    (Instr.findNow d k es i = none → Instr.findNow d k es' i = none) ∧ (Instr.findNow d k es i = some none → Instr.findNow d k es' i = some none) ∧
    (∀ j v, Instr.findNow d k es i = some (some (j, v)) → ∃ v', Instr.findNow d k es' i = some (some (j, v')) ∧ VR μ v v') := by
  intro es es' i h
  induction h generalizing i with
  | nil => intro _; simp [Instr.findNow]
  | cons e e' l l' h1 h2 h3 _ ih =>
    intro hp
    have hk := plain_eq (hp e (by simp)) h1
    have ih := ih (i + 1) fun x hx => hp x (by simp [hx])
    simp only [Instr.findNow, hk]
    cases Instr.sameNow d k e.key with
    | none => simp
    | some b =>
      cases b with
      | true =>
        refine ⟨fun h => (by cases h), fun h => (by cases h), fun j v h => ?_⟩
        cases h
        exact ⟨_, rfl, h2⟩
      | false => exact ih
theorem findAsking_rel {kt : TypeId} {k : Value} : ∀ {es es' : List MapEntry} (i : Nat), ERs μ es es' → (∀ e ∈ es, plain e.key = true) →
    (pureRun P (Instr.findAsking kt k es i) = some none → ∀ w, (Instr.findAsking kt k es' i).run P w = .ok none w) ∧
    (∀ j v, pureRun P (Instr.findAsking kt k es i) = some (some (j, v)) → ∃ v', VR μ v v' ∧ ∀ w, (Instr.findAsking kt k es' i).run P w = .ok (some (j, v')) w) := by
  intro es es' i h
  induction h generalizing i with
  | nil => intro _; exact ⟨fun _ _ => rfl, fun j v h => by simp [Instr.findAsking, pureRun, Pure.pure] at h⟩
  | cons e e' l l' h1 h2 h3 _ ih =>
    intro hp
    have hk := plain_eq (hp e (by simp)) h1
    have ih := ih (i + 1) fun x hx => hp x (by simp [hx])
    simp only [Instr.findAsking, hk]
    cases hq : pureRun P (Op.equal kt k e.key) with
    | none =>
      refine ⟨fun h => ?_, fun j v h => ?_⟩
      · rw [pureRun_bind, hq] at h; cases h
      · rw [pureRun_bind, hq] at h; cases h
    | some b =>
      have hrun := pureRun_run _ _ hq
      cases b with
      | true =>
        refine ⟨fun h => ?_, fun j v h => ?_⟩
        · rw [pureRun_bind, hq] at h; simp [pureRun, Pure.pure] at h
        · rw [pureRun_bind, hq] at h
          simp [pureRun, Pure.pure] at h
          obtain ⟨rfl, rfl⟩ := h
          exact ⟨e'.val, h2, fun w => by simp [hrun]⟩
      | false =>
        refine ⟨fun h w => ?_, fun j v h => ?_⟩
        · rw [pureRun_bind, hq] at h
          simp only [Sem.run_bind, hrun, Result.andThen_ok, Bool.false_eq_true, if_false]
          exact ih.1 (by simpa using h) w
        · rw [pureRun_bind, hq] at h
          obtain ⟨v', g1, g2⟩ := ih.2 j v (by simpa using h)
          refine ⟨v', g1, fun w => ?_⟩
          simp only [Sem.run_bind, hrun, Result.andThen_ok, Bool.false_eq_true, if_false]
          exact g2 w
/-- The place of a key among the entries. -/
def findT (P : Program) (i : TInfo) (kt : TypeId) (k : Value) (es : Array MapEntry) : Option (Option (Nat × Value)) :=
  bif plain k && keysPlain es then
    match Instr.findNow i.u k es.toList 0 with
    | some r => some r
    | none => pureRun P (Instr.findAsking kt k es.toList)
  else none
theorem findT_rel (hty : TyOk P ty) {kt : TypeId} {i : TInfo} (hi : ty kt = some i) {k : Value} {es es' : Array MapEntry} (hE : ERs μ es.toList es'.toList) {r : Option (Nat × Value)} (hf : findT P i kt k es = some r) :
    plain k = true ∧ (r = none → ∀ w, (Instr.findKey kt k es'.toList).run P w = .ok none w) ∧ (∀ j v, r = some (j, v) → ∃ v', VR μ v v' ∧ ∀ w, (Instr.findKey kt k es'.toList).run P w = .ok (some (j, v')) w) := by
  unfold findT at hf
  cases hp : plain k && keysPlain es with
  | false => rw [hp] at hf; cases hf
  | true =>
    rw [hp] at hf
    simp only [cond_true] at hf
    simp only [Bool.and_eq_true, keysPlain, List.all_eq_true] at hp
    obtain ⟨h1, h2⟩ := hty _ _ hi
    have hn := findNow_rel (d := i.u) (k := k) 0 hE hp.2
    have ha := findAsking_rel (P := P) (kt := kt) (k := k) 0 hE hp.2
    refine ⟨hp.1, fun hr w => ?_, fun j v hr => ?_⟩
    · subst hr
      unfold Instr.findKey
      simp only [Sem.run_bind, run_underlying h2, Result.andThen_ok]
      cases hq : Instr.findNow i.u k es.toList 0 with
      | none => rw [hq] at hf; rw [hn.1 hq]; exact ha.1 hf w
      | some q => rw [hq] at hf; cases hf; rw [hn.2.1 hq]; rfl
    · subst hr
      cases hq : Instr.findNow i.u k es.toList 0 with
      | none =>
        rw [hq] at hf
        obtain ⟨v', g1, g2⟩ := ha.2 j v hf
        refine ⟨v', g1, fun w => ?_⟩
        unfold Instr.findKey
        simp only [Sem.run_bind, run_underlying h2, Result.andThen_ok]
        rw [hn.1 hq]; exact g2 w
      | some q =>
        rw [hq] at hf; cases hf
        obtain ⟨v', g1, g2⟩ := hn.2.2 j v hq
        refine ⟨v', g2, fun w => ?_⟩
        unfold Instr.findKey
        simp only [Sem.run_bind, run_underlying h2, Result.andThen_ok]
        rw [g1]; rfl
theorem ERs.length {l l' : List MapEntry} (h : ERs μ l l') : l.length = l'.length := by
  induction h with
  | nil => rfl
  | cons _ _ _ _ _ _ _ _ ih => simp [ih]
theorem ERs.empty {es es' : Array MapEntry} (h : ERs μ es.toList es'.toList) : es'.isEmpty = es.isEmpty := by
  have := h.length
  simp only [Array.length_toList] at this
  simp [Array.isEmpty, this]
theorem ERs.get {l l' : List MapEntry} (h : ERs μ l l') (i : Nat) : (l[i]? = none ∧ l'[i]? = none) ∨ ∃ e e', l[i]? = some e ∧ l'[i]? = some e' ∧ VR μ e.key e'.key ∧ VR μ e.val e'.val ∧ e.born = e'.born := by
  induction h generalizing i with
  | nil => exact .inl ⟨rfl, rfl⟩
  | cons e e' l l' h1 h2 h3 _ ih =>
    cases i with
    | zero => exact .inr ⟨e, e', rfl, rfl, h1, h2, h3⟩
    | succ i => simpa using ih i
theorem ERs.append {a a' b b' : List MapEntry} (h : ERs μ a a') (k : ERs μ b b') : ERs μ (a ++ b) (a' ++ b') := by
  induction h with
  | nil => exact k
  | cons e e' l l' h1 h2 h3 _ ih => exact .cons _ _ _ _ h1 h2 h3 ih
theorem ERs.modify {l l' : List MapEntry} (h : ERs μ l l') (i : Nat) {f f' : MapEntry → MapEntry} (hf : ∀ e e', VR μ e.key e'.key → VR μ e.val e'.val → e.born = e'.born → VR μ (f e).key (f' e').key ∧ VR μ (f e).val (f' e').val ∧ (f e).born = (f' e').born) :
    ERs μ (l.modify i f) (l'.modify i f') := by
  induction h generalizing i with
  | nil => simpa using ERs.nil
  | cons e e' l l' h1 h2 h3 h4 ih =>
    cases i with
    | zero =>
      simp only [List.modify_zero_cons]
      obtain ⟨g1, g2, g3⟩ := hf e e' h1 h2 h3
      exact .cons _ _ _ _ g1 g2 g3 h4
    | succ i => simp only [List.modify_succ_cons]; exact .cons _ _ _ _ h1 h2 h3 (ih i)
def getMap (m : Value) (k : Array MapEntry → Nat → AT α) (k0 : AT α) : AT α :=
  match m with
  | .map none => k0
  | .map (some r) => .getObj r fun o => match o with
    | .map es clock => k es clock
    | _ => .fail
  | _ => .fail
def lookupT (P : Program) (ty : Nat → Option TInfo) (t : TypeId) (m key : Value) (commaOk : Bool) : AT Value :=
  match ty t with
  | none => .fail
  | some i => match i.u with
    | .map kt et => match ty kt, ty et with
      | some ik, some ie => match ie.info.zero with
        | none => .fail
        | some z => bif plain z then
            let go (es : Array MapEntry) : AT Value :=
              match pureRun P (Instr.checkKey es.isEmpty 10000 kt key), findT P ik kt key es with
              | some _, some (some (_, v)) => .ret (if commaOk then .tuple #[v, .bool true] else v)
              | some _, some none => .ret (if commaOk then .tuple #[z, .bool false] else z)
              | _, _ => .fail
            getMap m (fun es _ => go es) (go #[])
          else .fail
      | _, _ => .fail
    | _ => .fail
theorem sim_lookup (hty : TyOk P ty) (t : TypeId) {m m' key key' : Value} (hm : VR μ m m') (hk : VR μ key key') (commaOk : Bool) : Sim P N w0 VR μ (lookupT P ty t m key commaOk) (Instr.lookup t m' key' commaOk) := by
  unfold lookupT
  cases hi : ty t with
  | none => exact Sim.fail
  | some i =>
    obtain ⟨a1, a2⟩ := hty _ _ hi
    dsimp only
    cases hu : i.u with
    | map kt et =>
      dsimp only
      cases hik : ty kt with
      | none => exact Sim.fail
      | some ik =>
        cases hie : ty et with
        | none => exact Sim.fail
        | some ie =>
          dsimp only
          cases hz : ie.info.zero with
          | none => exact Sim.fail
          | some z =>
            dsimp only
            cases hp : plain z with
            | false => exact Sim.fail
            | true =>
              simp only [cond_true]
              have body : ∀ (es es' : Array MapEntry), ERs μ es.toList es'.toList →
                  Sim P N w0 VR μ (match pureRun P (Instr.checkKey es.isEmpty 10000 kt key), findT P ik kt key es with
                    | some _, some (some (_, v)) => .ret (if commaOk then .tuple #[v, .bool true] else v)
                    | some _, some none => .ret (if commaOk then .tuple #[z, .bool false] else z)
                    | _, _ => .fail)
                  (do Instr.checkKey es'.isEmpty 10000 kt key'
                      let (v, ok) ← match ← Instr.findKey kt key' es'.toList with
                        | some (_, v) => pure (v, true)
                        | none => pure (← zeroValue et, false)
                      pure (if commaOk then .tuple #[v, .bool ok] else v)) := by
                intro es es' hE
                cases hc : pureRun P (Instr.checkKey es.isEmpty 10000 kt key) with
                | none => exact Sim.fail
                | some u =>
                  cases hf : findT P ik kt key es with
                  | none => exact Sim.fail
                  | some r =>
                    obtain ⟨hpk, h1, h2⟩ := findT_rel hty hik hE hf
                    have hkk := plain_eq hpk hk
                    subst hkk
                    have hcr := pureRun_run _ _ hc
                    rw [← hE.empty] at hcr
                    cases r with
                    | none =>
                      refine Sim.retRun (b := if commaOk then .tuple #[z, .bool false] else z) (fun w => ?_) ?_
                      · simp only [Sem.run_bind, hcr, Result.andThen_ok, h1 rfl, run_zeroValue (hty _ _ hie).1 hz, Sem.run_pure]
                      · split
                        · exact .tuple _ _ (.cons _ _ _ _ (plain_refl μ hp) (.cons _ _ _ _ (.bool _) .nil))
                        · exact plain_refl μ hp
                    | some q =>
                      obtain ⟨j, v⟩ := q
                      obtain ⟨v', g1, g2⟩ := h2 j v rfl
                      refine Sim.retRun (b := if commaOk then .tuple #[v', .bool true] else v') (fun w => ?_) ?_
                      · simp only [Sem.run_bind, hcr, Result.andThen_ok, g2, Sem.run_pure]
                      · split
                        · exact .tuple _ _ (.cons _ _ _ _ g1 (.cons _ _ _ _ (.bool _) .nil))
                        · exact g1
              unfold Instr.lookup
              refine Sim.underlying a2 ?_
              rw [hu]
              dsimp only
              cases hm with
              | mapNil => exact body #[] #[] .nil
              | map r e he =>
                simp only [getMap]
                refine Sim.congr (s' := Go.getObj e.b >>= fun o => match o with
                  | .map es' _ => (do Instr.checkKey es'.isEmpty 10000 kt key'
                                      let (v, ok) ← match ← Instr.findKey kt key' es'.toList with
                                        | some (_, v) => pure (v, true)
                                        | none => pure (← zeroValue et, false)
                                      pure (if commaOk then .tuple #[v, .bool ok] else v))
                  | _ => stuck "Lookup: map expected") (fun w => ?_) ?_
                · simp only [Sem.run_bind]
                  cases hr : (Go.getObj e.b).run P w with
                  | halt _ _ => rfl
                  | ok o w' => cases o <;> first | rfl | (simp [Sem.run_bind]; rfl) | (simp [Sem.run_bind]; done)
                · refine Sim.getObj he fun o o' ho _ => ?_
                  cases ho with
                  | map es es' clock hE => exact body es es' hE
                  | _ => exact Sim.fail
              | _ => exact Sim.fail
    | _ => exact Sim.fail
def mapUpdateT (P : Program) (ty : Nat → Option TInfo) (t : TypeId) (m key v : Value) : AT Unit :=
  match ty t with
  | none => .fail
  | some i => match i.u, m with
    | .map kt _, .map (some r) => match ty kt with
      | none => .fail
      | some ik => .getObj r fun o => match o with
        | .map es clock =>
          match pureRun P (Instr.checkKey false 10000 kt key), findT P ik kt key es with
          | some _, some none => .setObj r (.map (es.push { key, val := v, born := clock }) (clock + 1)) (.ret ())
          | some _, some (some (j, _)) =>
            bif plain (((es[j]?).map (·.key)).getD key) && Instr.sameBits 10000 (((es[j]?).map (·.key)).getD key) key then
              .setObj r (.map (es.modify j fun e => { e with key, val := v }) clock) (.ret ())
            else .fail
          | _, _ => .fail
        | _ => .fail
    | _, _ => .fail
theorem key_at {es es' : Array MapEntry} (hE : ERs μ es.toList es'.toList) (j : Nat) (key : Value) (hp : plain (((es[j]?).map (·.key)).getD key) = true) (hk : VR μ key key) : ((es'[j]?).map (·.key)).getD key = ((es[j]?).map (·.key)).getD key := by
  rcases hE.get j with ⟨h1, h2⟩ | ⟨e, e', h1, h2, h3, _, _⟩
  · rw [Array.getElem?_toList] at h1 h2
    rw [h1, h2]
  · rw [Array.getElem?_toList] at h1 h2
    rw [h1] at hp ⊢
    rw [h2]
    exact plain_eq hp h3
theorem sim_mapUpdate (hty : TyOk P ty) (t : TypeId) {m m' key key' v v' : Value} (hm : VR μ m m') (hk : VR μ key key') (hv : VR μ v v') : Sim P N w0 (fun _ _ _ => True) μ (mapUpdateT P ty t m key v) (Instr.mapUpdate t m' key' v') := by
  unfold mapUpdateT
  cases hi : ty t with
  | none => exact Sim.fail
  | some i =>
    obtain ⟨a1, a2⟩ := hty _ _ hi
    dsimp only
    cases hu : i.u with
    | map kt et =>
      cases hm with
      | map r e he =>
        dsimp only
        cases hik : ty kt with
        | none => exact Sim.fail
        | some ik =>
          dsimp only
          unfold Instr.mapUpdate
          refine Sim.underlying a2 ?_
          rw [hu]
          dsimp only
          refine Sim.getObj he fun o o' ho h0 => ?_
          cases ho with
          | map es es' clock hE =>
            dsimp only
            cases hc : pureRun P (Instr.checkKey false 10000 kt key) with
            | none => exact Sim.fail
            | some u =>
              cases hf : findT P ik kt key es with
              | none => exact Sim.fail
              | some r2 =>
                obtain ⟨hpk, h1, h2⟩ := findT_rel hty hik hE hf
                have hkk := plain_eq hpk hk
                subst hkk
                have hcr := pureRun_run _ _ hc
                refine Sim.step hcr ?_
                cases r2 with
                | none =>
                  dsimp only
                  refine Sim.step (h1 rfl) ?_
                  dsimp only
                  have hn : OR μ (.map (es.push { key := key', val := v, born := clock }) (clock + 1)) (.map (es'.push { key := key', val := v', born := clock }) (clock + 1)) :=
                    .map _ _ _ (by simpa using hE.append (.cons { key := key', val := v, born := clock } { key := key', val := v', born := clock } [] [] hk hv rfl .nil))
                  have := Sim.setObj (P := P) (N := N) (w0 := w0) (R' := fun _ _ _ => True) (k := .ret ()) (s := pure ()) he hn (Sim.ret trivial)
                  rwa [bind_pure_unit] at this
                | some q =>
                  obtain ⟨j, v0⟩ := q
                  obtain ⟨v0', g1, g2⟩ := h2 j v0 rfl
                  dsimp only
                  refine Sim.step g2 ?_
                  dsimp only
                  cases hs : plain (((es[j]?).map (·.key)).getD key') && Instr.sameBits 10000 (((es[j]?).map (·.key)).getD key') key' with
                  | false => exact Sim.fail
                  | true =>
                    simp only [cond_true]
                    simp only [Bool.and_eq_true] at hs
                    rw [key_at hE j key' hs.1 hk]
                    refine Sim.step (b := key') (fun w => by simp [Instr.keyThatStays, hs.2]) ?_
                    have hn : OR μ (.map (es.modify j fun e => { e with key := key', val := v }) clock) (.map (es'.modify j fun e => { e with key := key', val := v' }) clock) :=
                      .map _ _ _ (by simpa using hE.modify j (f := fun e => { e with key := key', val := v }) (f' := fun e => { e with key := key', val := v' }) fun e e' _ _ h3 => ⟨hk, hv, h3⟩)
                    have := Sim.setObj (P := P) (N := N) (w0 := w0) (R' := fun _ _ _ => True) (k := .ret ()) (s := pure ()) he hn (Sim.ret trivial)
                    rwa [bind_pure_unit] at this
          | _ => exact Sim.fail
      | _ => exact Sim.fail
    | _ => exact Sim.fail
def makeMapT : Option Value → AT Value
  | none => .new (.obj (.map #[] 0)) fun b => .ret (.map (some b))
  | some (.int _ _) => .new (.obj (.map #[] 0)) fun b => .ret (.map (some b))
  | _ => .fail
theorem sim_makeMap (t : TypeId) {i : TInfo} {kt et : TypeId} (hty : TyOk P ty) (hi : ty t = some i) (hu : i.u = .map kt et) {r r' : Option Value} (hr : OV μ r r') : Sim P N w0 VR μ (makeMapT r) (Instr.makeMap t r') := by
  obtain ⟨a1, a2⟩ := hty _ _ hi
  have h0 : Sim P N w0 VR μ (.new (.obj (.map #[] 0)) fun b => .ret (.map (some b))) (do pure (.map (some (← Go.newObj (.map #[] 0))))) :=
    Sim.newObj (.map _ _ _ .nil) fun ν b e hx he _ => Sim.ret (.map b e he)
  cases r with
  | none =>
    cases r' with
    | some _ => exact hr.elim
    | none =>
      refine Sim.congr (fun w => ?_) h0
      simp [Instr.makeMap]
  | some v =>
    cases r' with
    | none => exact hr.elim
    | some v' =>
      have hr : VR μ v v' := hr
      cases hr with
      | int k n =>
        refine Sim.congr (fun w => ?_) h0
        simp [Instr.makeMap, run_underlying a2, hu, asInt, asIntOf]
      | _ => exact Sim.fail
/-! ### Strings that are gone through -/
def rangeT (ty : Nat → Option TInfo) (t : TypeId) (x : Value) : AT Value :=
  match ty t, x with
  | some i, .string s => match i.u with
    | .string => .new (.obj (.stringIter s 0)) fun b => .ret (.pointer (some ⟨b, 0, none⟩))
    | _ => .fail
  | _, _ => .fail
theorem sim_range (hty : TyOk P ty) (t : TypeId) {x x' : Value} (hx : VR μ x x') : Sim P N w0 VR μ (rangeT ty t x) (Instr.range t x') := by
  unfold rangeT
  cases hi : ty t with
  | none => exact Sim.fail
  | some i =>
    obtain ⟨a1, a2⟩ := hty _ _ hi
    cases hx with
    | string s =>
      dsimp only
      cases hu : i.u with
      | string =>
        dsimp only
        have h0 : Sim P N w0 VR μ (.new (.obj (.stringIter s 0)) fun b => .ret (.pointer (some ⟨b, 0, none⟩))) (do pure (.pointer (some ⟨← Go.newObj (.stringIter s 0), 0, none⟩))) :=
          Sim.newObj (.stringIter _ _) fun ν b e hx he h0 => Sim.ret (by have := VR.ptr (μ := ν) b 0 e he; rw [h0] at this; exact this)
        refine Sim.congr (fun w => ?_) h0
        simp [Instr.range, run_underlying a2, hu]
      | _ => exact Sim.fail
    | _ => exact Sim.fail
def nextT (isString : Bool) : Value → AT Value
  | .pointer (some ⟨r, 0, none⟩) => bif isString then .getObj r fun o => match o with
      | .stringIter s pos =>
        if pos < s.size then .setObj r (.stringIter s (pos + (Utf8.decode s pos).2)) (.ret (.tuple #[.bool true, goInt pos, .int .i32 (Utf8.decode s pos).1]))
        else .ret (.tuple #[.bool false])
      | _ => .fail
    else .fail
  | _ => .fail
theorem sim_next (isString : Bool) (t : TypeId) {x x' : Value} (hx : VR μ x x') : Sim P N w0 VR μ (nextT isString x) (Instr.next x' isString t) := by
  cases hx with
  | ptr b off e he =>
    cases off with
    | succ n => exact Sim.fail
    | zero =>
      simp only [nextT]
      cases isString with
      | false => exact Sim.fail
      | true =>
        simp only [cond_true]
        intro st w a st' ht hs
        have hE : ∀ (g : Obj → Sem Value), (∀ o o', OR μ o o' → e.o = 0 → Sim P N w0 VR μ (match o with
            | .stringIter s pos => if pos < s.size then .setObj b (.stringIter s (pos + (Utf8.decode s pos).2)) (.ret (.tuple #[.bool true, goInt pos, .int .i32 (Utf8.decode s pos).1])) else .ret (.tuple #[.bool false])
            | _ => .fail) (g o')) → ∃ ν w' c, Ext μ ν ∧ (Go.getObj e.b >>= g).run P w = .ok c w' ∧ SR ν N w0 st'.h w' ∧ VR ν a c := fun g hg => Sim.getObj he hg st w a st' ht hs
        -- objects lie at offset 0
        cases he0 : e.o with
        | succ n =>
          simp only [AT.run] at ht
          cases hb : st.h.get b with
          | none => rw [hb] at ht; cases ht
          | some y =>
            cases y with
            | cells c t k sp => rw [hb] at ht; cases ht
            | obj o => have := (hs.getObj hb he).1; omega
        | zero =>
          simp only [Instr.next]
          refine hE _ fun o o' ho _ => ?_
          cases ho with
          | stringIter s pos =>
            dsimp only
            by_cases hlt : pos < s.size
            · rw [if_pos hlt, if_pos hlt]
              exact Sim.setObj he (.stringIter _ _) (Sim.ret (.tuple _ _ (.cons _ _ _ _ (.bool _) (.cons _ _ _ _ (.int _ _) (.cons _ _ _ _ (.int _ _) .nil)))))
            · rw [if_neg hlt, if_neg hlt]
              exact Sim.ret (.tuple _ _ (.cons _ _ _ _ (.bool _) .nil))
          | _ => exact Sim.fail
  | _ => exact Sim.fail
end
end Go.Proofs.YtndjhcmgngnfbaaGreatDoor.AM
end
