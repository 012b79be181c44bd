/- Operations on aggregates, addresses and slices, of the abstract machine and of the model. No condition. -/
import Derived.Test.YtndjhcmgngnfbaaGreatDoorAmC
set_option linter.unusedSimpArgs false
set_option linter.unusedVariables false
set_option linter.all false
section
namespace Go.Proofs.YtndjhcmgngnfbaaGreatDoor.AM
open Go Go.RowKit
section
variable {P : Program} {N : Nat} {w0 : World} {α β γ δ : Type} {R : Mp → α → β → Prop} {μ : Mp} {ty : Nat → Option TInfo}
theorem Sim.retRun {a : α} {s : Sem β} {b : β} (h : ∀ w, s.run P w = .ok b w) (hr : R μ a b) : Sim P N w0 R μ (.ret a) s :=
  Sim.congr (s' := pure b) (fun w => by rw [h]; rfl) (Sim.ret hr)
theorem VRs.extract {cs cs' : Array Value} (h : VRs μ cs.toList cs'.toList) (a b : Nat) : VRs μ (cs.extract a b).toList (cs'.extract a b).toList := by
  simp only [Array.toList_extract, List.extract_eq_take_drop]
  exact (h.drop a).take (b - a)
/-- What the table says of the fields of a struct type. -/
def PlOk (P : Program) (pl : Nat → Option (Array (Nat × Nat))) : Prop := ∀ t fields ps, P.underlying t = some (.struct fields) → pl t = some ps →
  ∀ w, (fields.mapM fun f => do pure (f.offset, ← Go.sizeOf f.type) : Sem (Array (Nat × Nat))).run P w = .ok ps w
def fillT (place : Nat → Option (Nat × Nat)) (zero : Array Value) (ρ : Operand → Value) (parts : Array (Nat × Operand)) : Option (Array Value) :=
  Instr.fill place zero (parts.toList.map fun p => (p.1, ρ p.2))
def buildT (ty : Nat → Option TInfo) (pl : Nat → Option (Array (Nat × Nat))) (t : TypeId) (ρ : Operand → Value) (parts : Array (Nat × Operand)) : AT Value :=
  match ty t with
  | none => .fail
  | some i => match i.info.zero with
    | none => .fail
    | some z => bif plain z then
        match i.u with
        | .struct _ => match pl t with
          | some ps => match fillT (ps[·]?) z.cells ρ parts with
            | some r => .ret (.agg r)
            | none => .fail
          | none => .fail
        | .array _ elem => match ty elem with
          | some j => match fillT (fun k => some (k * j.info.size, j.info.size)) z.cells ρ parts with
            | some r => .ret (.agg r)
            | none => .fail
          | none => .fail
        | _ => .fail
      else .fail
theorem sim_build (hty : TyOk P ty) {pl : Nat → Option (Array (Nat × Nat))} (hpl : PlOk P pl) (t : TypeId) {ρ ρ' : Operand → Value} (parts : Array (Nat × Operand)) (hp : ∀ p ∈ parts.toList, VR μ (ρ p.2) (ρ' p.2)) :
    Sim P N w0 VR μ (buildT ty pl t ρ parts) (Instr.build t (parts.map fun (i, x) => (i, ρ' x))) := by
  unfold buildT
  cases hi : ty t with
  | none => exact Sim.fail
  | some i =>
    obtain ⟨h1, h2⟩ := hty t i hi
    dsimp only
    cases hz : i.info.zero with
    | none => exact Sim.fail
    | some z =>
      dsimp only
      cases hpz : plain z with
      | false => exact Sim.fail
      | true =>
        simp only [cond_true]
        have hparts : (parts.map fun (i, x) => (i, ρ' x)).toList = parts.toList.map fun p => (p.1, ρ' p.2) := by simp
        unfold Instr.build
        refine Sim.step (run_zeroValue h1 hz) ?_
        refine Sim.step (run_underlying h2) ?_
        cases hu : i.u with
        | struct fields =>
          dsimp only
          cases hps : pl t with
          | none => exact Sim.fail
          | some ps =>
            dsimp only
            refine Sim.step (hpl t fields ps (by rw [h2, hu]) hps) ?_
            cases hf : fillT (ps[·]?) z.cells ρ parts with
            | none => exact Sim.fail
            | some r =>
              obtain ⟨r', hr', hv⟩ := fill_rel (μ := μ) (ps[·]?) ρ ρ' parts.toList z.cells z.cells r hp (plain_refl μ hpz).cells hf
              dsimp only
              rw [hparts, hr']
              exact Sim.ret (.agg _ _ hv)
        | array n elem =>
          dsimp only
          cases hj : ty elem with
          | none => exact Sim.fail
          | some j =>
            dsimp only
            refine Sim.step (run_sizeOf (hty elem j hj).1) ?_
            cases hf : fillT (fun k => some (k * j.info.size, j.info.size)) z.cells ρ parts with
            | none => exact Sim.fail
            | some r =>
              obtain ⟨r', hr', hv⟩ := fill_rel (μ := μ) (fun k => some (k * j.info.size, j.info.size)) ρ ρ' parts.toList z.cells z.cells r hp (plain_refl μ hpz).cells hf
              dsimp only
              rw [hparts, hr']
              exact Sim.ret (.agg _ _ hv)
        | _ => exact Sim.fail
def zeroRow (z : Array Value) (n : Nat) : List Value := ((Array.range n).map (z[· % z.size]!)).toList
def buildSliceT (ty : Nat → Option TInfo) (t : TypeId) (len : Nat) (ρ : Operand → Value) (parts : Array (Nat × Operand)) : AT Value :=
  match ty t with
  | none => .fail
  | some i => match i.u with
    | .slice elem => match ty elem with
      | none => .fail
      | some j => bif Nat.ble (len * j.info.size) 10000 then
          match (if len * j.info.size = 0 then some #[] else j.info.zero.map (·.cells)) with
          | none => .fail
          | some z =>
            bif (zeroRow z (len * j.info.size)).all plain then
              match fillT (fun k => some (k * j.info.size, j.info.size)) (zeroRow z (len * j.info.size)).toArray ρ parts with
              | some r => .new (.cells (r.toList.map some) elem 1 false) fun b => .ret (.slice (some ⟨b, 0, none⟩) len len)
              | none => .fail
            else .fail
        else .fail
    | _ => .fail
theorem sim_buildSlice (hty : TyOk P ty) (t : TypeId) (len : Nat) {ρ ρ' : Operand → Value} (parts : Array (Nat × Operand)) (hp : ∀ p ∈ parts.toList, VR μ (ρ p.2) (ρ' p.2)) :
    Sim P N w0 VR μ (buildSliceT ty t len ρ parts) (Instr.buildSlice t len (parts.map fun (i, x) => (i, ρ' x))) := by
  unfold buildSliceT
  cases hi : ty t with
  | none => exact Sim.fail
  | some i =>
    obtain ⟨h1, h2⟩ := hty t i hi
    dsimp only
    cases hu : i.u with
    | slice elem =>
      dsimp only
      cases hj : ty elem with
      | none => exact Sim.fail
      | some j =>
        obtain ⟨g1, g2⟩ := hty elem j hj
        dsimp only
        cases hb : Nat.ble (len * j.info.size) 10000 with
        | false => exact Sim.fail
        | true =>
          simp only [cond_true]
          rw [Nat.ble_eq] at hb
          cases hz : (if len * j.info.size = 0 then some #[] else j.info.zero.map (·.cells)) with
          | none => exact Sim.fail
          | some z =>
            dsimp only
            cases hpz : (zeroRow z (len * j.info.size)).all plain with
            | false => exact Sim.fail
            | true =>
              simp only [cond_true]
              rw [List.all_eq_true] at hpz
              have hzr : VRs μ (zeroRow z (len * j.info.size)).toArray.toList (zeroRow z (len * j.info.size)).toArray.toList := .refl_of fun v hv => plain_refl μ (hpz v (by simpa using hv))
              cases hf : fillT (fun k => some (k * j.info.size, j.info.size)) (zeroRow z (len * j.info.size)).toArray ρ parts with
              | none => exact Sim.fail
              | some r =>
                obtain ⟨r', hr', hv⟩ := fill_rel (μ := μ) _ ρ ρ' parts.toList _ _ r hp hzr hf
                have hparts : (parts.map fun (i, x) => (i, ρ' x)).toList = parts.toList.map fun p => (p.1, ρ' p.2) := by simp
                dsimp only
                have key : ∀ w, (Instr.buildSlice t len (parts.map fun (i, x) => (i, ρ' x))).run P w = (newRow elem r'.toList.toArray >>= fun a => pure (.slice (some a) len len)).run P w := by
                  intro w
                  unfold Instr.buildSlice
                  simp only [Sem.run_bind, run_underlying h2, hu, Result.andThen_ok, run_sizeOf g1]
                  rw [if_neg (by omega)]
                  have hzz : (Array.range (len * j.info.size)).map (z[· % z.size]!) = (zeroRow z (len * j.info.size)).toArray := by unfold zeroRow; exact (Array.toArray_toList).symm
                  by_cases h0 : len * j.info.size = 0
                  · rw [if_pos h0] at hz ⊢
                    cases hz
                    simp only [Sem.run_bind, Sem.run_pure, Result.andThen_ok]
                    rw [hzz, hparts, hr']
                    simp [Sem.run_bind]
                  · rw [if_neg h0] at hz ⊢
                    simp only [Option.map_eq_some_iff] at hz
                    obtain ⟨zv, hzv, rfl⟩ := hz
                    simp only [Sem.run_bind, run_zeroValue g1 hzv, Sem.run_pure, Result.andThen_ok]
                    rw [hzz, hparts, hr']
                    simp [Sem.run_bind]
                refine Sim.congr key ?_
                exact Sim.newExact hv fun ν b e hx he ho hs hl => by
                  refine Sim.ret ?_
                  have := VR.slice (μ := ν) b 0 e len len len he (.inl rfl)
                  rw [ho] at this
                  exact this
    | _ => exact Sim.fail
/-! ### Addresses -/
def fieldAddrT (ty : Nat → Option TInfo) (s : TypeId) (f : Nat) : Value → AT Value
  | .pointer (some ⟨b, off, none⟩) => match ty s with
    | some i => match i.u with
      | .struct fields => match fields[f]? with
        | some fd => match ty fd.type with
          | some j => bif Nat.beq j.info.size 0 then .fail else .ret (.pointer (some ⟨b, off + fd.offset, none⟩))
          | none => .fail
        | none => .fail
      | _ => .fail
    | none => .fail
  | _ => .fail
theorem sim_fieldAddr (hty : TyOk P ty) (s : TypeId) (f : Nat) {v v' : Value} (hv : VR μ v v') : Sim P N w0 VR μ (fieldAddrT ty s f v) (Instr.fieldAt s v' f) := by
  cases hv with
  | ptr b off e he =>
    simp only [fieldAddrT]
    cases hi : ty s with
    | none => exact Sim.fail
    | some i =>
      obtain ⟨h1, h2⟩ := hty s i hi
      dsimp only
      cases hu : i.u with
      | struct fields =>
        dsimp only
        cases hf : fields[f]? with
        | none => exact Sim.fail
        | some fd =>
          dsimp only
          cases hj : ty fd.type with
          | none => exact Sim.fail
          | some j =>
            dsimp only
            cases hb : Nat.beq j.info.size 0 with
            | true => exact Sim.fail
            | false =>
              have hne : ¬ j.info.size = 0 := fun h => by rw [h] at hb; simp at hb
              refine Sim.retRun (b := .pointer (some ⟨e.b, e.o + (off + fd.offset), none⟩)) (fun w => ?_) (VR.ptr b _ e he)
              simp only [Instr.fieldAt, Sem.run_bind, run_underlying h2, hu, Result.andThen_ok, hf]
              simp only [Instr.sureAddr, Sem.run_pure, Result.andThen_ok, fieldPlace, Sem.run_bind, run_sizeOf (hty _ _ hj).1, if_neg hne, add_eq]
              rw [Nat.add_assoc]
      | _ => exact Sim.fail
  | _ => exact Sim.fail
def idx (i : Int) (len : Nat) : Option Nat := bif Int.blt' i len then some i.toNat else none
where Int.blt' (i : Int) (len : Nat) : Bool := match i with | .ofNat k => Nat.blt k len | .negSucc _ => false
theorem idx_some {i : Int} {len k : Nat} (h : idx i len = some k) : 0 ≤ i ∧ i < len ∧ i.toNat = k ∧ k < len := by
  unfold idx idx.Int.blt' at h
  cases i with
  | ofNat m =>
    dsimp only at h
    cases hb : Nat.blt m len with
    | false => rw [hb] at h; cases h
    | true =>
      rw [hb, cond_true] at h
      cases h
      rw [Nat.blt_eq] at hb
      simp
      omega
  | negSucc m => cases h
def indexAddrT (ty : Nat → Option TInfo) (t : TypeId) (x ix : Value) : AT Value :=
  match ix, ty t with
  | .int _ i, some ti => match ti.u, x with
    | .array len elem, .pointer (some ⟨b, off, none⟩) => match ty elem, idx i len with
      | some j, some k => .ret (.pointer (some ⟨b, off + k * j.info.size, none⟩))
      | _, _ => .fail
    | .slice elem, .slice (some ⟨b, off, none⟩) len _ => match ty elem, idx i len with
      | some j, some k => .ret (.pointer (some ⟨b, off + k * j.info.size, none⟩))
      | _, _ => .fail
    | _, _ => .fail
  | _, _ => .fail
theorem sim_indexAddr (hty : TyOk P ty) (t : TypeId) {x x' ix ix' : Value} (hx : VR μ x x') (hix : VR μ ix ix') : Sim P N w0 VR μ (indexAddrT ty t x ix) (Instr.indexAt t x' ix') := by
  cases hix with
  | int kd i =>
    simp only [indexAddrT]
    cases hi : ty t with
    | none => exact Sim.fail
    | some ti =>
      obtain ⟨h1, h2⟩ := hty t ti hi
      dsimp only
      cases hu : ti.u with
      | array len elem =>
        cases hx with
        | ptr b off e he =>
          dsimp only
          cases hj : ty elem with
          | none => exact Sim.fail
          | some j =>
            cases hk : idx i len with
            | none => exact Sim.fail
            | some k =>
              obtain ⟨k1, k2, k3, k4⟩ := idx_some hk
              refine Sim.retRun (b := .pointer (some ⟨e.b, e.o + (off + k * j.info.size), none⟩)) (fun w => ?_) (VR.ptr b _ e he)
              simp only [Instr.indexAt, asIntOf, Sem.run_pure, Result.andThen_ok, Sem.run_bind, run_underlying h2, hu, Instr.sureAddr]
              rw [if_pos ⟨k1, k2⟩]
              simp only [Sem.run_bind, run_sizeOf (hty _ _ hj).1, Result.andThen_ok, Sem.run_pure, add_eq, k3]
              rw [Nat.add_assoc]
        | _ => exact Sim.fail
      | slice elem =>
        cases hx with
        | slice b off e n c c' he hc =>
          dsimp only
          cases hj : ty elem with
          | none => exact Sim.fail
          | some j =>
            cases hk : idx i n with
            | none => exact Sim.fail
            | some k =>
              obtain ⟨k1, k2, k3, k4⟩ := idx_some hk
              refine Sim.retRun (b := .pointer (some ⟨e.b, e.o + (off + k * j.info.size), none⟩)) (fun w => ?_) (VR.ptr b _ e he)
              simp only [Instr.indexAt, asIntOf, Sem.run_pure, Result.andThen_ok, Sem.run_bind, run_underlying h2, hu]
              rw [if_pos ⟨k1, k2⟩]
              simp only [Sem.run_bind, run_sizeOf (hty _ _ hj).1, Result.andThen_ok, Sem.run_pure, add_eq, k3]
              rw [Nat.add_assoc]
        | _ => exact Sim.fail
      | _ => exact Sim.fail
  | _ => exact Sim.fail
/-! ### Parts of aggregates -/
def partT (j : TInfo) (cs : Array Value) (off : Nat) : AT Value :=
  bif isAggD j.u then .ret (.agg (cs.extract off (off + j.info.size)))
  else match cs[off]? with
    | some v => .ret v
    | none => .fail
theorem sim_part (hty : TyOk P ty) {t : TypeId} {j : TInfo} (hj : ty t = some j) {cs cs' : Array Value} (hc : VRs μ cs.toList cs'.toList) (off : Nat) : Sim P N w0 VR μ (partT j cs off) (part t cs' off) := by
  obtain ⟨h1, h2⟩ := hty t j hj
  unfold partT part
  refine Sim.step (run_isAgg h2) ?_
  cases hd : isAggD j.u with
  | true =>
    simp only [cond_true, if_true]
    refine Sim.step (run_sizeOf h1) ?_
    exact Sim.ret (.agg _ _ (hc.extract _ _))
  | false =>
    simp only [cond_false, Bool.false_eq_true, if_false]
    rcases hc.get off with ⟨g1, g2⟩ | ⟨v, v', g1, g2, g3⟩
    · have : cs[off]? = none := by simpa using g1
      rw [this]; exact Sim.fail
    · have e1 : cs[off]? = some v := by simpa using g1
      have e2 : cs'[off]? = some v' := by simpa using g2
      rw [e1, e2]; exact Sim.ret g3
def fieldT (ty : Nat → Option TInfo) (xType : TypeId) (f : Nat) : Value → AT Value
  | .agg cs => match ty xType with
    | some i => match i.u with
      | .struct fields => match fields[f]? with
        | some fd => match ty fd.type with
          | some j => partT j cs fd.offset
          | none => .fail
        | none => .fail
      | _ => .fail
    | none => .fail
  | _ => .fail
theorem sim_field (hty : TyOk P ty) (xType : TypeId) (f : Nat) {v v' : Value} (hv : VR μ v v') : Sim P N w0 VR μ (fieldT ty xType f v) (Instr.field xType v' f) := by
  cases hv with
  | agg c c' hc =>
    simp only [fieldT]
    cases hi : ty xType with
    | none => exact Sim.fail
    | some i =>
      obtain ⟨h1, h2⟩ := hty xType i hi
      dsimp only
      cases hu : i.u with
      | struct fields =>
        dsimp only
        cases hf : fields[f]? with
        | none => exact Sim.fail
        | some fd =>
          dsimp only
          cases hj : ty fd.type with
          | none => exact Sim.fail
          | some j =>
            unfold Instr.field
            refine Sim.step (run_underlying h2) ?_
            rw [hu]
            dsimp only
            rw [hf]
            dsimp only
            exact Sim.step (fun w => rfl) (sim_part hty hj hc _)
      | _ => exact Sim.fail
  | _ => exact Sim.fail
def indexT (ty : Nat → Option TInfo) (xType : TypeId) (x ix : Value) : AT Value :=
  match ix, ty xType with
  | .int _ i, some ti => match ti.u, x with
    | .array len elem, .agg cs => match ty elem, idx i len with
      | some j, some k => partT j cs (k * j.info.size)
      | _, _ => .fail
    | .string, .string s => match idx i s.data.toList.length with
      | some k => match s.data.toList[k]? with
        | some b => .ret (.int .u8 b.toNat)
        | none => .fail
      | none => .fail
    | _, _ => .fail
  | _, _ => .fail
theorem sim_index (hty : TyOk P ty) (xType : TypeId) {x x' ix ix' : Value} (hx : VR μ x x') (hix : VR μ ix ix') : Sim P N w0 VR μ (indexT ty xType x ix) (Instr.index xType x' ix') := by
  cases hix with
  | int kd i =>
    simp only [indexT]
    cases hi : ty xType with
    | none => exact Sim.fail
    | some ti =>
      obtain ⟨h1, h2⟩ := hty xType ti hi
      dsimp only
      cases hu : ti.u with
      | array len elem =>
        cases hx with
        | agg c c' hc =>
          dsimp only
          cases hj : ty elem with
          | none => exact Sim.fail
          | some j =>
            cases hk : idx i len with
            | none => exact Sim.fail
            | some k =>
              obtain ⟨k1, k2, k3, k4⟩ := idx_some hk
              dsimp only
              refine Sim.congr (fun w => ?_) (sim_part (P := P) (N := N) (w0 := w0) hty hj hc (k * j.info.size))
              simp only [Instr.index, asIntOf, Sem.run_pure, Result.andThen_ok, Sem.run_bind, run_underlying h2, hu]
              rw [if_pos ⟨k1, k2⟩]
              simp only [Sem.run_bind, run_sizeOf (hty _ _ hj).1, Result.andThen_ok, k3]
        | _ => exact Sim.fail
      | string =>
        cases hx with
        | string s =>
          dsimp only
          cases hk : idx i s.data.toList.length with
          | none => exact Sim.fail
          | some k =>
            obtain ⟨k1, k2, k3, k4⟩ := idx_some hk
            dsimp only
            cases hb : s.data.toList[k]? with
            | none => exact Sim.fail
            | some b =>
              refine Sim.retRun (b := .int .u8 b.toNat) (fun w => ?_) (.int _ _)
              simp only [Instr.index, asIntOf, Sem.run_pure, Result.andThen_ok, Sem.run_bind, run_underlying h2, hu]
              rw [if_pos k1, k3]
              have : s[k]? = some b := by
                have hlt : k < s.size := by rw [ByteArray.size]; simpa using k4
                rw [getElem?_pos s k hlt]
                rw [List.getElem?_eq_getElem k4] at hb
                cases hb
                rfl
              rw [this]
              rfl
        | _ => exact Sim.fail
      | _ => exact Sim.fail
  | _ => exact Sim.fail
end
end Go.Proofs.YtndjhcmgngnfbaaGreatDoor.AM
end
/- Append, of the abstract machine and of the model: in place or in a new block, whatever the capacity is. No condition. -/
section
namespace Go.Proofs.YtndjhcmgngnfbaaGreatDoor.AM
open Go Go.RowKit
section
variable {P : Program} {N : Nat} {w0 w : World} {h : Tr Blk} {α β γ δ : Type} {R : Mp → α → β → Prop} {μ : Mp} {ty : Nat → Option TInfo}
/-- A write to a cell to which nobody lays claim. -/
theorem SR.free (hs : SR μ N w0 h w) {b i : Nat} {arr : Array Value} {t lo hi : Nat} (hh : w.heap[b]? = some (.cells arr t (lo, hi))) (hN : N ≤ b) (v : Value)
    (hno : ∀ b2 x2 e2, h.get b2 = some x2 → μ b2 = some e2 → e2.b = b → ¬ uses e2 x2 i) : SR μ N w0 h (w.setCell ⟨b, i, none⟩ v) := by
  refine ⟨?_, hs.dom, hs.sep, hs.below.setCell hN v, hs.base⟩
  intro b2 x2 hb2
  obtain ⟨e2, he2, hB2⟩ := hs.blk b2 x2 hb2
  refine ⟨e2, he2, ?_⟩
  by_cases hsame : e2.b = b
  · have hn := hno b2 x2 e2 hb2 he2 hsame
    cases x2 with
    | obj o => exact absurd trivial hn
    | cells c2 t2 k2 sp2 =>
      obtain ⟨arr2, lo2, hi2, tq, g1, g2, g3, g4, g5, g6, g7, g8⟩ := hB2
      rw [hsame, hh] at g1; cases g1
      refine ⟨arr.setIfInBounds i v, lo, hi, t, by rw [hsame]; exact setCell_heap hh _ _, g2, by simpa using g3, g4, fun hk' => ⟨(g5 hk').1, fun j hj => (g5 hk').2 j (by simpa using hj)⟩, g6, g7, ?_⟩
      intro j u hu
      obtain ⟨u', hu', hr⟩ := g8 j u hu
      have hne : i ≠ e2.o + j := fun heq => hn (.inl ⟨j, u, hu, heq⟩)
      exact ⟨u', by rw [Array.getElem?_setIfInBounds_ne hne]; exact hu', hr⟩
  · exact hB2.heap (Below.heap_setCell _ _ _ _ hsame)
theorem storeFree : ∀ (vs : List Value) (i : Nat) (w : World) (arr : Array Value) {b o q t lo hi : Nat}, w.heap[b]? = some (.cells arr t (lo, hi)) → o + i + vs.length ≤ arr.size → (∀ k, k < arr.size → ¬ (lo ≤ k ∧ k < hi)) →
    (∀ v ∈ vs, v.oneCell' = true) → SR μ N w0 h w → q ≤ o + i → (∀ b2 x2 e2, h.get b2 = some x2 → μ b2 = some e2 → e2.b = b → ∀ k, q ≤ k → ¬ uses e2 x2 k) → N ≤ b →
    ∃ w' arr', (storeCells ⟨b, o, none⟩ vs i).run P w = .ok () w' ∧ SR μ N w0 h w' ∧ w'.heap[b]? = some (.cells arr' t (lo, hi)) ∧ arr'.size = arr.size ∧
      (∀ k, k < o + i → arr'[k]? = arr[k]?) ∧ (∀ j, j < vs.length → arr'[o + i + j]? = vs[j]?) := by
  intro vs
  induction vs with
  | nil => intro i w arr b o q t lo hi hh hlen hfr hone hs hq hno hN; exact ⟨w, arr, rfl, hs, hh, rfl, fun _ _ => rfl, fun j hj => by simp at hj⟩
  | cons v vs ih =>
    intro i w arr b o q t lo hi hh hlen hfr hone hs hq hno hN
    have hlt : o + i < arr.size := by simp at hlen; omega
    have hs1 := hs.free hh hN v (i := o + i) fun b2 x2 e2 h1 h2 h3 => hno b2 x2 e2 h1 h2 h3 _ hq
    obtain ⟨w', arr', r1, r2, r3, r4, r5, r6⟩ := ih (i + 1) (w.setCell ⟨b, o + i, none⟩ v) (arr.setIfInBounds (o + i) v) (b := b) (o := o) (q := q) (t := t) (lo := lo) (hi := hi) (setCell_heap hh _ _)
      (by simp at hlen ⊢; omega) (by simpa using hfr) (fun u hu => hone u (by simp [hu])) hs1 (by omega) hno hN
    refine ⟨w', arr', ?_, r2, r3, by simpa using r4, ?_, ?_⟩
    · simp only [storeCells, add_eq, Sem.run_bind]
      rw [run_store _ _ _ _ _ (hone v (by simp))]
      have hc : w.cell? ⟨b, o + i, none⟩ = some arr[o + i] := by simp [World.cell?, hh, hlt]
      have hf : w.frozen? ⟨b, o + i, none⟩ = false := by have := hfr _ hlt; simp [World.frozen?, hh]; omega
      rw [hc]
      simp only [hf]
      exact r1
    · intro k hk
      rw [r5 k (by omega), Array.getElem?_setIfInBounds_ne (by omega)]
    · intro j hj
      cases j with
      | zero =>
        rw [Nat.add_zero, r5 (o + i) (by omega)]
        simp [hlt]
      | succ j =>
        have := r6 j (by simpa using hj)
        rw [show o + i + (j + 1) = o + (i + 1) + j from by omega, this]
        simp
theorem allSome_spec : ∀ {l : List (Option Value)} {vs : List Value}, allSome l = some vs → l = vs.map some
  | [], vs, h => by simp [allSome] at h; subst h; rfl
  | some v :: l, vs, h => by
    simp only [allSome] at h
    cases hl : allSome l with
    | none => rw [hl] at h; cases h
    | some ws => rw [hl] at h; cases h; rw [allSome_spec hl]; rfl
  | none :: l, vs, h => by simp [allSome] at h
def firstT (size n : Nat) : Value → AT (List Value)
  | .slice (some ⟨b, off, none⟩) _ _ => loadN b off (n * size)
  | .slice none _ _ => .ret []
  | .slice (some ⟨_, _, some _⟩) _ _ => bif Nat.beq (n * size) 0 then .ret [] else .fail
  | .string s => .ret ((s.data.toList.take n).map fun b => .int .u8 b.toNat)
  | _ => .fail
theorem sim_first (size n : Nat) {v v' : Value} (hv : VR μ v v') : Sim P N w0 (fun ν vs arr => VRs ν vs arr.toList) μ (firstT size n v) (Builtin.firstCells size n v') := by
  cases hv with
  | slice b off e l c c' he hc => exact sim_loadCells he _
  | sliceNil l c => exact Sim.ret .nil
  | sliceEnd b o c =>
    simp only [firstT]
    cases h0 : Nat.beq (n * size) 0 with
    | false => exact Sim.fail
    | true =>
      have h0 := Nat.eq_of_beq_eq_true h0
      refine Sim.retRun (b := #[]) (fun w => ?_) .nil
      simp [Builtin.firstCells, loadCells, loadCellsFrom, h0]
  | string s =>
    refine Sim.ret ?_
    have : ((s.extract 0 n).data.map fun b : UInt8 => Value.int .u8 b.toNat).toList = (s.data.toList.take n).map fun b => .int .u8 b.toNat := by
      simp [ByteArray.data_extract]
    rw [this]
    refine VRs.refl_of fun v hv => ?_
    simp only [List.mem_map] at hv
    obtain ⟨b, _, rfl⟩ := hv
    exact .int _ _
  | _ => exact Sim.fail
def lenV : Value → Option Nat
  | .slice _ n _ => some n
  | .string s => some s.data.toList.length
  | _ => none
theorem run_lenOf {v v' : Value} (hv : VR μ v v') {n : Nat} (h : lenV v = some n) (w : World) : (Builtin.lenOf v').run P w = .ok n w := by
  cases hv with
  | slice b off e l c c' he hc => cases h; rfl
  | sliceNil l c => cases h; rfl
  | sliceEnd b o c => cases h; rfl
  | string s => cases h; rfl
  | _ => cases h
def isIntD : TypeDesc → Bool
  | .int _ => true
  | _ => false
theorem growBy_le (need : Nat) : ∀ (r c : Nat), c < need → Builtin.growBy need r c ≤ 2 * need + 512 := by
  intro r
  induction r with
  | zero => intro c h; simp only [Builtin.growBy]; omega
  | succ r ih =>
    intro c h
    simp only [Builtin.growBy]
    rw [if_neg (by omega)]
    by_cases h2 : c + (c + 768) / 4 < need
    · exact ih _ h2
    · cases r with
      | zero => simp only [Builtin.growBy]; omega
      | succ r => simp only [Builtin.growBy]; rw [if_pos (by omega)]; omega
theorem nextslicecap_le {need c : Nat} (h : c < need) : Builtin.nextslicecap need c ≤ 2 * need + 512 := by
  unfold Builtin.nextslicecap
  split
  · omega
  · split
    · omega
    · exact growBy_le need 4 c h
theorem zeroCells_size (z : Array Value) (n : Nat) : (Builtin.zeroCells z n).size = n * z.size := by simp [Builtin.zeroCells]
/-- The new block of an append that grows. -/
def growT (elem size need : Nat) (cells : List Value) : AT Value :=
  .new (.cells (cells.map some) elem (size + 2) true) fun b => .ret (.slice (some ⟨b, 0, none⟩) need need)
def appendB (j : TInfo) (elem : TypeId) (base : Option Addr) (sLen sCap n : Nat) (x : Value) : AT Value :=
  bif Nat.ble (sLen + n) sCap then
    (firstT j.info.size n x).bind fun new =>
      match base with
      | some ⟨b, off, none⟩ => (storeN b (off + sLen * j.info.size) new).bind fun _ => .ret (.slice (some ⟨b, off, none⟩) (sLen + n) sCap)
      | none => .ret (.slice none (sLen + n) sCap)
      | _ => .fail
  else
    match j.info.zero with
    | none => .fail
    | some z =>
      bif Nat.beq z.cells.size j.info.size && Nat.ble ((2 * (sLen + n) + 512) * j.info.bytes) 281474976710656 && Nat.ble 1 j.info.size && Nat.ble (sLen + n) 1000000000000 && Nat.ble sLen sCap then
        (firstT j.info.size n x).bind fun new =>
          bif new.all oneCell && Nat.beq new.length (n * j.info.size) then
            match base with
            | none => bif Nat.beq sLen 0 then growT elem j.info.size (sLen + n) new else .fail
            | some ⟨b, off, none⟩ => .shape b fun len t kd =>
              bif Nat.ble kd 1 || (Nat.beq kd (j.info.size + 2) && !(Nat.beq (off + sCap * j.info.size) len)) then
                (loadN b off (sLen * j.info.size)).bind fun old => growT elem j.info.size (sLen + n) (old ++ new)
              else bif Nat.beq kd (j.info.size + 2) && Nat.beq t elem then
                .take b off fun vs _ _ => growT elem j.info.size (sLen + n) (vs.take (sLen * j.info.size) ++ new)
              else .fail
            | _ => .fail
          else .fail
      else .fail
/-- What the model's append does once its operands are known. -/
def appendS (size : Nat) (bytes : Nat) (zero : Array Value) (elem : TypeId) (s x : Value) (base : Option Addr) (sLen sCap n : Nat) : Sem Value :=
  if sLen + n ≤ sCap then do
    let new ← Builtin.firstCells size n x
    if let some a := base then storeCells (a.add (sLen * size)) new.toList
    pure (.slice base (sLen + n) sCap)
  else do
    let newCap ← choose (.appendCap (sLen + n) sCap elem)
    askRoom (newCap * bytes)
    let old ← Builtin.firstCells size sLen s
    let new ← Builtin.firstCells size n x
    pure (.slice (some (← newRow elem (old ++ new ++ Builtin.zeroCells zero (newCap - (sLen + n))))) (sLen + n) newCap)
theorem run_append {t0 t1 : TypeId} {i0 i1 j : TInfo} {elem : TypeId} {argTypes : Array TypeId} {type : TypeId} {x : Value} {base : Option Addr} {sLen sCap n : Nat} (hty : TyOk P ty)
    (ha0 : argTypes[0]? = some t0) (ha1 : argTypes[1]? = some t1) (h0 : ty t0 = some i0) (h1 : ty t1 = some i1) (hu : i0.u = .slice elem) (hi1 : isIntD i1.u = false) (hj : ty elem = some j)
    (hl : ∀ w, (Builtin.lenOf x).run P w = .ok n w) {z : Value} (hz : ¬ sLen + n ≤ sCap → j.info.zero = some z ∧ (2 * (sLen + n) + 512) * j.info.bytes ≤ 281474976710656 ∧ sLen + n ≤ 1000000000000) (w : World) :
    (Builtin.append_ argTypes type #[.slice base sLen sCap, x]).run P w = (appendS j.info.size j.info.bytes z.cells elem (.slice base sLen sCap) x base sLen sCap n).run P w := by
  obtain ⟨a1, a2⟩ := hty _ _ h0
  obtain ⟨b1, b2⟩ := hty _ _ h1
  obtain ⟨c1, c2⟩ := hty _ _ hj
  cases hh : i1.u with
  | int k => rw [hh] at hi1; simp [isIntD] at hi1
  | _ =>
    unfold Builtin.append_ appendS
    simp only [ha0, ha1, List.getElem?_toArray, List.getElem?_cons_zero, List.getElem?_cons_succ, Sem.run_bind, run_underlying a2, hu, hh, Result.andThen_ok, run_sizeOf c1, run_underlying b2, Sem.run_pure, Bool.false_eq_true, if_false, hl, Bool.not_false, if_true]
    by_cases hroom : sLen + n ≤ sCap
    · simp only [hroom, if_true, Sem.run_bind]
      try rfl
    · obtain ⟨z1, z2, z3⟩ := hz hroom
      simp only [hroom, if_false]
      have hmax : ¬ (((sLen + n : Nat) : Int) > IntKind.i64.max ∧ (False ∨ j.info.bytes = 0)) := by
        intro hh
        have h1 := hh.1
        have : IntKind.i64.max = 9223372036854775807 := by decide
        omega
      have hcap : ¬ Builtin.nextslicecap (sLen + n) sCap * j.info.bytes > 2 ^ 48 := by
        have := Nat.mul_le_mul_right j.info.bytes (nextslicecap_le (need := sLen + n) (c := sCap) (by omega))
        omega
      simp only [Sem.run_bind, run_typeInfo c1, Result.andThen_ok, hmax, hcap, if_false, run_zeroValue c1 z1]
/-! ### Reads alone -/
theorem loadN_reads {b : Nat} : ∀ (n off : Nat) (st : St) (vs : List Value) (st' : St), (loadN b off n).run st = some (vs, st') →
    st'.h = st.h ∧ st'.nx = st.nx ∧ vs.length = n ∧ ∀ i v, vs[i]? = some v → ∃ c t k sp, st.h.get b = some (.cells c t k sp) ∧ c[off + i]? = some (some v) := by
  intro n
  induction n with
  | zero => intro off st vs st' h; cases h; exact ⟨rfl, rfl, rfl, fun i v hv => by simp at hv⟩
  | succ n ih =>
    intro off st vs st' h
    simp only [loadN, AT.run] at h
    cases hb : st.h.get b with
    | none => rw [hb] at h; cases h
    | some x =>
      rw [hb] at h
      cases x with
      | obj o => cases h
      | cells c t k sp =>
        dsimp only at h
        cases hc : c[off]? with
        | none => rw [hc] at h; cases h
        | some y =>
          rw [hc] at h
          cases y with
          | none => cases h
          | some v =>
            dsimp only at h
            rw [AT.run_bind] at h
            simp only [M.bind] at h
            cases h1 : (loadN b (off + 1) n).run { st with rd := (b, off + 2) :: st.rd } with
            | none => rw [h1] at h; cases h
            | some p =>
              obtain ⟨ws, st1⟩ := p
              rw [h1] at h
              cases h
              obtain ⟨g1, g2, g3, g4⟩ := ih _ _ _ _ h1
              refine ⟨g1, g2, by simp [g3], fun i u hu => ?_⟩
              cases i with
              | zero => cases hu; exact ⟨c, t, k, sp, rfl, hc⟩
              | succ i =>
                obtain ⟨c', t', k', sp', e1, e2⟩ := g4 i u (by simpa using hu)
                exact ⟨c', t', k', sp', hb.symm.trans e1, by rw [show off + (i + 1) = off + 1 + i from by omega]; exact e2⟩
theorem loadCells_sr {b off : Nat} {e : Ent} (hs : SR μ N w0 h w) (he : μ b = some e) : ∀ (vs : List Value) (i : Nat), (∀ k v, vs[k]? = some v → ∃ c t kd sp, h.get b = some (.cells c t kd sp) ∧ c[off + i + k]? = some (some v)) →
    ∃ l' : List Value, VRs μ vs l' ∧ ∀ w2 : World, w2.heap = w.heap → ∀ acc, (loadCellsFrom ⟨e.b, e.o + off, none⟩ i vs.length acc).run P w2 = .ok (acc ++ l'.toArray) w2 := by
  intro vs
  induction vs with
  | nil => intro i _; exact ⟨[], .nil, fun w2 _ acc => by simp [loadCellsFrom]⟩
  | cons v vs ih =>
    intro i hv
    obtain ⟨c, t, kd, sp, hb, hc⟩ := hv 0 v rfl
    obtain ⟨v', hv', hr⟩ := hs.load hb hc he
    obtain ⟨l', hl, hrun⟩ := ih (i + 1) fun k u hu => by
      obtain ⟨c', t', kd', sp', e1, e2⟩ := hv (k + 1) u (by simpa using hu)
      exact ⟨c', t', kd', sp', e1, by rw [show off + (i + 1) + k = off + i + (k + 1) from by omega]; exact e2⟩
    refine ⟨v' :: l', .cons _ _ _ _ hr hl, fun w2 hw acc => ?_⟩
    simp only [List.length_cons, loadCellsFrom, add_eq, Sem.run_bind, run_load]
    have hc2 : w2.cell? ⟨e.b, e.o + off + i, none⟩ = some v' := by
      rw [Nat.add_zero, ← Nat.add_assoc] at hv'
      simp only [World.cell?, hw]
      exact hv'
    rw [hc2]
    simp only [Result.andThen_ok]
    rw [hrun w2 hw]
    congr 1
    apply Array.ext'
    simp
/-- What is read of a slice or a string, as the model reads it, now or later. -/
theorem first_reads {size n : Nat} {x x' : Value} {st st' : St} {vs : List Value} (hx : VR μ x x') (hr : (firstT size n x).run st = some (vs, st')) (hs : SR μ N w0 st.h w) :
    st'.h = st.h ∧ st'.nx = st.nx ∧ ∃ arr : Array Value, VRs μ vs arr.toList ∧ ∀ w2 : World, w2.heap = w.heap → (Builtin.firstCells size n x').run P w2 = .ok arr w2 := by
  cases hx with
  | slice b off e l c c' he hc =>
    obtain ⟨g1, g2, g3, g4⟩ := loadN_reads _ _ _ _ _ hr
    obtain ⟨l', hl, hrun⟩ := loadCells_sr (P := P) (off := off) hs he vs 0 fun k v hv => by
      obtain ⟨c, t, kd, sp, e1, e2⟩ := g4 k v hv
      exact ⟨c, t, kd, sp, e1, by rw [Nat.add_zero]; exact e2⟩
    refine ⟨g1, g2, l'.toArray, by simpa using hl, fun w2 hw => ?_⟩
    have := hrun w2 hw #[]
    rw [g3] at this
    simpa [Builtin.firstCells, loadCells] using this
  | sliceNil l c => cases hr; exact ⟨rfl, rfl, #[], .nil, fun w2 _ => rfl⟩
  | sliceEnd b o c =>
    simp only [firstT] at hr
    cases h0 : Nat.beq (n * size) 0 with
    | false => rw [h0] at hr; cases hr
    | true =>
      rw [h0] at hr
      have h0 := Nat.eq_of_beq_eq_true h0
      cases hr
      exact ⟨rfl, rfl, #[], .nil, fun w2 _ => by simp [Builtin.firstCells, loadCells, loadCellsFrom, h0]⟩
  | string s =>
    cases hr
    refine ⟨rfl, rfl, (s.extract 0 n).data.map fun b => .int .u8 b.toNat, ?_, fun w2 _ => rfl⟩
    have : ((s.extract 0 n).data.map fun b : UInt8 => Value.int .u8 b.toNat).toList = (s.data.toList.take n).map fun b => .int .u8 b.toNat := by
      simp [ByteArray.data_extract]
    rw [this]
    refine VRs.refl_of fun v hv => ?_
    simp only [List.mem_map] at hv
    obtain ⟨b, _, rfl⟩ := hv
    exact .int _ _
  | _ => cases hr
theorem VRs.oneCells {vs vs' : List Value} (h : VRs μ vs vs') (ho : vs.all oneCell = true) : ∀ v ∈ vs', v.oneCell' = true := by
  induction vs generalizing vs' with
  | nil => cases h; simp
  | cons v vs ih =>
    cases h with
    | cons _ v' _ l' h1 h2 =>
      simp only [List.all_cons, Bool.and_eq_true] at ho
      intro u hu
      rcases List.mem_cons.1 hu with rfl | hu
      · have h3 := h1.oneCell
        rw [ho.1] at h3
        cases u <;> first | rfl | (simp [oneCell] at h3)
      · exact ih h2 ho.2 u hu
/-- The run of growT, where the new block is fresh in the world. -/
theorem grow_fresh {st st' : St} {a : Value} {elem size need x : Nat} {vs vs' : List Value} {rest : Array Value} (hg : (growT elem size need vs).run st = some (a, st')) (hs : SR μ N w0 st.h w) (hv : VRs μ vs vs')
    (hlen : vs.length = need * size) (hsz : size ≠ 0) (hrest : x * size ≤ rest.size) :
    ∃ ν e, Ext μ ν ∧ SR ν N w0 st'.h { w with heap := w.heap.push (.cells (vs'.toArray ++ rest) elem (0, 0)) } ∧ a = .slice (some ⟨st.nx, 0, none⟩) need need ∧ ν st.nx = some e ∧ e.b = w.heap.size ∧ e.o = 0 ∧ e.s = size ∧ e.x = x ∧ e.len = need * size := by
  simp only [growT, AT.run] at hg
  cases hb : st.h.get st.nx with
  | some x => rw [hb] at hg; cases hg
  | none =>
    rw [hb] at hg
    dsimp only at hg
    cases hb2 : Nat.blt st.nx 1000000000000 with
    | false => rw [hb2] at hg; cases hg
    | true =>
      rw [hb2, cond_true] at hg
      cases hg
      have hlt : st.nx + 1 < 2 ^ 60 := by rw [Nat.blt_eq] at hb2; omega
      obtain ⟨e, e1, e2, e3, e4, e5, e6, e7⟩ := hs.newCells (c := vs.map some) (t := elem) (k := size + 2) (arr := vs'.toArray ++ rest) (s := size) (x := x) (lo := 0) (hi := 0) hb hlt (by omega) (fun h => by omega) (fun _ => ⟨rfl, hsz⟩)
        (by simp [hv.length]; omega) (fun i _ => by omega) (fun i v h => by
          rw [List.getElem?_map] at h
          rcases hv.get i with ⟨h1, h2⟩ | ⟨x, x', h1, h2, h3⟩
          · rw [h1] at h; cases h
          · rw [h1] at h; cases h
            refine ⟨x', ?_, h3⟩
            have hi : i < vs'.length := (List.getElem?_eq_some_iff.1 h2).1
            rw [Array.getElem?_append_left (by simpa using hi)]
            simpa using h2) true (fun h => by omega)
      exact ⟨_, e, e6, e7, rfl, Mp.add_same _ _, e1, e2, e4, e5, by rw [e3]; simpa using hlen⟩
end
end Go.Proofs.YtndjhcmgngnfbaaGreatDoor.AM
end
