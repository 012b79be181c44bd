/- Conversions, comparisons with nil, interfaces, small builtins, of the abstract machine and of the model. No condition. -/
import Derived.Test.YtndjhcmgngnfbaaGreatDoorAmI
import Derived.Lib.ConvBytes
import Derived.Laws.BytesString
set_option linter.unusedSimpArgs false
set_option linter.unusedVariables false
set_option linter.all false
section
namespace Go.Proofs.YtndjhcmgngnfbaaGreatDoor.AM
open Go Go.RowKit
section
variable {P : Program} {N : Nat} {w0 w : World} {h : Tr Blk} {α β γ δ : Type} {R : Mp → α → β → Prop} {μ : Mp} {ty : Nat → Option TInfo}
/-! ### Bytes and strings -/
def bytesOf : List Value → Option (List Int)
  | [] => some []
  | .int .u8 n :: l => (bytesOf l).map (n :: ·)
  | _ :: _ => none
theorem bytesOf_spec : ∀ {l : List Value} {ns : List Int}, bytesOf l = some ns → l = ns.map (Value.int .u8)
  | [], ns, h => by cases h; rfl
  | .int .u8 n :: l, ns, h => by
    simp only [bytesOf, Option.map_eq_some_iff] at h
    obtain ⟨a, h1, rfl⟩ := h
    rw [bytesOf_spec h1]; rfl
  | .int .i8 _ :: _, _, h => by cases h
  | .int .i16 _ :: _, _, h => by cases h
  | .int .i32 _ :: _, _, h => by cases h
  | .int .i64 _ :: _, _, h => by cases h
  | .int .u16 _ :: _, _, h => by cases h
  | .int .u32 _ :: _, _, h => by cases h
  | .int .u64 _ :: _, _, h => by cases h
  | .bool _ :: _, _, h => by cases h
  | .float _ _ :: _, _, h => by cases h
  | .complex _ _ _ :: _, _, h => by cases h
  | .string _ :: _, _, h => by cases h
  | .pointer _ :: _, _, h => by cases h
  | .slice _ _ _ :: _, _, h => by cases h
  | .map _ :: _, _, h => by cases h
  | .chan _ :: _, _, h => by cases h
  | .func _ _ _ :: _, _, h => by cases h
  | .nilFunc :: _, _, h => by cases h
  | .iface _ _ :: _, _, h => by cases h
  | .nilIface :: _, _, h => by cases h
  | .agg _ :: _, _, h => by cases h
  | .tuple _ :: _, _, h => by cases h
theorem VRs.bytes {ns : List Int} {l' : List Value} (h : VRs μ (ns.map (Value.int .u8)) l') : l' = ns.map (Value.int .u8) :=
  VRs.eq_of h fun v hv v' hr => by
    simp only [List.mem_map] at hv
    obtain ⟨n, _, rfl⟩ := hv
    cases hr; rfl
def convT (P : Program) (ty : Nat → Option TInfo) (src dst : TypeId) (x : Value) : AT Value :=
  match x, ty src, ty dst with
  | .slice (some ⟨b, off, none⟩) len _, some is, some id =>
    match is.u, id.u with
    | .slice e, .string => match ty e with
      | some ie => match ie.u with
        | .int .u8 => (loadN b off len).bind fun vs => match bytesOf vs with
          | some ns => .ret (.string (ns.foldl (fun r n => r.push (UInt8.ofNat n.toNat)) ByteArray.empty))
          | none => .fail
        | _ => .fail
      | none => .fail
    | _, _ => .fail
  | .string s, some _, some id =>
    match id.u with
    | .slice e => match ty e with
      | some ie => match ie.u with
        | .int .u8 => .new (.cells ((s.data.toList.map fun b => Value.int .u8 b.toNat).map some) e 3 true) fun b => .ret (.slice (some ⟨b, 0, none⟩) s.data.toList.length s.data.toList.length)
        | _ => .fail
      | none => .fail
    | _ => bif plain x then (ofOpt (pureRun P (convert src dst x))).bind fun v => bif plain v then .ret v else .fail else .fail
  | _, _, _ => bif plain x then (ofOpt (pureRun P (convert src dst x))).bind fun v => bif plain v then .ret v else .fail else .fail
theorem sim_plain {s : Value → Sem Value} {x x' : Value} (hx : VR μ x x') :
    Sim P N w0 VR μ (bif plain x then (ofOpt (pureRun P (s x))).bind fun v => bif plain v then .ret v else .fail else .fail) (s x') := by
  cases hp : plain x with
  | false => exact Sim.fail
  | true => rw [plain_eq hp hx]; exact Sim.ofPure rfl
theorem sim_conv (hty : TyOk P ty) (src dst : TypeId) {x x' : Value} (hx : VR μ x x') : Sim P N w0 VR μ (convT P ty src dst x) (convert src dst x') := by
  have gen := sim_plain (P := P) (N := N) (w0 := w0) (s := convert src dst) hx
  unfold convT
  cases hx with
  | slice b off e len c c' he hc =>
    cases his : ty src with
    | none => dsimp only; exact gen
    | some is =>
      cases hid : ty dst with
      | none => dsimp only; exact gen
      | some id =>
        obtain ⟨a1, a2⟩ := hty _ _ his
        obtain ⟨b1, b2⟩ := hty _ _ hid
        dsimp only
        cases hus : is.u with
        | slice el =>
          cases hud : id.u with
          | string =>
            dsimp only
            cases hie : ty el with
            | none => exact Sim.fail
            | some ie =>
              obtain ⟨c1, c2⟩ := hty _ _ hie
              dsimp only
              cases hue : ie.u with
              | int k =>
                cases k with
                | u8 =>
                  dsimp only
                  intro st w a st' ht hs
                  rw [AT.run_bind] at ht
                  simp only [M.bind] at ht
                  cases hl : (loadN b off len).run st with
                  | none => rw [hl] at ht; cases ht
                  | some p =>
                    obtain ⟨vs, st1⟩ := p
                    rw [hl] at ht
                    dsimp only at ht
                    obtain ⟨g1, g2, g3, g4⟩ := loadN_reads _ _ _ _ _ hl
                    obtain ⟨l', hl', hrun⟩ := loadCells_sr (P := P) (off := off) hs he vs 0 fun k v hv => by
                      obtain ⟨c, t, kd, sp, e1, e2⟩ := g4 k v hv
                      exact ⟨c, t, kd, sp, e1, by rw [Nat.add_zero]; exact e2⟩
                    cases hb : bytesOf vs with
                    | none => rw [hb] at ht; cases ht
                    | some ns =>
                      rw [hb] at ht
                      cases ht
                      have hvs := bytesOf_spec hb
                      rw [hvs] at hl'
                      have hll := hl'.bytes
                      subst hll
                      refine ⟨μ, w, _, .refl _, ?_, by rw [g1]; exact hs, .string _⟩
                      rw [run_convert_bytes_string w src dst el _ len c' (by rw [a2, hus]) (by rw [c2, hue]) (by rw [b2, hud])]
                      refine run_bytesToString w _ len c' ns ?_
                      have := hrun w rfl #[]
                      rw [g3] at this
                      simpa [loadCells] using this
                | _ => exact Sim.fail
              | _ => exact Sim.fail
          | _ => exact Sim.fail
        | _ => exact Sim.fail
  | string s =>
    cases his : ty src with
    | none => dsimp only; exact gen
    | some is =>
      cases hid : ty dst with
      | none => dsimp only; exact gen
      | some id =>
        obtain ⟨a1, a2⟩ := hty _ _ his
        obtain ⟨b1, b2⟩ := hty _ _ hid
        dsimp only
        cases hud : id.u with
        | slice el =>
          dsimp only
          cases hie : ty el with
          | none => exact Sim.fail
          | some ie =>
            obtain ⟨c1, c2⟩ := hty _ _ hie
            dsimp only
            cases hue : ie.u with
            | int k =>
              cases k with
              | u8 =>
                dsimp only
                intro st w a st' ht hs
                simp only [AT.run] at ht
                cases hb : st.h.get st.nx with
                | some x => rw [hb] at ht; cases ht
                | none =>
                  rw [hb] at ht
                  dsimp only at ht
                  cases hg : Nat.blt st.nx 1000000000000 with
                  | false => rw [hg] at ht; cases ht
                  | true =>
                    rw [hg, cond_true] at ht
                    cases ht
                    have hlt : st.nx + 1 < 2 ^ 60 := by rw [Nat.blt_eq] at hg; omega
                    have hcap : s.size ≤ grownCap w s.size 0 el := by unfold grownCap Question.cut; dsimp only; omega
                    have hsz : (Lib.bytesCells w el s).size = grownCap w s.size 0 el := by
                      simp only [Lib.bytesCells, Array.size_append, Array.size_map, Array.size_replicate]
                      rw [ByteArray.size] at hcap ⊢; omega
                    obtain ⟨e, e1, e2, e3, e4, e5, e6, e7⟩ := hs.newCells (c := (s.data.toList.map fun b => Value.int .u8 b.toNat).map some) (t := el) (k := 3) (arr := Lib.bytesCells w el s) (s := 1) (x := grownCap w s.size 0 el - s.size) (lo := (Lib.bytesCells w el s).size) (hi := (Lib.bytesCells w el s).size + 1)
                      hb hlt (by omega) (fun h => by omega) (fun _ => ⟨rfl, by omega⟩) (by rw [hsz]; simp only [List.length_map, Array.length_toList]; rw [ByteArray.size] at hcap ⊢; omega) (fun i hi => by omega) (fun i v h => by
                        simp only [List.map_map, List.getElem?_map] at h
                        cases hq : s.data.toList[i]? with
                        | none => rw [hq] at h; cases h
                        | some u =>
                          rw [hq] at h
                          simp at h
                          subst h
                          refine ⟨.int .u8 u.toNat, ?_, .int _ _⟩
                          have hi : i < s.data.size := by have := (List.getElem?_eq_some_iff.1 hq).1; simpa using this
                          unfold Lib.bytesCells
                          rw [Array.getElem?_append_left (by simpa using hi)]
                          simp only [Array.getElem?_map]
                          rw [Array.getElem?_toList] at hq
                          rw [hq]; rfl) true (fun h => by omega)
                    have hw : Lib.bytesWorld w el s = { w with heap := w.heap.push (.cells (Lib.bytesCells w el s) el ((Lib.bytesCells w el s).size, (Lib.bytesCells w el s).size + 1)), drawn := w.drawn + 1 } := by
                      have hh : (Lib.bytesWorld w el s).heap = w.heap.push (.cells (Lib.bytesCells w el s) el ((Lib.bytesCells w el s).size, (Lib.bytesCells w el s).size + 1)) := by
                        apply Array.ext
                        · rw [Lib.bytesWorld_size]; simp
                        · intro i h0 h2
                          have h1 := h0
                          rw [Lib.bytesWorld_size] at h1
                          by_cases hi : i < w.heap.size
                          · have := Lib.bytesWorld_at_old w el s i hi
                            rw [Array.getElem?_eq_getElem h0, Array.getElem?_eq_getElem hi] at this
                            rw [Array.getElem_push_lt hi]
                            exact Option.some.inj this
                          · have hie : i = w.heap.size := by omega
                            subst hie
                            have := Lib.bytesWorld_at_new w el s
                            rw [Array.getElem?_eq_getElem h0] at this
                            simp only [Array.getElem_push_eq]
                            exact Option.some.inj this
                      have hb0 : Lib.bytesWorld w el s = { (Lib.bytesWorld w el s) with heap := (Lib.bytesWorld w el s).heap } := rfl
                      rw [hb0, hh]
                      simp [Lib.bytesWorld, World.freeze, World.alloc, World.drew, -World.alloc_eq, -World.drew_eq]
                    refine ⟨_, Lib.bytesWorld w el s, _, e6, Lib.run_convert_string_bytes w src dst el s a2 (by rw [b2, hud]) (by rw [c2, hue]), ?_, ?_⟩
                    · rw [hw]; exact e7.drew _
                    · have hlen : s.data.toList.length = s.size := by rw [ByteArray.size]; simp
                      have := VR.slice (μ := Mp.add μ st.nx e) st.nx 0 e s.size s.data.toList.length (grownCap w s.size 0 el) (Mp.add_same _ _) (by
                        by_cases hq : grownCap w s.size 0 el = s.size
                        · exact .inl (by omega)
                        · exact .inr ⟨by omega, by omega, by rw [e4, e3]; simp, by rw [e5]; omega⟩)
                      rw [e1, e2] at this
                      rw [← hlen] at this ⊢
                      exact this
              | _ => exact Sim.fail
            | _ => exact Sim.fail
        | _ => exact gen
  | _ => exact gen
/-! ### Comparisons with nil -/
def nilT (ty : Nat → Option TInfo) (t : TypeId) (x y : Value) : Option Bool :=
  match ty t with
  | none => none
  | some i => match i.u, x, y with
    | .pointer _, .pointer none, .pointer b => some b.isNone
    | .pointer _, .pointer (some _), .pointer none => some false
    | .slice _, .slice none _ _, .slice b _ _ => some b.isNone
    | .slice _, .slice (some _) _ _, .slice none _ _ => some false
    | .map _ _, .map none, .map b => some b.isNone
    | .map _ _, .map (some _), .map none => some false
    | .func _ _ _, .nilFunc, .func _ _ _ => some false
    | .func _ _ _, .func _ _ _, .nilFunc => some false
    | .interface _, .nilIface, .iface _ _ => some false
    | .interface _, .iface _ _, .nilIface => some false
    | _, _, _ => none
theorem run_nil_d (hty : TyOk P ty) (t : TypeId) {x x' y y' : Value} {b : Bool} (hx : VR μ x x') (hy : VR μ y y') (h : nilT ty t x y = some b) (w : World) (d : Nat) : (Op.equalIn (d + 1) t x' y').run P w = .ok b w := by
  unfold nilT at h
  cases hi : ty t with
  | none => rw [hi] at h; cases h
  | some i =>
    obtain ⟨a1, a2⟩ := hty _ _ hi
    rw [hi] at h
    dsimp only at h
    cases hu : i.u <;> rw [hu] at h a2 <;> (try (cases h; done)) <;> cases hx <;> (try (cases h; done)) <;> cases hy <;> (try (cases h; done)) <;>
      (simp at h; subst h; simp [Op.equalIn, run_underlying a2])
theorem run_nil (hty : TyOk P ty) (t : TypeId) {x x' y y' : Value} {b : Bool} (hx : VR μ x x') (hy : VR μ y y') (h : nilT ty t x y = some b) (w : World) : (Op.equal t x' y').run P w = .ok b w :=
  run_nil_d hty t hx hy h w 9999
def isEqOp : BinOp → Bool
  | .eql => true
  | .neq => true
  | _ => false
def eqRes : BinOp → Bool → Bool
  | .eql, b => b
  | _, b => !b
def intFast (op : BinOp) (k : IntKind) (a b : Int) : Option Value :=
  match op with
  | .add => some (.int k (k.wrap (a + b)))
  | .sub => some (.int k (k.wrap (a - b)))
  | .mul => some (.int k (k.wrap (a * b)))
  | .eql => some (.bool (a == b))
  | .neq => some (.bool (a != b))
  | .lss => some (.bool (a < b))
  | .leq => some (.bool (a ≤ b))
  | .gtr => some (.bool (a > b))
  | .geq => some (.bool (a ≥ b))
  | _ => none
def binT (P : Program) (ty : Nat → Option TInfo) (op : BinOp) (t : TypeId) (xo yo : Operand) (x y : Value) : AT Value :=
  match x, y with
  | .int k a, .int k' b =>
    match (if k = k' then intFast op k a b else none) with
    | some v => .ret v
    | none => (ofOpt (pureRun P (do eqGuard op t xo yo x y; binOp op t x y))).bind fun v => bif plain v then .ret v else .fail
  | _, _ =>
    bif plain x && plain y then (ofOpt (pureRun P (do eqGuard op t xo yo x y; binOp op t x y))).bind fun v => bif plain v then .ret v else .fail
    else match (if isEqOp op then nilT ty t x y else none) with
      | some b => .ret (.bool (eqRes op b))
      | none => .fail
theorem run_binFast {op : BinOp} {k : IntKind} {a b : Int} {v : Value} (h : intFast op k a b = some v) (t : TypeId) (xo yo : Operand) (w : World) :
    (do eqGuard op t xo yo (.int k a) (.int k b); binOp op t (.int k a) (.int k b) : Sem Value).run P w = .ok v w := by
  cases op <;> simp [intFast] at h <;> subst h <;> simp [eqGuard, binOp, Op.intArith, Op.intCmp]
theorem sim_bin (hty : TyOk P ty) (op : BinOp) (t : TypeId) (xo yo : Operand) {x x' y y' : Value} (hx : VR μ x x') (hy : VR μ y y') :
    Sim P N w0 VR μ (binT P ty op t xo yo x y) (do eqGuard op t xo yo x' y'; binOp op t x' y') := by
  have gen : Sim P N w0 VR μ (bif plain x && plain y then (ofOpt (pureRun P (do eqGuard op t xo yo x y; binOp op t x y))).bind fun v => bif plain v then .ret v else .fail
      else match (if isEqOp op then nilT ty t x y else none) with
        | some b => .ret (.bool (eqRes op b))
        | none => .fail) (do eqGuard op t xo yo x' y'; binOp op t x' y') := by
    cases hp : plain x && plain y with
    | true =>
      simp only [Bool.and_eq_true] at hp
      rw [plain_eq hp.1 hx, plain_eq hp.2 hy]
      exact Sim.ofPure rfl
    | false =>
      simp only [cond_false]
      cases ho : isEqOp op with
      | false => exact Sim.fail
      | true =>
        simp only [if_true]
        cases hn : nilT ty t x y with
        | none => exact Sim.fail
        | some b =>
          dsimp only
          have hr := run_nil (P := P) hty t hx hy hn
          refine Sim.retRun (b := .bool (eqRes op b)) (fun w => ?_) (.bool _)
          have hg : (eqGuard op t xo yo x' y').run P w = .ok () w := by
            unfold nilT at hn
            cases hi : ty t with
            | none => rw [hi] at hn; cases hn
            | some i =>
              rw [hi] at hn
              dsimp only at hn
              cases hu : i.u <;> rw [hu] at hn <;> (try (cases hn; done)) <;> cases hx <;> (try (cases hn; done)) <;> cases hy <;> (try (cases hn; done)) <;> cases op <;> first | (simp [isEqOp] at ho; done) | rfl
          rw [Sem.run_bind, hg]
          simp only [Result.andThen_ok]
          cases op with
          | eql =>
            have : binOp .eql t x' y' = (do pure (.bool (← Op.equal t x' y')) : Sem Value) := by
              unfold nilT at hn
              cases hi : ty t with
              | none => rw [hi] at hn; cases hn
              | some i =>
                rw [hi] at hn
                dsimp only at hn
                cases hu : i.u <;> rw [hu] at hn <;> (try (cases hn; done)) <;> cases hx <;> (try (cases hn; done)) <;> cases hy <;> (try (cases hn; done)) <;> rfl
            rw [this]
            simp [hr, eqRes]
          | neq =>
            have : binOp .neq t x' y' = (do pure (.bool (!(← Op.equal t x' y'))) : Sem Value) := by
              unfold nilT at hn
              cases hi : ty t with
              | none => rw [hi] at hn; cases hn
              | some i =>
                rw [hi] at hn
                dsimp only at hn
                cases hu : i.u <;> rw [hu] at hn <;> (try (cases hn; done)) <;> cases hx <;> (try (cases hn; done)) <;> cases hy <;> (try (cases hn; done)) <;> rfl
            rw [this]
            simp [hr, eqRes]
          | _ => simp [isEqOp] at ho
  unfold binT
  cases hx with
  | int k a =>
    cases hy with
    | int k' b =>
      dsimp only
      have gen2 : Sim P N w0 VR μ ((ofOpt (pureRun P (do eqGuard op t xo yo (.int k a) (.int k' b); binOp op t (.int k a) (.int k' b)))).bind fun v => bif plain v then .ret v else .fail) (do eqGuard op t xo yo (.int k a) (.int k' b); binOp op t (.int k a) (.int k' b)) := Sim.ofPure rfl
      by_cases hk : k = k'
      · subst hk
        rw [if_pos rfl]
        cases hf : intFast op k a b with
        | none => exact gen2
        | some v =>
          refine Sim.retRun (run_binFast hf t xo yo) ?_
          cases op <;> simp [intFast] at hf <;> subst hf <;> first | exact .int _ _ | exact .bool _
      · rw [if_neg hk]; exact gen2
    | _ => exact gen
  | _ => exact gen
end
end Go.Proofs.YtndjhcmgngnfbaaGreatDoor.AM
end
/- Interfaces, small builtins, calls; and every operation, of the abstract machine and of the model. No condition. -/
section
namespace Go.Proofs.YtndjhcmgngnfbaaGreatDoor.AM
open Go Go.RowKit
section
variable {P : Program} {N : Nat} {w0 w : World} {h : Tr Blk} {α β γ δ : Type} {R : Mp → α → β → Prop} {μ : Mp} {ty : Nat → Option TInfo}
def ifaceT (ty : Nat → Option TInfo) (t : TypeId) (x : Value) : AT Value :=
  match ty t with
  | none => .fail
  | some i => match i.u with
    | .interface _ => .fail
    | _ => .ret (.iface t x)
theorem sim_iface (hty : TyOk P ty) (t : TypeId) {x x' : Value} (hx : VR μ x x') : Sim P N w0 VR μ (ifaceT ty t x) (Instr.makeInterface t x') := by
  unfold ifaceT
  cases hi : ty t with
  | none => exact Sim.fail
  | some i =>
    obtain ⟨a1, a2⟩ := hty _ _ hi
    dsimp only
    cases hu : i.u <;> first
      | exact Sim.fail
      | (refine Sim.retRun (b := .iface t x') (fun w => ?_) (.iface t _ _ hx); simp only [Instr.makeInterface, Sem.run_bind, run_underlying a2, hu, Result.andThen_ok]; rfl)
def failsT : Bool → Option Value → AT Value
  | true, some z => bif plain z then .ret (.tuple #[z, .bool false]) else .fail
  | _, _ => .fail
def assertT (ty : Nat → Option TInfo) (asserted : TypeId) (commaOk : Bool) (x : Value) : AT Value :=
  match ty asserted with
  | none => .fail
  | some ia =>
    let holds (v : Value) : AT Value := .ret (if commaOk then .tuple #[v, .bool true] else v)
    let fails : AT Value := failsT commaOk ia.info.zero
    match ia.u, x with
    | .interface _, .nilIface => fails
    | .interface want, .iface t _ => match ty t with
      | none => .fail
      | some it => match Instr.missingMethod want it.info.methods with
        | none => holds x
        | some _ => fails
    | _, .nilIface => fails
    | _, .iface t v => if t = asserted then holds v else fails
    | _, _ => .fail
theorem sim_assert (hty : TyOk P ty) (xType asserted : TypeId) (commaOk : Bool) {x x' : Value} (hx : VR μ x x') : Sim P N w0 VR μ (assertT ty asserted commaOk x) (Instr.typeAssert x' xType asserted commaOk) := by
  unfold assertT
  cases hi : ty asserted with
  | none => exact Sim.fail
  | some ia =>
    obtain ⟨a1, a2⟩ := hty _ _ hi
    dsimp only
    have hholds : ∀ {v v' : Value}, VR μ v v' → VR μ (if commaOk then .tuple #[v, .bool true] else v) (if commaOk then .tuple #[v', .bool true] else v') := by
      intro v v' hv
      split
      · exact .tuple _ _ (.cons _ _ _ _ hv (.cons _ _ _ _ (.bool _) .nil))
      · exact hv
    have hfails : ∀ (s : Sem Value), (commaOk = true → ∀ z, ia.info.zero = some z → ∀ w, s.run P w = .ok (.tuple #[z, .bool false]) w) →
        Sim P N w0 VR μ (failsT commaOk ia.info.zero) s := by
      intro s hs
      cases commaOk with
      | false => exact Sim.fail
      | true =>
        cases hz : ia.info.zero with
        | none => exact Sim.fail
        | some z =>
          simp only [failsT]
          cases hp : plain z with
          | false => exact Sim.fail
          | true => exact Sim.retRun (hs rfl z hz) (.tuple _ _ (.cons _ _ _ _ (plain_refl μ hp) (.cons _ _ _ _ (.bool _) .nil)))
    unfold Instr.typeAssert
    refine Sim.underlying a2 ?_
    cases hx with
    | nilIface =>
      cases hu : ia.u <;> (dsimp only; refine hfails _ (fun hc z hz w => ?_); subst hc; simp [run_zeroValue a1 hz])
    | iface t v v' hv =>
      cases hu : ia.u with
      | interface want =>
        dsimp only
        cases hit : ty t with
        | none => exact Sim.fail
        | some it =>
          dsimp only
          refine Sim.step (run_typeInfo (hty _ _ hit).1) ?_
          cases hm : Instr.missingMethod want it.info.methods with
          | none => exact Sim.ret (hholds (.iface t v v' hv))
          | some m => dsimp only; refine hfails _ (fun hc z hz w => ?_); subst hc; simp [run_zeroValue a1 hz]
      | _ =>
        dsimp only
        by_cases ht : t = asserted
        · rw [if_pos ht, if_pos ht]; exact Sim.ret (hholds hv)
        · rw [if_neg ht, if_neg ht]; refine hfails _ (fun hc z hz w => ?_); subst hc; simp [run_zeroValue a1 hz]
    | _ => cases hu : ia.u <;> exact Sim.fail
def extractT (i : Nat) : Value → AT Value
  | .tuple vs => match vs[i]? with
    | some v => .ret v
    | none => .fail
  | _ => .fail
theorem sim_extract (i : Nat) {x x' : Value} (hx : VR μ x x') : Sim P N w0 VR μ (extractT i x) (Instr.extract x' i) := by
  cases hx with
  | tuple c c' hc =>
    simp only [extractT, Instr.extract]
    rcases hc.get i with ⟨h1, h2⟩ | ⟨v, v', h1, h2, h3⟩
    · have : c[i]? = none := by simpa using h1
      rw [this]; exact Sim.fail
    · have e1 : c[i]? = some v := by simpa using h1
      have e2 : c'[i]? = some v' := by simpa using h2
      rw [e1, e2]; exact Sim.ret h3
  | _ => exact Sim.fail
def lenT (ty : Nat → Option TInfo) (argTypes : Array TypeId) (x : Value) : AT Value :=
  match argTypes[0]? with
  | none => .fail
  | some t => match ty t with
    | none => .fail
    | some i => match i.u, x with
      | .string, .string s => .ret (goInt s.data.toList.length)
      | .array n _, _ => .ret (goInt n)
      | .pointer arr, _ => match ty arr with
        | some j => match j.u with
          | .array n _ => .ret (goInt n)
          | _ => .fail
        | none => .fail
      | .slice _, .slice _ n _ => .ret (goInt n)
      | .map _ _, .map none => .ret (goInt 0)
      | .map _ _, .map (some r) => .getObj r fun o => match o with
        | .map es _ => .ret (goInt es.size)
        | _ => .fail
      | _, _ => .fail
theorem run_len {argTypes : Array TypeId} {t : TypeId} {d : TypeDesc} (a2 : P.underlying t = some d) (ha : argTypes[0]? = some t) (type : TypeId) (x : Value) (w : World) : (Builtin.len_ argTypes type #[x]).run P w = (match d, x with
          | .string, .string s => pure (goInt s.size)
          | .array n _, _ => pure (goInt n)
          | .pointer arr, _ => do
            let .array n _ ← underlying arr | stuck "len: pointer to array expected"
            pure (goInt n)
          | .slice _, .slice _ n _ => pure (goInt n)
          | .map _ _, .map none | .chan _ _, .chan none => pure (goInt 0)
          | .map _ _, .map (some r) => do
            let .map entries _ ← getObj r | stuck "len: map expected"
            pure (goInt entries.size)
          | .chan _ _, .chan (some r) => do
            let .chan _ buf _ _ _ timer ← getObj r | stuck "len: channel expected"
            pure (goInt (if timer then 0 else buf.size))
          | _, _ => stuck "len: string, array, pointer to array, slice, map or channel expected" : Sem Value).run P w := by
  unfold Builtin.len_
  simp only [ha, List.getElem?_toArray, List.getElem?_cons_zero, Sem.run_bind, run_underlying a2, Result.andThen_ok]
  rfl
theorem sim_len (hty : TyOk P ty) (argTypes : Array TypeId) (type : TypeId) {x x' : Value} (hx : VR μ x x') : Sim P N w0 VR μ (lenT ty argTypes x) (Builtin.len_ argTypes type #[x']) := by
  unfold lenT
  cases ha : argTypes[0]? with
  | none => exact Sim.fail
  | some t =>
    dsimp only
    cases hi : ty t with
    | none => exact Sim.fail
    | some i =>
      obtain ⟨a1, a2⟩ := hty _ _ hi
      dsimp only
      refine Sim.congr (run_len a2 ha type x') ?_
      cases hu : i.u with
      | string =>
        cases hx with
        | string s =>
          dsimp only
          have : s.data.toList.length = s.size := by rw [ByteArray.size]; simp
          rw [this]; exact Sim.ret (.int _ _)
        | _ => exact Sim.fail
      | array n e => exact Sim.ret (.int _ _)
      | pointer arr =>
        dsimp only
        cases hj : ty arr with
        | none => exact Sim.fail
        | some j =>
          dsimp only
          cases hju : j.u with
          | array n e =>
            refine Sim.underlying (hty _ _ hj).2 ?_
            rw [hju]; exact Sim.ret (.int _ _)
          | _ => exact Sim.fail
      | slice e =>
        cases hx with
        | sliceNil n c => exact Sim.ret (.int _ _)
        | sliceEnd b o c => exact Sim.ret (.int _ _)
        | slice b off e n c c' he hc => exact Sim.ret (.int _ _)
        | _ => exact Sim.fail
      | map kt et =>
        cases hx with
        | mapNil => exact Sim.ret (.int _ _)
        | map r e he =>
          dsimp only
          refine Sim.getObj he fun o o' ho _ => ?_
          cases ho with
          | map es es' clock hE =>
            have : es.size = es'.size := by simpa using hE.length
            dsimp only
            rw [this]; exact Sim.ret (.int _ _)
          | _ => exact Sim.fail
        | _ => exact Sim.fail
      | _ => cases hx <;> exact Sim.fail
def capT (ty : Nat → Option TInfo) (argTypes : Array TypeId) (x : Value) : AT Value :=
  match argTypes[0]? with
  | none => .fail
  | some t => match ty t with
    | none => .fail
    | some i => match i.u, x with
      | .slice _, .slice none _ c => .ret (goInt c)
      | .slice _, .slice (some ⟨b, _, none⟩) _ c => .shape b fun _ _ kd => bif Nat.ble kd 1 then .ret (goInt c) else .fail
      | _, _ => .fail
theorem sim_cap (hty : TyOk P ty) (argTypes : Array TypeId) (type : TypeId) {x x' : Value} (hx : VR μ x x') : Sim P N w0 VR μ (capT ty argTypes x) (Builtin.cap_ argTypes type #[x']) := by
  unfold capT
  cases ha : argTypes[0]? with
  | none => exact Sim.fail
  | some t =>
    dsimp only
    cases hi : ty t with
    | none => exact Sim.fail
    | some i =>
      obtain ⟨a1, a2⟩ := hty _ _ hi
      dsimp only
      cases hu : i.u with
      | slice e =>
        have hrun : ∀ (base : Option Addr) (n c : Nat) (w : World), (Builtin.cap_ argTypes type #[.slice base n c]).run P w = .ok (goInt c) w := by
          intro base n c w
          unfold Builtin.cap_
          simp [ha, run_underlying a2, hu]
        cases hx with
        | sliceNil n c => exact Sim.retRun (fun w => hrun _ _ _ w) (.int _ _)
        | slice b off en n c c' he hc =>
          refine Sim.shape he fun t' kd hk1 hk2 => ?_
          cases hg : Nat.ble kd 1 with
          | false => exact Sim.fail
          | true =>
            rw [Nat.ble_eq] at hg
            have hc' : c' = c := by
              rcases hc with hc | hc
              · exact hc
              · exact absurd (hk1 hg) hc.2.1
            subst hc'
            exact Sim.retRun (fun w => hrun _ _ _ w) (.int _ _)
        | _ => exact Sim.fail
      | _ => cases x <;> exact Sim.fail
def clearT (ty : Nat → Option TInfo) (argTypes : Array TypeId) (x : Value) : AT Value :=
  match argTypes[0]? with
  | none => .fail
  | some t => match ty t with
    | none => .fail
    | some i => match i.u, x with
      | .map _ _, .map none => .ret (.tuple #[])
      | .map _ _, .map (some r) => .getObj r fun o => match o with
        | .map _ clock => .setObj r (.map #[] clock) (.ret (.tuple #[]))
        | _ => .fail
      | .slice elem, .slice (some ⟨b, off, none⟩) (n + 1) _ => match ty elem with
        | some j => match j.info.zero with
          | some z => bif (Builtin.zeroCells z.cells (n + 1)).toList.all plain then (storeN b off (Builtin.zeroCells z.cells (n + 1)).toList).bind fun _ => .ret (.tuple #[]) else .fail
          | none => .fail
        | none => .fail
      | .slice _, .slice _ 0 _ => .ret (.tuple #[])
      | _, _ => .fail
theorem sim_clear (hty : TyOk P ty) (argTypes : Array TypeId) (type : TypeId) {x x' : Value} (hx : VR μ x x') : Sim P N w0 VR μ (clearT ty argTypes x) (Builtin.clear_ argTypes type #[x']) := by
  unfold clearT
  cases ha : argTypes[0]? with
  | none => exact Sim.fail
  | some t =>
    dsimp only
    cases hi : ty t with
    | none => exact Sim.fail
    | some i =>
      obtain ⟨a1, a2⟩ := hty _ _ hi
      dsimp only
      have htup : VR μ (.tuple #[]) (.tuple #[]) := .tuple _ _ .nil
      cases hu : i.u with
      | map kt et =>
        cases hx with
        | mapNil =>
          refine Sim.retRun (b := .tuple #[]) (fun w => ?_) htup
          unfold Builtin.clear_
          simp [ha, run_underlying a2, hu]
        | map r e he =>
          dsimp only
          refine Sim.congr (s' := Go.getObj e.b >>= fun o => match o with
            | .map _ clock => Go.setObj e.b (.map #[] clock) >>= fun _ => pure (.tuple #[])
            | _ => stuck "clear: map expected") (fun w => ?_) ?_
          · unfold Builtin.clear_
            simp only [ha, List.getElem?_toArray, List.getElem?_cons_zero, Sem.run_bind, run_underlying a2, hu, Result.andThen_ok]
            cases hr : (Go.getObj e.b).run P w with
            | halt _ _ => rfl
            | ok o w' => cases o <;> first | rfl | (simp [Sem.run_bind]; done)
          · refine Sim.getObj he fun o o' ho _ => ?_
            cases ho with
            | map es es' clock hE => exact Sim.setObj he (.map _ _ _ .nil) (Sim.ret (.tuple _ _ .nil))
            | _ => exact Sim.fail
        | _ => exact Sim.fail
      | slice elem =>
        cases hx with
        | sliceEnd b o c =>
          refine Sim.retRun (b := .tuple #[]) (fun w => ?_) htup
          unfold Builtin.clear_
          simp [ha, run_underlying a2, hu]
        | sliceNil n c =>
          cases n with
          | zero =>
            refine Sim.retRun (b := .tuple #[]) (fun w => ?_) htup
            unfold Builtin.clear_
            simp [ha, run_underlying a2, hu]
          | succ n => exact Sim.fail
        | slice b off e n c c' he hc =>
          cases n with
          | zero =>
            refine Sim.retRun (b := .tuple #[]) (fun w => ?_) htup
            unfold Builtin.clear_
            simp [ha, run_underlying a2, hu]
          | succ n =>
            dsimp only
            cases hj : ty elem with
            | none => exact Sim.fail
            | some j =>
              dsimp only
              cases hz : j.info.zero with
              | none => exact Sim.fail
              | some z =>
                dsimp only
                cases hp : (Builtin.zeroCells z.cells (n + 1)).toList.all plain with
                | false => exact Sim.fail
                | true =>
                  simp only [cond_true]
                  rw [List.all_eq_true] at hp
                  have hzr : VRs μ (Builtin.zeroCells z.cells (n + 1)).toList (Builtin.zeroCells z.cells (n + 1)).toList := .refl_of fun v hv => plain_refl μ (hp v hv)
                  have h1 := sim_storeCells (P := P) (N := N) (w0 := w0) (b := b) (off := off) (e := e) _ _ 0 μ he hzr
                  refine Sim.congr (fun w => ?_) (Sim.bind (R' := VR) h1 (f := fun _ => .ret (.tuple #[])) (g := fun _ => pure (.tuple #[])) fun ξ _ _ hξ _ => Sim.ret (.tuple _ _ .nil))
                  unfold Builtin.clear_
                  simp only [ha, List.getElem?_toArray, List.getElem?_cons_zero, Sem.run_bind, run_underlying a2, hu, Result.andThen_ok, run_zeroValue (hty _ _ hj).1 hz]
        | _ => exact Sim.fail
      | _ => cases hx <;> exact Sim.fail
def deleteT (P : Program) (ty : Nat → Option TInfo) (argTypes : Array TypeId) (m key : Value) : AT Value :=
  match argTypes[0]? with
  | none => .fail
  | some t => match ty t with
    | none => .fail
    | some i => match i.u, m with
      | .map kt _, .map (some r) => match ty kt with
        | none => .fail
        | some ik => .getObj r fun o => match o with
          | .map es clock =>
            match pureRun P (Instr.checkKey es.isEmpty 10000 kt key), findT P ik kt key es with
            | some _, some none => .setObj r (.map es clock) (.ret (.tuple #[]))
            | some _, some (some (j, _)) => .setObj r (.map (es.eraseIdxIfInBounds j) clock) (.ret (.tuple #[]))
            | _, _ => .fail
          | _ => .fail
      | _, _ => .fail
theorem ERs.erase {l l' : List MapEntry} (h : ERs μ l l') (i : Nat) : ERs μ (l.eraseIdx i) (l'.eraseIdx i) := by
  induction h generalizing i with
  | nil => simpa using ERs.nil
  | cons e e' l l' h1 h2 h3 h4 ih =>
    cases i with
    | zero => simpa using h4
    | succ i => simp only [List.eraseIdx_cons_succ]; exact .cons _ _ _ _ h1 h2 h3 (ih i)
theorem erase_toList (es : Array MapEntry) (j : Nat) : (es.eraseIdxIfInBounds j).toList = es.toList.eraseIdx j := by
  unfold Array.eraseIdxIfInBounds
  split
  · simp
  · rename_i hn
    rw [List.eraseIdx_of_length_le]
    simp at hn ⊢
    exact hn
theorem sim_delete (hty : TyOk P ty) (argTypes : Array TypeId) (type : TypeId) {m m' key key' : Value} (hm : VR μ m m') (hk : VR μ key key') : Sim P N w0 VR μ (deleteT P ty argTypes m key) (Builtin.delete_ argTypes type #[m', key']) := by
  unfold deleteT
  cases ha : argTypes[0]? with
  | none => exact Sim.fail
  | some t =>
    dsimp only
    cases hi : ty t with
    | none => exact Sim.fail
    | some i =>
      obtain ⟨a1, a2⟩ := hty _ _ hi
      dsimp only
      cases hu : i.u with
      | map kt et =>
        cases hm with
        | map r e he =>
          dsimp only
          cases hik : ty kt with
          | none => exact Sim.fail
          | some ik =>
            dsimp only
            refine Sim.congr (s' := Go.getObj e.b >>= fun o => match o with
              | .map es clock => do
                Instr.checkKey es.isEmpty 10000 kt key'
                match ← Instr.findKey kt key' es.toList with
                | some (i, _) => Go.setObj e.b (.map (es.eraseIdxIfInBounds i) clock) >>= fun _ => pure (.tuple #[])
                | none => Go.setObj e.b (.map es clock) >>= fun _ => pure (.tuple #[])
              | _ => stuck "delete: map expected") (fun w => ?_) ?_
            · unfold Builtin.delete_
              simp only [ha, List.getElem?_toArray, List.getElem?_cons_zero, List.getElem?_cons_succ, Sem.run_bind, run_underlying a2, hu, Result.andThen_ok]
              cases hr : (Go.getObj e.b).run P w with
              | halt _ _ => rfl
              | ok o w' => cases o <;> first | rfl | (simp [Sem.run_bind]; done)
            · refine Sim.getObj he fun o o' ho _ => ?_
              cases ho with
              | map es es' clock hE =>
                dsimp only
                cases hc : pureRun P (Instr.checkKey es.isEmpty 10000 kt key) with
                | none => exact Sim.fail
                | some u =>
                  cases hf : findT P ik kt key es with
                  | none => exact Sim.fail
                  | some r2 =>
                    obtain ⟨hpk, h1, h2⟩ := findT_rel hty hik hE hf
                    have hkk := plain_eq hpk hk
                    subst hkk
                    have hcr := pureRun_run _ _ hc
                    rw [← hE.empty] at hcr
                    refine Sim.step hcr ?_
                    cases r2 with
                    | none =>
                      dsimp only
                      refine Sim.step (h1 rfl) ?_
                      exact Sim.setObj he (.map _ _ _ hE) (Sim.ret (.tuple _ _ .nil))
                    | some q =>
                      obtain ⟨j, v⟩ := q
                      obtain ⟨v', g1, g2⟩ := h2 j v rfl
                      dsimp only
                      refine Sim.step g2 ?_
                      exact Sim.setObj he (.map _ _ _ (by rw [erase_toList, erase_toList]; exact hE.erase j)) (Sim.ret (.tuple _ _ .nil))
              | _ => exact Sim.fail
        | _ => exact Sim.fail
      | _ => cases hm <;> exact Sim.fail
end
end Go.Proofs.YtndjhcmgngnfbaaGreatDoor.AM
end
