/- Calls whose answer is known: a long run is cut into texts. No condition. -/
import Derived.Test.YtndjhcmgngnfbaaGreatDoorAmV
set_option linter.unusedSimpArgs false
set_option linter.unusedVariables false
set_option linter.all false
namespace Go.Proofs.YtndjhcmgngnfbaaGreatDoor.AM
open Go Go.RowKit
/-! ### Equality, by program -/
def eqL {α : Type} (f : α → α → Bool) : List α → List α → Bool
  | [], [] => true
  | a :: l, b :: m => f a b && eqL f l m
  | _, _ => false
theorem eqL_sound {α : Type} {f : α → α → Bool} (h : ∀ a b, f a b = true → a = b) : ∀ {l m : List α}, eqL f l m = true → l = m
  | [], [], _ => rfl
  | a :: l, b :: m, hh => by
    simp only [eqL, Bool.and_eq_true] at hh
    rw [h a b hh.1, eqL_sound h hh.2]
  | [], _ :: _, hh => by cases hh
  | _ :: _, [], hh => by cases hh
def eqO : Option Nat → Option Nat → Bool
  | none, none => true
  | some i, some j => Nat.beq i j
  | _, _ => false
theorem eqO_sound : ∀ {a b : Option Nat}, eqO a b = true → a = b
  | none, none, _ => rfl
  | some i, some j, h => by rw [Nat.eq_of_beq_eq_true h]
  | none, some _, h => by cases h
  | some _, none, h => by cases h
def eqAddr : Option Addr → Option Addr → Bool
  | none, none => true
  | some x, some y => Nat.beq x.block y.block && Nat.beq x.off y.off && eqO x.spot y.spot
  | _, _ => false
theorem eqAddr_sound : ∀ {a b : Option Addr}, eqAddr a b = true → a = b
  | none, none, _ => rfl
  | some ⟨b, o, s⟩, some ⟨b', o', s'⟩, h => by
    simp only [eqAddr, Bool.and_eq_true] at h
    have h1 := Nat.eq_of_beq_eq_true h.1.1
    have h2 := Nat.eq_of_beq_eq_true h.1.2
    have h3 := eqO_sound h.2
    subst h1 h2 h3
    rfl
  | none, some _, h => by cases h
  | some _, none, h => by cases h
def eqFn : Fn → Fn → Bool
  | .func f, .func g => Nat.beq f g
  | .method s, .method t => decide (s = t)
  | _, _ => false
theorem eqFn_sound {a b : Fn} (h : eqFn a b = true) : a = b := by
  cases a <;> cases b <;> first
    | (simp only [eqFn] at h; cases h; done)
    | (simp only [eqFn] at h; rw [Nat.eq_of_beq_eq_true h])
    | (simp only [eqFn, decide_eq_true_eq] at h; rw [h])
def eqBytes (s t : ByteArray) : Bool := eqL (fun (x y : UInt8) => Nat.beq x.toNat y.toNat) s.data.toList t.data.toList
theorem eqBytes_sound {s t : ByteArray} (h : eqBytes s t = true) : s = t := by
  have := eqL_sound (fun (x y : UInt8) hxy => UInt8.toNat_inj.1 (Nat.eq_of_beq_eq_true hxy)) h
  exact ByteArray.ext (Array.toList_inj.1 this)
def eqVF : Nat → Value → Value → Bool
  | 0, _, _ => false
  | n + 1, a, b => match a, b with
    | .bool x, .bool y => x == y
    | .int k x, .int k' y => decide (k = k') && decide (x = y)
    | .string s, .string t => eqBytes s t
    | .pointer p, .pointer q => eqAddr p q
    | .slice p l c, .slice q m d => eqAddr p q && Nat.beq l m && Nat.beq c d
    | .map p, .map q => eqO p q
    | .nilFunc, .nilFunc => true
    | .func f x y, .func g z t => eqFn f g && eqL (eqVF n) x.toList z.toList && eqL (eqVF n) y.toList t.toList
    | .iface t v, .iface u w => Nat.beq t u && eqVF n v w
    | .nilIface, .nilIface => true
    | .agg x, .agg y => eqL (eqVF n) x.toList y.toList
    | .tuple x, .tuple y => eqL (eqVF n) x.toList y.toList
    | _, _ => false
theorem eqVF_sound : ∀ (n : Nat) (a b : Value), eqVF n a b = true → a = b := by
  intro n
  induction n with
  | zero => intro a b h; cases h
  | succ n ih =>
    intro a b h
    have hl : ∀ {x y : Array Value}, eqL (eqVF n) x.toList y.toList = true → x = y := fun h => Array.toList_inj.1 (eqL_sound ih h)
    cases a <;> cases b <;> first
      | (simp only [eqVF] at h; cases h; done)
      | rfl
      | (simp only [eqVF, beq_iff_eq] at h; rw [h]; done)
      | (simp only [eqVF, Bool.and_eq_true, decide_eq_true_eq] at h; rw [h.1, h.2]; done)
      | (simp only [eqVF] at h; rw [eqBytes_sound h]; done)
      | (simp only [eqVF] at h; rw [eqAddr_sound h]; done)
      | (simp only [eqVF] at h; rw [eqO_sound h]; done)
      | (simp only [eqVF] at h; rw [hl h]; done)
      | (simp only [eqVF, Bool.and_eq_true] at h; rw [eqAddr_sound h.1.1, Nat.eq_of_beq_eq_true h.1.2, Nat.eq_of_beq_eq_true h.2]; done)
      | (simp only [eqVF, Bool.and_eq_true] at h; rw [eqFn_sound h.1.1, hl h.1.2, hl h.2]; done)
      | (simp only [eqVF, Bool.and_eq_true] at h; rw [Nat.eq_of_beq_eq_true h.1, ih _ _ h.2]; done)
def eqV : Value → Value → Bool := eqVF 30
theorem eqV_sound {a b : Value} (h : eqV a b = true) : a = b := eqVF_sound 30 a b h
def eqOV : Option Value → Option Value → Bool
  | none, none => true
  | some a, some b => eqV a b
  | _, _ => false
theorem eqOV_sound : ∀ (a b : Option Value), eqOV a b = true → a = b
  | none, none, _ => rfl
  | some _, some _, h => by rw [eqV_sound h]
  | none, some _, h => by cases h
  | some _, none, h => by cases h
def eqEnt (a b : MapEntry) : Bool := eqV a.key b.key && eqV a.val b.val && Nat.beq a.born b.born
theorem eqEnt_sound (a b : MapEntry) (h : eqEnt a b = true) : a = b := by
  cases a; cases b
  simp only [eqEnt, Bool.and_eq_true] at h
  rw [eqV_sound h.1.1, eqV_sound h.1.2, Nat.eq_of_beq_eq_true h.2]
def eqObj : Obj → Obj → Bool
  | .map es c, .map es' c' => eqL eqEnt es.toList es'.toList && Nat.beq c c'
  | _, _ => false
theorem eqObj_sound {a b : Obj} (h : eqObj a b = true) : a = b := by
  cases a <;> cases b <;> first
    | (simp only [eqObj] at h; cases h; done)
    | (simp only [eqObj, Bool.and_eq_true] at h; rw [Array.toList_inj.1 (eqL_sound eqEnt_sound h.1), Nat.eq_of_beq_eq_true h.2])
def eqBlk : Blk → Blk → Bool
  | .cells c t k sp, .cells c' t' k' sp' => eqL eqOV c c' && Nat.beq t t' && Nat.beq k k' && (sp == sp')
  | .obj o, .obj o' => eqObj o o'
  | _, _ => false
theorem eqBlk_sound {a b : Blk} (h : eqBlk a b = true) : a = b := by
  cases a <;> cases b <;> first
    | (simp only [eqBlk] at h; cases h; done)
    | (simp only [eqBlk, Bool.and_eq_true, beq_iff_eq] at h; rw [eqL_sound eqOV_sound h.1.1.1, Nat.eq_of_beq_eq_true h.1.1.2, Nat.eq_of_beq_eq_true h.1.2, h.2])
    | (simp only [eqBlk] at h; rw [eqObj_sound h])
/-! ### Entries -/
/-- An object that nobody looks at any more. -/
def dead : Obj := .deferred (some [⟨.collected 0, #[]⟩])
structure Entry where
  pre : List (Nat × Blk)
  args : List Value
  v : Value
  new : List (Nat × Blk)
  nx1 : Nat
def blkLocs (b : Nat) : Blk → List Loc
  | .cells c _ _ _ => (List.range (c.length + 2)).map fun i => (b, i)
  | .obj _ => [(b, 0)]
theorem blkLocs_spec {b : Nat} {x : Blk} {g h : Tr Blk} (hx : h.get b = some x) (hl : ∀ l ∈ blkLocs b x, look g l = look h l) : g.get b = some x := by
  rw [← hx]
  cases x with
  | obj o =>
    have h0 := hl (b, 0) (by simp [blkLocs])
    simp only [look, hx] at h0
    rw [hx]
    cases hg : g.get b with
    | none => rw [hg] at h0; cases h0
    | some y =>
      rw [hg] at h0
      cases y with
      | cells c t k sp => cases h0
      | obj o' => simp only [lookBlk, LV.obj.injEq] at h0; rw [h0]
  | cells c t k sp =>
    have hin : ∀ i, i < c.length + 2 → look g (b, i) = look h (b, i) := fun i hi => hl (b, i) (by simp [blkLocs]; exact hi)
    have h0 := hin 0 (by omega)
    simp only [look, hx] at h0
    cases hg : g.get b with
    | none => rw [hg] at h0; cases h0
    | some y =>
      rw [hg] at h0
      cases y with
      | obj o' => cases h0
      | cells c' t' k' sp' =>
        simp only [lookBlk, LV.shape.injEq] at h0
        rw [← hg]
        refine blk_ext fun i => ?_
        by_cases hi : i < c.length + 2
        · exact hin i hi
        · rw [hg, hx]
          obtain ⟨j, rfl⟩ : ∃ j, i = j + 2 := ⟨i - 2, by omega⟩
          simp only [lookBlk]
          rw [List.getElem?_eq_none (by omega), List.getElem?_eq_none (by omega)]
def Entry.locs (e : Entry) : List Loc := e.pre.flatMap fun p => blkLocs p.1 p.2
def sameBlk (x : Option Blk) (y : Blk) : Bool :=
  match x with
  | some x => eqBlk x y
  | none => false
theorem sameBlk_sound {x : Option Blk} {y : Blk} (h : sameBlk x y = true) : x = some y := by
  cases x with
  | none => cases h
  | some x => rw [eqBlk_sound h]
def Entry.fits (e : Entry) (args : List Value) (s : St) : Bool :=
  eqL eqV e.args args && (e.pre.all fun p => sameBlk (s.h.get p.1) p.2) && (Nat.ble s.nx e.nx1 && Nat.blt e.nx1 1000000000000) &&
  ((List.range' s.nx (e.nx1 - s.nx)).all fun b => (s.h.get b).isNone) && (e.new.all fun p => Nat.ble s.nx p.1 && Nat.blt p.1 e.nx1)
structure Entry.Fits (e : Entry) (args : List Value) (s : St) : Prop where
  args : e.args = args
  pre : ∀ p ∈ e.pre, s.h.get p.1 = some p.2
  nx : s.nx ≤ e.nx1
  small : e.nx1 < 1000000000000
  fresh : ∀ b, s.nx ≤ b → b < e.nx1 → s.h.get b = none
  new : ∀ p ∈ e.new, s.nx ≤ p.1 ∧ p.1 < e.nx1
theorem Entry.fits_iff (e : Entry) (args : List Value) (s : St) (h : e.fits args s = true) : e.Fits args s := by
  unfold Entry.fits at h
  simp only [Bool.and_eq_true, List.all_eq_true, Nat.ble_eq, Nat.blt_eq] at h
  obtain ⟨⟨⟨⟨h1, h2⟩, h3, h4⟩, h5⟩, h6⟩ := h
  exact ⟨eqL_sound (fun a b => eqV_sound) h1, fun p hp => sameBlk_sound (h2 p hp), h3, h4, fun b hb hb' => Option.isNone_iff_eq_none.1 (h5 b (by rw [List.mem_range'_1]; omega)), h6⟩
def Entry.heap (e : Entry) (h : Tr Blk) : Tr Blk := e.new.foldr (fun p h => Tr.put 60 h p.1 p.2) h
def newAt (l : List (Nat × Blk)) (b : Nat) : Option Blk := (l.find? fun p => Nat.beq p.1 b).map (·.2)
theorem heap_get {h : Tr Blk} : ∀ (l : List (Nat × Blk)) (b : Nat), (∀ p ∈ l, p.1 < 1000000000000) → (l.foldr (fun p h => Tr.put 60 h p.1 p.2) h).get b = match newAt l b with
    | some x => some x
    | none => h.get b
  | [], b, _ => rfl
  | p :: l, b, hl => by
    rw [List.foldr_cons, Tr.get_put _ _ _ _ _ (by have := hl p (by simp); omega), heap_get l b fun q hq => hl q (by simp [hq])]
    by_cases hb : b = p.1
    · subst hb; simp [newAt]
    · have : Nat.beq p.1 b = false := beq_false (fun h => hb h.symm)
      rw [if_neg hb]
      simp only [newAt, List.find?_cons, this]
theorem newAt_mem {l : List (Nat × Blk)} {b : Nat} {x : Blk} (h : newAt l b = some x) : (b, x) ∈ l := by
  unfold newAt at h
  obtain ⟨p, hp, rfl⟩ := Option.map_eq_some_iff.1 h
  have h1 := List.mem_of_find?_eq_some hp
  have h2 := List.find?_some hp
  have h2 : p.1 = b := Nat.eq_of_beq_eq_true h2
  subst h2
  exact h1
def Entry.run (e : Entry) (args : Array Value) : M Value := fun s =>
  bif e.fits args.toList s then some (e.v, ⟨e.heap s.h, e.nx1, e.locs ++ s.rd, s.wr⟩) else none
theorem Entry.run_some {e : Entry} {args : Array Value} {s s' : St} {v : Value} (h : e.run args s = some (v, s')) :
    e.fits args.toList s = true ∧ v = e.v ∧ s' = ⟨e.heap s.h, e.nx1, e.locs ++ s.rd, s.wr⟩ := by
  unfold Entry.run at h
  cases hf : e.fits args.toList s with
  | false => rw [hf] at h; cases h
  | true => rw [hf] at h; cases h; exact ⟨rfl, rfl, rfl⟩
theorem Entry.heap_at (e : Entry) {args : List Value} {s : St} (hf : e.Fits args s) (b : Nat) : (e.heap s.h).get b = match newAt e.new b with
    | some x => some x
    | none => s.h.get b := heap_get e.new b fun p hp => Nat.lt_trans (hf.new p hp).2 hf.small
theorem Entry.outside (e : Entry) {args : List Value} {s : St} (hf : e.Fits args s) {b : Nat} (hb : ¬ (s.nx ≤ b ∧ b < e.nx1)) : (e.heap s.h).get b = s.h.get b := by
  rw [e.heap_at hf]
  cases hn : newAt e.new b with
  | none => rfl
  | some x => exact absurd (hf.new _ (newAt_mem hn)) hb
theorem Entry.run_local (e : Entry) (args : Array Value) : Local (e.run args) := by
  intro s r s' h
  obtain ⟨hf0, rfl, rfl⟩ := Entry.run_some h
  have hf := e.fits_iff _ _ hf0
  refine ⟨e.locs, [], rfl, rfl, hf.nx, fun b hb => ?_, fun l _ hl => ?_, hf.fresh, fun t ht hR hfr => ?_⟩
  · by_cases hbb : s.nx ≤ b ∧ b < e.nx1
    · exact hf.fresh b hbb.1 hbb.2
    · rw [← e.outside hf hbb]; exact hb
  · simp only [look]; rw [e.outside hf hl]
  · have hfr : ∀ b, s.nx ≤ b → b < e.nx1 → t.h.get b = none := hfr
    have hpre : ∀ p ∈ e.pre, t.h.get p.1 = some p.2 := fun p hp => blkLocs_spec (hf.pre p hp) fun l hl => hR l (List.mem_flatMap.2 ⟨p, hp, hl⟩)
    have hft : e.Fits args.toList t := ⟨hf.args, hpre, by rw [ht]; exact hf.nx, hf.small, fun b h1 h2 => hfr b (by rw [← ht]; exact h1) h2, fun p hp => by rw [ht]; exact hf.new p hp⟩
    have hfb : e.fits args.toList t = true := by
      have hs := hf0
      unfold Entry.fits at hs ⊢
      simp only [Bool.and_eq_true, List.all_eq_true] at hs ⊢
      obtain ⟨⟨⟨⟨h1, h2⟩, h3⟩, h5⟩, h6⟩ := hs
      refine ⟨⟨⟨⟨h1, fun p hp => ?_⟩, by rw [ht]; exact h3⟩, fun b hb => ?_⟩, by rw [ht]; exact h6⟩
      · have := h2 p hp
        rw [hf.pre p hp] at this
        rw [hpre p hp]; exact this
      · rw [List.mem_range'_1] at hb
        rw [hft.fresh b (by omega) (by omega)]; rfl
    refine ⟨⟨e.heap t.h, e.nx1, e.locs ++ t.rd, t.wr⟩, ?_, rfl, rfl, rfl, fun l => ?_⟩
    · unfold Entry.run; rw [hfb]; rfl
    · by_cases hl : s.nx ≤ l.1 ∧ l.1 < e.nx1
      · rw [if_pos (.inr hl)]
        simp only [look]
        rw [e.heap_at hf, e.heap_at hft, hf.fresh _ hl.1 hl.2, hft.fresh _ (by rw [ht]; exact hl.1) hl.2]
      · rw [if_neg (not_nil_or hl)]
        simp only [look]
        rw [e.outside hft (by rw [ht]; exact hl)]
abbrev Memo := FuncId → Nat → Option Entry
def memoOr (mm : Memo) (f : FuncId) (args : Array Value) (m : M Value) : M Value := fun s =>
  match mm f s.nx with
  | some e => e.run args s
  | none => m s
theorem memoOr_local {mm : Memo} {f : FuncId} {args : Array Value} {m : M Value} (hm : Local m) : Local (memoOr mm f args m) := by
  intro s r s' h
  unfold memoOr at h
  cases he : mm f s.nx with
  | none =>
    rw [he] at h
    obtain ⟨R, W, d⟩ := hm s r s' h
    refine ⟨R, W, d.rd, d.wr, d.nx, d.mono, d.frame, d.fresh, fun t ht hR hf => ?_⟩
    obtain ⟨t', h1, h2⟩ := d.again t ht hR hf
    exact ⟨t', by unfold memoOr; rw [ht, he]; exact h1, h2⟩
  | some e =>
    rw [he] at h
    obtain ⟨R, W, d⟩ := e.run_local args s r s' h
    refine ⟨R, W, d.rd, d.wr, d.nx, d.mono, d.frame, d.fresh, fun t ht hR hf => ?_⟩
    obtain ⟨t', h1, h2⟩ := d.again t ht hR hf
    exact ⟨t', by unfold memoOr; rw [ht, he]; exact h1, h2⟩
/-! ### The evaluator with a memory -/
def mevalN (E : Env) (G : List Nat) (mm : Memo) : Nat → Recs
  | 0 => ⟨fun _ _ => M.fail, fun _ _ _ => M.fail, fun _ _ _ _ => M.fail⟩
  | n + 1 => ⟨fun f args => memoOr mm f args (callStep E G (mevalN E G mm n) f args), codeStep E G (mevalN E G mm n), scpStep (mevalN E G mm n)⟩
theorem mevalN_local {E : Env} {G : List Nat} {mm : Memo} (n : Nat) : RLocal (mevalN E G mm n) := by
  induction n with
  | zero => exact ⟨fun _ _ => Local.fail, fun _ _ _ => Local.fail, fun _ _ _ _ => Local.fail⟩
  | succ n ih => exact ⟨fun f args => memoOr_local (callStep_local ih f args), fun inR c a => codeStep_local ih inR c a, fun inR b c a => scpStep_local ih inR b c a⟩
def Entry.Sound (E : Env) (G : List Nat) (f : FuncId) (k : Nat) (e : Entry) : Prop :=
  ∀ (N : Nat) (w0 : World) (μ : Mp) (args args' : Array Value) (w : World) (s : St), SR μ N w0 s.h w → s.nx = k → e.fits args.toList s = true → GlobOk G μ → VRs μ args.toList args'.toList →
    CallsIn Fence.wide 0 E.P f args' w (VPost N w0 μ e.v (e.heap s.h))
def MemoOk (E : Env) (G : List Nat) (mm : Memo) : Prop := ∀ f k e, mm f k = some e → e.Sound E G f k
theorem mevalN_sound {E : Env} {G : List Nat} {mm : Memo} (hE : EnvOk E) (hm : MemoOk E G mm) {N : Nat} {w0 : World} : ∀ n, RSound E G N w0 n (mevalN E G mm n) := by
  intro n
  induction n with
  | zero =>
    exact ⟨fun _ _ _ _ _ h => (by cases h), fun _ _ _ _ _ _ _ h => (by cases h), fun _ _ _ _ _ _ _ h => (by cases h), fun _ _ _ _ _ _ _ _ h => (by cases h)⟩
  | succ n ih =>
    refine ⟨fun f args s v s' h μ args' w hs hG ha => ?_, fun inR c a s e a' s' h μ b w F hF hs hG ha => ?_, fun inR c a s e a' s' h μ b w F hF hs hG ha => loop_sound ih h hF hs hG ha, fun inR sb c a s e a' s' h μ b w F hF hs hG ha => scp_sound ih h hF hs hG ha⟩
    · have h : memoOr mm f args (callStep E G (mevalN E G mm n) f args) s = some (v, s') := h
      unfold memoOr at h
      cases he : mm f s.nx with
      | none => rw [he] at h; exact call_sound hE ih h hs hG ha
      | some e =>
        rw [he] at h
        obtain ⟨hf, rfl, rfl⟩ := Entry.run_some h
        exact hm f s.nx e he N w0 μ args args' w s hs rfl hf hG ha
    · exact code_sound hE ih (mevalN_local n) h hF hs hG ha fun x hx => by subst hx; exact loop_sound ih h hF hs hG ha
noncomputable def gmevalN (E : Env) (G : List Nat) (mm : Memo) : Nat → FRecs
  | 0 => ⟨fun _ _ => M.fail, fun _ _ _ => M.fail, fun _ _ _ _ => M.fail⟩
  | n + 1 => ⟨fun f args => memoOr mm f args (fcallStep E G (gmevalN E G mm n) f args), fun inR c a => (codeC E G c).f (gmevalN E G mm n) inR a, fscpStep (gmevalN E G mm n)⟩
theorem memoOr_ok {mm : Memo} {f : FuncId} {args : Array Value} {m m' : M Value} (h : RelM Eq m m') : RelM Eq (memoOr mm f args m) (memoOr mm f args m') := by
  intro s x s' hx
  unfold memoOr at hx ⊢
  cases he : mm f s.nx with
  | none => rw [he] at hx; exact h _ _ _ hx
  | some e => rw [he] at hx; exact ⟨x, hx, rfl⟩
theorem gmevalN_ok (E : Env) (G : List Nat) (mm : Memo) (n : Nat) : FOk (gmevalN E G mm n) (mevalN E G mm n) := by
  induction n with
  | zero => exact ⟨fun _ _ => RelM.fail, fun _ _ _ _ _ => RelM.fail, fun _ _ _ _ _ _ => RelM.fail⟩
  | succ n ih =>
    refine ⟨fun f args => memoOr_ok (fcallStep_ok ih f args), fun inR c a b hr => ?_, fun inR sb c a b hr => fscpStep_ok ih inR sb c hr⟩
    show RelM XR ((codeC E G c).f (gmevalN E G mm n) inR a) _
    rw [codeC_eq]
    exact fcodeStep_ok ih (mevalN_local n) inR c hr
/-! ### How an entry is proved -/
def isDead : Blk → Bool
  | .obj (.deferred (some [d])) => (match d.target with
    | .collected 0 => true
    | _ => false) && d.args.toList.isEmpty
  | _ => false
theorem isDead_sound {x : Blk} (h : isDead x = true) : x = .obj dead := by
  unfold isDead at h
  split at h
  · rename_i d
    rw [Bool.and_eq_true] at h
    obtain ⟨h1, h2⟩ := h
    obtain ⟨tg, ar⟩ := d
    dsimp only at h1 h2
    have ha : ar = #[] := Array.toList_inj.1 (List.isEmpty_iff.1 h2)
    subst ha
    split at h1
    · rfl
    · cases h1
  · cases h
def isObj : Blk → Bool
  | .obj _ => true
  | _ => false
def eqNew : Option Blk → Option Blk → Bool
  | none, none => true
  | some x, some y => eqBlk x y || (isObj x && isDead y)
  | _, _ => false
/-- h1 is h2, but for objects that are dead in h1. -/
def Dim (h1 h2 : Tr Blk) : Prop := ∀ b, h1.get b = h2.get b ∨ ∃ o, h2.get b = some (.obj o) ∧ h1.get b = some (.obj dead)
theorem SR.dim {μ : Mp} {N : Nat} {w0 w : World} {g h : Tr Blk} (hd : Dim g h) (hs : SR μ N w0 h w) : SR μ N w0 g w := by
  have back : ∀ b x, g.get b = some x → ∃ y, h.get b = some y ∧ (x = y ∨ ∃ o, y = .obj o ∧ x = .obj dead) := by
    intro b x hx
    rcases hd b with h1 | ⟨o, h1, h2⟩
    · exact ⟨x, by rw [← h1]; exact hx, .inl rfl⟩
    · rw [h2] at hx
      cases hx
      exact ⟨_, h1, .inr ⟨o, rfl, rfl⟩⟩
  have huse : ∀ (e : Ent) (x y : Blk) (i : Nat), (x = y ∨ ∃ o, y = .obj o ∧ x = .obj dead) → uses e x i → uses e y i := by
    rintro e x y i (rfl | ⟨o, rfl, rfl⟩) hu
    · exact hu
    · trivial
  have hro : ∀ (x y : Blk), (x = y ∨ ∃ o, y = .obj o ∧ x = .obj dead) → isRo y → isRo x := by
    rintro x y (rfl | ⟨o, rfl, rfl⟩) hu
    · exact hu
    · exact hu.elim
  refine ⟨fun b x hx => ?_, fun b e he => ?_, fun b1 b2 x1 x2 e1 e2 h1 h2 k1 k2 hne heq => ?_, hs.below, hs.base⟩
  · obtain ⟨y, hy, hxy⟩ := back b x hx
    obtain ⟨e, he, hB⟩ := hs.blk b y hy
    refine ⟨e, he, ?_⟩
    rcases hxy with rfl | ⟨o, rfl, rfl⟩
    · exact hB
    · obtain ⟨hb1, o', ho', hor⟩ := hB
      exact ⟨hb1, o', ho', .dead o' hor.notCells⟩
  · obtain ⟨y, hy⟩ := hs.dom b e he
    rcases hd b with h1 | ⟨o, h1, h2⟩
    · exact ⟨y, by rw [h1]; exact hy⟩
    · exact ⟨_, h2⟩
  · obtain ⟨y1, hy1, q1⟩ := back b1 x1 h1
    obtain ⟨y2, hy2, q2⟩ := back b2 x2 h2
    rcases hs.sep b1 b2 y1 y2 e1 e2 hy1 hy2 k1 k2 hne heq with h3 | h3
    · exact .inl ⟨hro _ _ q1 h3.1, hro _ _ q2 h3.2⟩
    · exact .inr fun i hi => h3 i ⟨huse _ _ _ i q1 hi.1, huse _ _ _ i q2 hi.2⟩
def Entry.start (e : Entry) (k : Nat) : St := ⟨ofList e.pre, k, [], []⟩
/-- What the kernel is asked of an entry. -/
def Entry.chk (e : Entry) (k : Nat) (m : Option (Value × St)) : Bool :=
  match m with
  | some (v, s1) => eqV v e.v && Nat.beq s1.nx e.nx1 && s1.wr.isEmpty && (s1.rd.all fun l => ((ofList e.pre).get l.1).isSome) &&
      ((List.range' k (e.nx1 - k)).all fun b => eqNew (s1.h.get b) (newAt e.new b)) && (e.pre.all fun p => Nat.blt p.1 10000000)
  | none => false
theorem entry_sound {E : Env} {G : List Nat} {f k : Nat} {e : Entry} {r : Recs} {n : Nat} (hr : ∀ N w0, RSound E G N w0 n r) (hl : RLocal r) (h : e.chk k (r.call f e.args.toArray (e.start k)) = true) : e.Sound E G f k := by
  cases hc : r.call f e.args.toArray (e.start k) with
  | none => rw [hc] at h; cases h
  | some q =>
    obtain ⟨v, s1⟩ := q
    rw [hc] at h
    unfold Entry.chk at h
    simp only [Bool.and_eq_true, List.all_eq_true] at h
    obtain ⟨⟨⟨⟨⟨h1, h2⟩, h3⟩, h4⟩, h5⟩, h6⟩ := h
    have h1 := eqV_sound h1
    subst h1
    have h2 := Nat.eq_of_beq_eq_true h2
    have h3 : s1.wr = [] := List.isEmpty_iff.1 h3
    intro N w0 μ args args' w s hs hk hf0 hG ha
    have hf := e.fits_iff _ _ hf0
    subst hk
    obtain ⟨R, W, d⟩ := hl.call f _ _ _ _ hc
    have hR : s1.rd = R := by have := d.rd; simpa [Entry.start] using this
    have hW : W = [] := by have := d.wr; rw [h3] at this; simpa [Entry.start] using this.symm
    subst hW
    have hpreGet : ∀ b x, (ofList e.pre).get b = some x → s.h.get b = some x := fun b x hx => hf.pre (b, x) (ofList_get e.pre b x (fun p hp => Nat.lt_of_lt_of_le (Nat.le_of_ble_eq_true (h6 p hp)) (Nat.le_refl _)) hx)
    obtain ⟨t', e1, e2, _, _, e5⟩ := d.again s rfl (fun l hlR => by
      have h7 := h4 l (by rw [hR]; exact hlR)
      obtain ⟨x, hx⟩ := Option.isSome_iff_exists.1 h7
      show look s.h l = look (ofList e.pre) l
      simp only [look, hx, hpreGet _ _ hx]) (fun b hb hb' => hf.fresh b hb (by rw [← h2]; exact hb'))
    have hargs : e.args.toArray = args := by rw [hf.args]
    rw [hargs] at e1
    refine ((hr N w0).call f args s e.v t' e1 μ args' w hs hG ha).mono ?_
    rintro en w2 ⟨v', ν, rfl, hx, hs2, hv⟩
    refine ⟨v', ν, rfl, hx, SR.dim ?_ hs2, hv⟩
    have hget : ∀ b, t'.h.get b = if s.nx ≤ b ∧ b < s1.nx then s1.h.get b else s.h.get b := by
      intro b
      refine blk_ext fun i => ?_
      have := e5 (b, i)
      simp only [look, show (e.start s.nx).nx = s.nx from rfl] at this
      by_cases hb : s.nx ≤ b ∧ b < s1.nx
      · rw [if_pos (.inr hb)] at this; rw [if_pos hb]; exact this
      · rw [if_neg (not_nil_or hb)] at this; rw [if_neg hb]; exact this
    intro b
    rw [hget b]
    by_cases hb : s.nx ≤ b ∧ b < e.nx1
    · rw [if_pos (by rw [h2]; exact hb), e.heap_at hf, hf.fresh b hb.1 hb.2]
      have h7 := h5 b (by rw [List.mem_range'_1]; omega)
      cases hn : newAt e.new b with
      | none =>
        rw [hn] at h7
        cases hg : s1.h.get b with
        | none => exact .inl rfl
        | some x => rw [hg] at h7; cases h7
      | some y =>
        rw [hn] at h7
        cases hg : s1.h.get b with
        | none => rw [hg] at h7; cases h7
        | some x =>
          rw [hg] at h7
          simp only [eqNew, Bool.or_eq_true, Bool.and_eq_true] at h7
          rcases h7 with h7 | ⟨h7, h8⟩
          · rw [eqBlk_sound h7]; exact .inl rfl
          · cases x with
            | cells c t k sp => cases h7
            | obj o => rw [isDead_sound h8]; exact .inr ⟨o, rfl, rfl⟩
    · rw [if_neg (by rw [h2]; exact hb), e.outside hf hb]
      exact .inl rfl
/-- An entry, as the kernel proves it. -/
theorem entry_of {E : Env} {G : List Nat} {mm : Memo} (hE : EnvOk E) (hm : MemoOk E G mm) {f k n : Nat} {e : Entry} (h : e.chk k ((gmevalN E G mm n).call f e.args.toArray (e.start k)) = true) : e.Sound E G f k := by
  cases hc : (gmevalN E G mm n).call f e.args.toArray (e.start k) with
  | none => rw [hc] at h; cases h
  | some q =>
    obtain ⟨v, s1⟩ := q
    obtain ⟨y, h1, h2⟩ := (gmevalN_ok E G mm n).call f _ _ _ _ hc
    subst h2
    exact entry_sound (fun N w0 => mevalN_sound hE hm n) (mevalN_local n) (by rw [h1, ← hc]; exact h)
theorem memoOk_nil (E : Env) (G : List Nat) : MemoOk E G fun _ _ => none := fun f k e h => by cases h
/-- **A closed call**, with entries. -/
theorem mclosed_call {E : Env} {mm : Memo} {G : List Nat} (hE : EnvOk E) (hm : MemoOk E G mm) {gs : List Table} (hok : tabOk gs = true) (hGs : gs.map (·.g) = G) {n : Nat} {f : FuncId} {args : Array Value} {v : Value}
    (h : (match (gmevalN E G mm n).call f args (startSt gs) with | some (u, _) => eqV u v | none => false) = true) (hp : plain v = true) (ha : args.toList.all plain = true) {W : World} (hW : TabsMet gs W) :
    CallsIn Fence.wide 0 E.P f args W fun e w' => e = .returned v ∧ Below W.heap.size W w' := by
  cases hc : (gmevalN E G mm n).call f args (startSt gs) with
  | none => rw [hc] at h; cases h
  | some q =>
    obtain ⟨u, s1⟩ := q
    rw [hc] at h
    have h : eqV u v = true := h
    have h := eqV_sound h
    subst h
    obtain ⟨y, h1, h2⟩ := (gmevalN_ok E G mm n).call f _ _ _ _ hc
    subst h2
    subst hGs
    refine ((mevalN_sound (N := W.heap.size) (w0 := W) hE hm n).call f args _ u s1 h1 _ args W (start_rel hok hW) tabs_glob (VRs.refl_of fun x hx => plain_refl _ (List.all_eq_true.1 ha x hx))).mono ?_
    rintro e w' ⟨v', ν, rfl, _, hs, hv⟩
    exact ⟨by rw [plain_eq hp hv], hs.below⟩
def memoOf (l : List (Nat × Nat × Entry)) : Memo := fun f k => (l.find? fun x => Nat.beq x.1 f && Nat.beq x.2.1 k).map (·.2.2)
inductive AllSound (E : Env) (G : List Nat) : List (Nat × Nat × Entry) → Prop
  | nil : AllSound E G []
  | cons {f k : Nat} {e : Entry} {l : List (Nat × Nat × Entry)} : e.Sound E G f k → AllSound E G l → AllSound E G ((f, k, e) :: l)
theorem memoOf_ok {E : Env} {G : List Nat} {l : List (Nat × Nat × Entry)} (h : AllSound E G l) : MemoOk E G (memoOf l) := by
  intro f k e he
  unfold memoOf at he
  obtain ⟨p, hp, rfl⟩ := Option.map_eq_some_iff.1 he
  have h1 := List.mem_of_find?_eq_some hp
  have h2 := List.find?_some hp
  simp only [Bool.and_eq_true] at h2
  have h3 := Nat.eq_of_beq_eq_true h2.1
  have h4 := Nat.eq_of_beq_eq_true h2.2
  subst h3 h4
  clear hp he h2
  induction h with
  | nil => cases h1
  | cons hs _ ih =>
    rcases List.mem_cons.1 h1 with rfl | h1
    · exact hs
    · exact ih h1
end Go.Proofs.YtndjhcmgngnfbaaGreatDoor.AM
