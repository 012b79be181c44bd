/- Operations whose order is open: those that do not touch each other may be exchanged. No condition. -/
import Derived.Test.YtndjhcmgngnfbaaGreatDoorAmA
import Derived.OrdersIn
set_option linter.unusedSimpArgs false
set_option linter.unusedVariables false
set_option linter.all false
namespace Go.Proofs.YtndjhcmgngnfbaaGreatDoor.AM
open Go
/-- What one operation of a region did: its number, the names that it made, what it read and wrote, its value. -/
structure Rc where
  i : Nat
  n0 : Nat
  n1 : Nat
  R : List Loc
  W : List Loc
  v : Value
section
variable (vop : Nat → Act → M Value) (uses : Nat → List Tmp) (dst : Nat → Option Tmp)
def SameUse (i : Nat) (a b : Act) : Prop := a.tmps.size = b.tmps.size ∧ ∀ t ∈ uses i, a.tmps.getD t undef = b.tmps.getD t undef
def Eff (r : Rc) (a : Act) (h h' : Tr Blk) : Prop :=
  ∃ s', vop r.i a ⟨h, r.n0, [], []⟩ = some (r.v, s') ∧ s'.h = h' ∧ s'.nx = r.n1 ∧ Did (vop r.i a) ⟨h, r.n0, [], []⟩ r.v s' r.R r.W
inductive Ran : List Rc → Act → Tr Blk → Act → Tr Blk → Prop
  | nil (a : Act) (h : Tr Blk) : Ran [] a h a h
  | cons (r : Rc) (L : List Rc) (a a' : Act) (h h1 h' : Tr Blk) : Eff vop r a h h1 → Ran L (a.put (dst r.i) r.v) h1 a' h' → Ran (r :: L) a h a' h'
structure Ind (x y : Rc) : Prop where
  xw : ∀ l ∈ x.W, l ∉ y.R ∧ l ∉ y.W
  yw : ∀ l ∈ y.W, l ∉ x.R
  xn : ∀ l, l ∈ x.R ∨ l ∈ x.W → ¬ (y.n0 ≤ l.1 ∧ l.1 < y.n1)
  yn : ∀ l, l ∈ y.R ∨ l ∈ y.W → ¬ (x.n0 ≤ l.1 ∧ l.1 < x.n1)
  nn : x.n1 ≤ y.n0
  xt : ∀ d, dst x.i = some d → d ∉ uses y.i ∧ dst y.i ≠ some d
  yt : ∀ d, dst y.i = some d → d ∉ uses x.i
variable {vop uses dst}
theorem put_size (a : Act) (d : Option Tmp) (v : Value) : (a.put d v).tmps.size = a.tmps.size := by
  cases d <;> simp [Act.put]
theorem put_getD (a : Act) (d : Tmp) (v : Value) (t : Tmp) (h : t ≠ d) : (a.put (some d) v).tmps.getD t undef = a.tmps.getD t undef := by
  simp only [Act.put, Array.getD_eq_getD_getElem?]
  rw [Array.getElem?_setIfInBounds_ne (Ne.symm h)]
theorem sameUse_put {i : Nat} {a : Act} {d : Option Tmp} {v : Value} (h : ∀ t, d = some t → t ∉ uses i) : SameUse uses i a (a.put d v) := by
  refine ⟨(put_size a d v).symm, fun t ht => ?_⟩
  cases d with
  | none => rfl
  | some d => exact (put_getD a d v t (fun e => h d rfl (e ▸ ht))).symm
theorem SameUse.symm {i : Nat} {a b : Act} (h : SameUse uses i a b) : SameUse uses i b a := ⟨h.1.symm, fun t ht => (h.2 t ht).symm⟩
theorem put_comm (a : Act) {d e : Option Tmp} (v u : Value) (h : ∀ t, d = some t → e ≠ some t) : (a.put d v).put e u = (a.put e u).put d v := by
  cases d with
  | none => cases e <;> rfl
  | some d =>
    cases e with
    | none => rfl
    | some e =>
      have hne : d ≠ e := fun hh => h d rfl (by rw [hh])
      simp only [Act.put]
      congr 1
      apply Array.ext'
      simp only [Array.toList_setIfInBounds]
      exact List.set_comm _ _ hne
theorem Eff.move (hloc : ∀ i a, Local (vop i a)) (huse : ∀ i a b, SameUse uses i a b → vop i a = vop i b) {r : Rc} {a b : Act} {h h' g : Tr Blk} (he : Eff vop r a h h') (hab : SameUse uses r.i a b) (hR : ∀ l ∈ r.R, look g l = look h l)
    (hf : ∀ k, r.n0 ≤ k → k < r.n1 → g.get k = none) : ∃ g', Eff vop r b g g' ∧ ∀ l, look g' l = if l ∈ r.W ∨ (r.n0 ≤ l.1 ∧ l.1 < r.n1) then look h' l else look g l := by
  obtain ⟨s', h1, h2, h3, hd⟩ := he
  have hv := huse _ _ _ hab
  rw [hv] at h1 hd
  obtain ⟨t', t1, t2, t3, t4, t5⟩ := hd.again ⟨g, r.n0, [], []⟩ rfl hR (by rw [h3]; exact hf)
  obtain ⟨R2, W2, hd2⟩ := hloc _ _ _ _ _ t1
  have hr := hd2.rd
  have hw := hd2.wr
  simp only [List.append_nil] at hr hw t3 t4
  rw [t3] at hr
  rw [t4] at hw
  subst hr
  subst hw
  refine ⟨t'.h, ⟨t', t1, rfl, t2.trans h3, hd2⟩, fun l => ?_⟩
  rw [t5 l, h3, h2]
theorem Eff.frame {r : Rc} {a : Act} {h h' : Tr Blk} (he : Eff vop r a h h') : (∀ l, l ∉ r.W → ¬ (r.n0 ≤ l.1 ∧ l.1 < r.n1) → look h' l = look h l) ∧ (∀ b, h'.get b = none → h.get b = none) ∧ (∀ b, r.n0 ≤ b → b < r.n1 → h.get b = none) ∧ r.n0 ≤ r.n1 := by
  obtain ⟨s', h1, h2, h3, hd⟩ := he
  subst h2
  have := hd.nx
  refine ⟨fun l hl hn => hd.frame l hl (by rw [h3]; exact hn), hd.mono, fun b hb hb' => hd.fresh b hb (by rw [h3]; exact hb'), by rw [← h3]; exact this⟩
theorem Ran.congr (hloc : ∀ i a, Local (vop i a)) (huse : ∀ i a b, SameUse uses i a b → vop i a = vop i b) {L : List Rc} {a a' : Act} {h h' : Tr Blk} (hr : Ran vop dst L a h a' h') : ∀ g, (∀ l, look g l = look h l) →
    ∃ g', Ran vop dst L a g a' g' ∧ ∀ l, look g' l = look h' l := by
  induction hr with
  | nil a h => intro g hg; exact ⟨g, .nil a g, hg⟩
  | cons r L a a' h h1 h' he _ ih =>
    intro g hg
    obtain ⟨g1, e1, e2⟩ := he.move (uses := uses) hloc huse (b := a) ⟨rfl, fun _ _ => rfl⟩ (fun l _ => hg l) (fun k hk hk' => by
      have := he.frame.2.2.1 k hk hk'
      rw [look_ext hg]; exact this)
    obtain ⟨g', e3, e4⟩ := ih g1 (fun l => by
      rw [e2 l]
      split
      · rfl
      · rename_i hn
        rw [hg l, he.frame.1 l (fun hh => hn (.inl hh)) (fun hh => hn (.inr hh))])
    exact ⟨g', .cons r L a a' g g1 g' e1 e3, e4⟩
theorem swap (hloc : ∀ i a, Local (vop i a)) (huse : ∀ i a b, SameUse uses i a b → vop i a = vop i b) {x y : Rc} (hi : Ind uses dst x y) {a : Act} {h h1 h2 : Tr Blk} (hx : Eff vop x a h h1) (hy : Eff vop y (a.put (dst x.i) x.v) h1 h2) :
    ∃ g1 g2, Eff vop y a h g1 ∧ Eff vop x (a.put (dst y.i) y.v) g1 g2 ∧ ∀ l, look g2 l = look h2 l := by
  obtain ⟨fx, mx, nx, lx⟩ := hx.frame
  obtain ⟨fy, my, ny, ly⟩ := hy.frame
  have nn := hi.nn
  obtain ⟨g1, e1, e2⟩ := hy.move (uses := uses) hloc huse (b := a) (sameUse_put fun t ht => (hi.xt t ht).1).symm (g := h)
    (fun l hl => (fx l (fun hw => (hi.xw l hw).1 hl) (hi.yn l (.inl hl))).symm) (fun k hk hk' => mx k (ny k hk hk'))
  obtain ⟨g2, e3, e4⟩ := hx.move (uses := uses) hloc huse (b := a.put (dst y.i) y.v) (sameUse_put fun t ht => hi.yt t ht) (g := g1)
    (fun l hl => by
      rw [e2 l, if_neg]
      rintro (hh | hh)
      · exact hi.yw l hh hl
      · exact hi.xn l (.inl hl) hh)
    (fun k hk hk' => by
      refine get_none fun j => ?_
      rw [e2 (k, j), if_neg]
      · exact look_none (nx k hk hk')
      · rintro (hh | hh)
        · exact hi.yn _ (.inr hh) ⟨hk, hk'⟩
        · dsimp only at hh; omega)
  refine ⟨g1, g2, e1, e3, fun l => ?_⟩
  rw [e4 l]
  by_cases hc : l ∈ x.W ∨ (x.n0 ≤ l.1 ∧ l.1 < x.n1)
  · rw [if_pos hc]
    refine (fy l ?_ ?_).symm
    · intro hw
      rcases hc with hc | hc
      · exact (hi.xw l hc).2 hw
      · exact hi.yn l (.inr hw) hc
    · rcases hc with hc | hc
      · exact hi.xn l (.inr hc)
      · omega
  · rw [if_neg hc, e2 l]
    by_cases hd : l ∈ y.W ∨ (y.n0 ≤ l.1 ∧ l.1 < y.n1)
    · rw [if_pos hd]
    · rw [if_neg hd, fy l (fun hh => hd (.inl hh)) (fun hh => hd (.inr hh)), fx l (fun hh => hc (.inl hh)) (fun hh => hc (.inr hh))]
/-- An operation that is independent of all before it may be first. -/
theorem Ran.first (hloc : ∀ i a, Local (vop i a)) (huse : ∀ i a b, SameUse uses i a b → vop i a = vop i b) {x : Rc} : ∀ {L1 L2 : List Rc} {a a' : Act} {h h' : Tr Blk}, Ran vop dst (L1 ++ x :: L2) a h a' h' → (∀ y ∈ L1, Ind uses dst y x) →
    ∃ g', Ran vop dst (x :: (L1 ++ L2)) a h a' g' ∧ ∀ l, look g' l = look h' l
  | [], L2, a, a', h, h', hr, _ => ⟨h', hr, fun _ => rfl⟩
  | y :: L1, L2, a, a', h, h', hr, hi => by
    cases hr with
    | cons _ _ _ _ _ h1 _ he hr =>
      obtain ⟨g', r1, r2⟩ := Ran.first hloc huse hr fun z hz => hi z (by simp [hz])
      cases r1 with
      | cons _ _ _ _ _ h2 _ he2 hr2 =>
        obtain ⟨g1, g2, e1, e2, e3⟩ := swap hloc huse (hi y (by simp)) he he2
        have hc := put_comm a (d := dst y.i) (e := dst x.i) y.v x.v fun t ht => ((hi y (by simp)).xt t ht).2
        rw [hc] at hr2
        obtain ⟨g3, r3, r4⟩ := hr2.congr hloc huse g2 e3
        exact ⟨g3, .cons x _ a a' h g1 g3 e1 (.cons y _ _ a' g1 g2 g3 e2 r3), fun l => (r4 l).trans (r2 l)⟩
end
/-! ### What must come before what -/
def maskOf (acc : List Nat) (o : Oper) : Nat :=
  o.after.toList.foldl (fun s e => if Region.binds .any e then s ||| 2 ^ e.on ||| acc.getD e.on 0 else s) 0
def masksFrom : List Nat → List Oper → List Nat
  | acc, [] => acc
  | acc, o :: os => masksFrom (acc ++ [maskOf acc o]) os
def masks (ops : Array Oper) : List Nat := masksFrom [] ops.toList
theorem masksFrom_get : ∀ (os : List Oper) (acc : List Nat) (i : Nat), i < acc.length → (masksFrom acc os).getD i 0 = acc.getD i 0
  | [], _, _, _ => rfl
  | o :: os, acc, i, h => by
    rw [masksFrom, masksFrom_get os _ i (by simp; omega)]
    simp [List.getD, List.getElem?_append_left h]
theorem masksFrom_at : ∀ (os : List Oper) (acc : List Nat) (k : Nat) (o : Oper), os[k]? = some o → ∃ acc', acc'.length = acc.length + k ∧ (masksFrom acc os).getD (acc.length + k) 0 = maskOf acc' o ∧ ∀ j, j < acc'.length → acc'.getD j 0 = (masksFrom acc os).getD j 0
  | [], _, k, o, h => by simp at h
  | o' :: os, acc, 0, o, h => by
    simp at h
    subst h
    refine ⟨acc, by simp, ?_, fun j hj => ?_⟩
    · rw [masksFrom, masksFrom_get os _ _ (by simp)]
      simp [List.getD]
    · rw [masksFrom, masksFrom_get os _ _ (by simp; omega)]
      simp [List.getD, List.getElem?_append_left hj]
  | o' :: os, acc, k + 1, o, h => by
    obtain ⟨acc', h1, h2, h3⟩ := masksFrom_at os (acc ++ [maskOf acc o']) k o (by simpa using h)
    refine ⟨acc', by simp at h1; omega, ?_, fun j hj => ?_⟩
    · simp at h2
      rw [masksFrom]
      rw [show acc.length + (k + 1) = acc.length + 1 + k from by omega]
      exact h2
    · exact h3 j hj
theorem mask_bit (acc : List Nat) (y : Nat) : ∀ (es : List Edge) (s : Nat), Nat.testBit (es.foldl (fun s e => if Region.binds .any e then s ||| 2 ^ e.on ||| acc.getD e.on 0 else s) s) y = true →
    Nat.testBit s y = true ∨ ∃ e ∈ es, Region.binds .any e = true ∧ (e.on = y ∨ Nat.testBit (acc.getD e.on 0) y = true)
  | [], s, h => .inl h
  | e :: es, s, h => by
    simp only [List.foldl_cons] at h
    rcases mask_bit acc y es _ h with h1 | ⟨e', h1, h2, h3⟩
    · by_cases hb : Region.binds .any e = true
      · rw [if_pos hb] at h1
        simp only [Nat.testBit_or, Bool.or_eq_true] at h1
        rcases h1 with (h1 | h1) | h1
        · exact .inl h1
        · refine .inr ⟨e, by simp, hb, .inl ?_⟩
          rw [Nat.testBit_two_pow] at h1
          simpa using h1
        · exact .inr ⟨e, by simp, hb, .inr h1⟩
      · rw [if_neg hb] at h1; exact .inl h1
    · exact .inr ⟨e', by simp [h1], h2, h3⟩
/-- What the mask of an operation names has been carried out, wherever what it waits for directly has been. -/
theorem masks_done {ops : Array Oper} {done : Nat → Prop} (hclosed : ∀ i o, done i → ops[i]? = some o → ∀ e ∈ o.after.toList, Region.binds .any e = true → done e.on) :
    ∀ (i : Nat) (o : Oper) (y : Nat), ops[i]? = some o → (∀ e ∈ o.after.toList, Region.binds .any e = true → done e.on) → Nat.testBit ((masks ops).getD i 0) y = true → done y := by
  intro i
  induction i using Nat.strongRecOn with
  | _ i ih =>
    intro o y ho hd hy
    obtain ⟨acc', h1, h2, h3⟩ := masksFrom_at ops.toList [] i o (by simpa using ho)
    simp only [List.length_nil, Nat.zero_add] at h1 h2
    unfold masks at hy
    rw [h2] at hy
    rcases mask_bit acc' y _ _ hy with h | ⟨e, he, hb, h⟩
    · simp at h
    · rcases h with rfl | h
      · exact hd e he hb
      · have hlt : e.on < acc'.length := by
          rcases Nat.lt_or_ge e.on acc'.length with h' | h'
          · exact h'
          · rw [List.getD, List.getElem?_eq_none h'] at h; simp at h
        have hon := hd e he hb
        rw [h3 _ hlt] at h
        have hi : e.on < ops.size := by
          have := (Array.getElem?_eq_some_iff.1 ho).1
          omega
        exact ih e.on (by omega) ops[e.on] y (by simp [hi]) (hclosed e.on _ hon (by simp [hi])) h
end Go.Proofs.YtndjhcmgngnfbaaGreatDoor.AM
