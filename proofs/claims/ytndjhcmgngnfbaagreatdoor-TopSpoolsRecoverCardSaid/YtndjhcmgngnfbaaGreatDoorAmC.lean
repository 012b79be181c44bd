/- How the abstract heap stands for the model's memory: the relation, and each primitive step under it. No condition. -/
import Derived.Test.YtndjhcmgngnfbaaGreatDoorAmA
import Derived.Below
import GoSem.Dispatch
set_option linter.unusedSimpArgs false
set_option linter.unusedVariables false
set_option linter.all false
section
namespace Go.Proofs.YtndjhcmgngnfbaaGreatDoor.AM
open Go Go.RowKit
/-- Where an abstract block lies: the block, the offset of its first cell, its length, the size of its elements (0: it is exact), and how many elements lie behind its end. -/
structure Ent where
  b : Nat
  o : Nat
  len : Nat
  s : Nat
  x : Nat
abbrev Mp := Nat → Option Ent
def Ext (μ ν : Mp) : Prop := ∀ b e, μ b = some e → ν b = some e
theorem Ext.refl (μ : Mp) : Ext μ μ := fun _ _ h => h
theorem Ext.trans {μ ν ξ : Mp} (h : Ext μ ν) (k : Ext ν ξ) : Ext μ ξ := fun b e he => k b e (h b e he)
def CapOk (e : Ent) (off c c' : Nat) : Prop := c' = c ∨ (c < c' ∧ e.s ≠ 0 ∧ off + c * e.s = e.len ∧ c' ≤ c + e.x)
mutual
inductive VR (μ : Mp) : Value → Value → Prop
  | bool (b : Bool) : VR μ (.bool b) (.bool b)
  | int (k : IntKind) (n : Int) : VR μ (.int k n) (.int k n)
  | float (k : FloatKind) (b : Nat) : VR μ (.float k b) (.float k b)
  | complex (k : FloatKind) (a b : Nat) : VR μ (.complex k a b) (.complex k a b)
  | string (s : ByteArray) : VR μ (.string s) (.string s)
  | ptrNil : VR μ (.pointer none) (.pointer none)
  | ptr (b off : Nat) (e : Ent) : μ b = some e → VR μ (.pointer (some ⟨b, off, none⟩)) (.pointer (some ⟨e.b, e.o + off, none⟩))
  | sliceNil (n c : Nat) : VR μ (.slice none n c) (.slice none n c)
  | slice (b off : Nat) (e : Ent) (n c c' : Nat) : μ b = some e → CapOk e off c c' → VR μ (.slice (some ⟨b, off, none⟩) n c) (.slice (some ⟨e.b, e.o + off, none⟩) n c')
  | sliceEnd (b o c : Nat) : VR μ (.slice (some ⟨0, 0, some 0⟩) 0 0) (.slice (some ⟨b, o, none⟩) 0 c)
  | mapNil : VR μ (.map none) (.map none)
  | map (r : Nat) (e : Ent) : μ r = some e → VR μ (.map (some r)) (.map (some e.b))
  | nilFunc : VR μ .nilFunc .nilFunc
  | func (fn : Fn) (f f' c c' : Array Value) : (∀ l, fn ≠ .yield l) → VRs μ f.toList f'.toList → VRs μ c.toList c'.toList → VR μ (.func fn f c) (.func fn f' c')
  | yield (l : Nat) (e : Ent) : μ l = some e → VR μ (.func (.yield l) #[] #[]) (.func (.yield e.b) #[] #[])
  | iface (t : TypeId) (v v' : Value) : VR μ v v' → VR μ (.iface t v) (.iface t v')
  | nilIface : VR μ .nilIface .nilIface
  | agg (c c' : Array Value) : VRs μ c.toList c'.toList → VR μ (.agg c) (.agg c')
  | tuple (c c' : Array Value) : VRs μ c.toList c'.toList → VR μ (.tuple c) (.tuple c')
inductive VRs (μ : Mp) : List Value → List Value → Prop
  | nil : VRs μ [] []
  | cons (v v' : Value) (l l' : List Value) : VR μ v v' → VRs μ l l' → VRs μ (v :: l) (v' :: l')
end
theorem VR.ext {μ ν : Mp} (hx : Ext μ ν) {v v' : Value} (h : VR μ v v') : VR ν v v' :=
  VR.rec (motive_1 := fun v v' _ => VR ν v v') (motive_2 := fun l l' _ => VRs ν l l')
    (fun b => .bool b) (fun k n => .int k n) (fun k b => .float k b) (fun k a b => .complex k a b) (fun s => .string s) .ptrNil
    (fun b off e h => .ptr b off e (hx _ _ h)) (fun n c => .sliceNil n c) (fun b off e n c c' h k => .slice b off e n c c' (hx _ _ h) k) (fun b o c => .sliceEnd b o c) .mapNil
    (fun r e h => .map r e (hx _ _ h)) .nilFunc (fun fn f f' c c' h _ _ h1 h2 => .func fn f f' c c' h h1 h2) (fun l e h => .yield l e (hx _ _ h))
    (fun t v v' _ h => .iface t v v' h) .nilIface (fun c c' _ h => .agg c c' h) (fun c c' _ h => .tuple c c' h) .nil (fun v v' l l' _ _ h k => .cons v v' l l' h k) h
theorem VRs.ext {μ ν : Mp} (hx : Ext μ ν) {l l' : List Value} (h : VRs μ l l') : VRs ν l l' := by
  induction l generalizing l' with
  | nil => cases h; exact .nil
  | cons v l ih => cases h with | cons _ v' _ l' h k => exact .cons _ _ _ _ (h.ext hx) (ih k)
theorem VRs.length {μ : Mp} {l l' : List Value} (h : VRs μ l l') : l.length = l'.length := by
  induction l generalizing l' with
  | nil => cases h; rfl
  | cons v l ih => cases h with | cons _ v' _ l' h k => simp [ih k]
theorem VRs.get {μ : Mp} {l l' : List Value} (h : VRs μ l l') (i : Nat) : (l[i]? = none ∧ l'[i]? = none) ∨ ∃ v v', l[i]? = some v ∧ l'[i]? = some v' ∧ VR μ v v' := by
  induction l generalizing l' i with
  | nil => cases h; simp
  | cons v l ih =>
    cases h with
    | cons _ v' _ l' h k =>
      cases i with
      | zero => exact .inr ⟨v, v', rfl, rfl, h⟩
      | succ i => simpa using ih k i
theorem VRs.of_get {μ : Mp} : ∀ {l l' : List Value}, l.length = l'.length → (∀ (i : Nat) (v v' : Value), l[i]? = some v → l'[i]? = some v' → VR μ v v') → VRs μ l l'
  | [], [], _, _ => .nil
  | v :: l, v' :: l', h, k => .cons _ _ _ _ (k 0 v v' rfl rfl) (VRs.of_get (by simpa using h) fun i v v' h1 h2 => k (i + 1) v v' (by simpa using h1) (by simpa using h2))
  | [], _ :: _, h, _ => by simp at h
  | _ :: _, [], h, _ => by simp at h
theorem VRs.append {μ : Mp} {a a' b b' : List Value} (h : VRs μ a a') (k : VRs μ b b') : VRs μ (a ++ b) (a' ++ b') := by
  induction a generalizing a' with
  | nil => cases h; exact k
  | cons v l ih => cases h with | cons _ v' _ l' h1 h2 => exact .cons _ _ _ _ h1 (ih h2)
theorem VRs.take {μ : Mp} {a a' : List Value} (h : VRs μ a a') (n : Nat) : VRs μ (a.take n) (a'.take n) := by
  induction a generalizing a' n with
  | nil => cases h; simpa using VRs.nil
  | cons v l ih =>
    cases h with
    | cons _ v' _ l' h1 h2 =>
      cases n with
      | zero => exact .nil
      | succ n => exact .cons _ _ _ _ h1 (ih h2 n)
theorem VRs.drop {μ : Mp} {a a' : List Value} (h : VRs μ a a') (n : Nat) : VRs μ (a.drop n) (a'.drop n) := by
  induction a generalizing a' n with
  | nil => cases h; simpa using VRs.nil
  | cons v l ih =>
    cases h with
    | cons _ v' _ l' h1 h2 =>
      cases n with
      | zero => exact .cons _ _ _ _ h1 h2
      | succ n => exact ih h2 n
theorem VRs.set {μ : Mp} {a a' : List Value} (h : VRs μ a a') {v v' : Value} (hv : VR μ v v') (n : Nat) : VRs μ (a.set n v) (a'.set n v') := by
  induction a generalizing a' n with
  | nil => cases h; simpa using VRs.nil
  | cons x l ih =>
    cases h with
    | cons _ x' _ l' h1 h2 =>
      cases n with
      | zero => exact .cons _ _ _ _ hv h2
      | succ n => exact .cons _ _ _ _ h1 (ih h2 n)
theorem VRs.replicate {μ : Mp} {v v' : Value} (hv : VR μ v v') (n : Nat) : VRs μ (List.replicate n v) (List.replicate n v') := by
  induction n with
  | zero => exact .nil
  | succ n ih => exact .cons _ _ _ _ hv ih
theorem VR.cells {μ : Mp} {v v' : Value} (h : VR μ v v') : VRs μ v.cells.toList v'.cells.toList := by
  have h0 := h
  cases h <;> first
    | assumption
    | exact .cons _ _ _ _ h0 .nil
theorem VR.oneCell {μ : Mp} {v v' : Value} (h : VR μ v v') : AM.oneCell v' = AM.oneCell v := by cases h <;> rfl
/-- Map entries. -/
inductive ERs (μ : Mp) : List MapEntry → List MapEntry → Prop
  | nil : ERs μ [] []
  | cons (e e' : MapEntry) (l l' : List MapEntry) : VR μ e.key e'.key → VR μ e.val e'.val → e.born = e'.born → ERs μ l l' → ERs μ (e :: l) (e' :: l')
theorem ERs.ext {μ ν : Mp} (hx : Ext μ ν) {l l' : List MapEntry} (h : ERs μ l l') : ERs ν l l' := by
  induction h with
  | nil => exact .nil
  | cons e e' l l' h1 h2 h3 _ ih => exact .cons e e' l l' (h1.ext hx) (h2.ext hx) h3 ih
inductive OR (μ : Mp) : Obj → Obj → Prop
  | map (es es' : Array MapEntry) (clock : Nat) : ERs μ es.toList es'.toList → OR μ (.map es clock) (.map es' clock)
  | stringIter (s : ByteArray) (pos : Nat) : OR μ (.stringIter s pos) (.stringIter s pos)
  | loop (l l' : Loop) (e : Ent) : l.state = l'.state → l.pending = l'.pending → VRs μ l.tmps.toList l'.tmps.toList → l.params = l'.params → l.assign = l'.assign → l.body = l'.body →
      μ l.defers = some e → l'.defers = e.b → OR μ (.loop l) (.loop l')
  | deferred : OR μ (.deferred (some [])) (.deferred (some []))
  | taken : OR μ (.deferred none) (.deferred none)
  | dead (o' : Obj) : (∀ c t f, o' ≠ .cells c t f) → OR μ (.deferred (some [⟨.collected 0, #[]⟩])) o'
theorem OR.ext {μ ν : Mp} (hx : Ext μ ν) {o o' : Obj} (h : OR μ o o') : OR ν o o' := by
  cases h with
  | map es es' c h => exact .map es es' c (h.ext hx)
  | stringIter s p => exact .stringIter s p
  | loop l l' e h1 h2 h3 h4 h5 h6 h7 h8 => exact .loop l l' e h1 h2 (h3.ext hx) h4 h5 h6 (hx _ _ h7) h8
  | deferred => exact .deferred
  | taken => exact .taken
  | dead o' h => exact .dead o' h
/-- How one block lies in the world. N: the first block that is the run's own. -/
def BR (μ : Mp) (N : Nat) (e : Ent) (x : Blk) (w : World) : Prop :=
  match x with
  | .cells c _ k sp => ∃ arr lo hi tq, w.heap[e.b]? = some (.cells arr tq (lo, hi)) ∧ e.len = c.length ∧ e.o + c.length + e.x * e.s ≤ arr.size ∧
      (k = 0 → e.b < N ∧ sp = false) ∧ (k ≠ 0 → N ≤ e.b ∧ ∀ i, i < arr.size → ¬ (lo ≤ i ∧ i < hi)) ∧ (k ≤ 1 → e.s = 0 ∧ e.o = 0 ∧ sp = false) ∧ (2 ≤ k → e.s + 2 = k ∧ e.s ≠ 0) ∧
      ∀ i v, c[i]? = some (some v) → ∃ v', arr[e.o + i]? = some v' ∧ VR μ v v'
  | .obj o => (N ≤ e.b ∧ e.o = 0) ∧ ∃ o', w.heap[e.b]? = some o' ∧ OR μ o o'
/-- Which cells of its concrete block a block lays claim to. -/
def uses (e : Ent) (x : Blk) (i : Nat) : Prop :=
  match x with
  | .cells c _ _ sp => (∃ j v, c[j]? = some (some v) ∧ i = e.o + j) ∨ (sp = true ∧ e.o + c.length ≤ i)
  | .obj _ => True
def isRo : Blk → Prop
  | .cells _ _ k _ => k = 0
  | .obj _ => False
structure SR (μ : Mp) (N : Nat) (w0 : World) (h : Tr Blk) (w : World) : Prop where
  blk : ∀ b x, h.get b = some x → ∃ e, μ b = some e ∧ BR μ N e x w
  dom : ∀ b e, μ b = some e → ∃ x, h.get b = some x
  sep : ∀ b1 b2 x1 x2 e1 e2, h.get b1 = some x1 → h.get b2 = some x2 → μ b1 = some e1 → μ b2 = some e2 → b1 ≠ b2 → e1.b = e2.b → (isRo x1 ∧ isRo x2) ∨ ∀ i, ¬ (uses e1 x1 i ∧ uses e2 x2 i)
  below : Below N w0 w
  base : N ≤ w0.heap.size
theorem SR.of_get {μ : Mp} {N : Nat} {w0 w : World} {g h : Tr Blk} (hg : ∀ b, g.get b = h.get b) (hs : SR μ N w0 h w) : SR μ N w0 g w :=
  ⟨fun b x hb => hs.blk b x (by rw [← hg]; exact hb), fun b e he => by rw [hg]; exact hs.dom b e he,
    fun b1 b2 x1 x2 e1 e2 h1 h2 => hs.sep b1 b2 x1 x2 e1 e2 (by rw [← hg]; exact h1) (by rw [← hg]; exact h2), hs.below, hs.base⟩
theorem SR.drew {μ : Mp} {N : Nat} {w0 w : World} {h : Tr Blk} (hs : SR μ N w0 h w) (n : Nat) : SR μ N w0 h { w with drawn := n } :=
  ⟨hs.blk, hs.dom, hs.sep, ⟨hs.below.os, hs.below.tape, hs.below.output, hs.below.size, hs.below.block⟩, hs.base⟩
theorem setCell_heap {w : World} {b : Nat} {arr : Array Value} {t : TypeId} {fr : Nat × Nat} (h : w.heap[b]? = some (.cells arr t fr)) (i : Nat) (v : Value) :
    (w.setCell ⟨b, i, none⟩ v).heap[b]? = some (.cells (arr.setIfInBounds i v) t fr) := by
  simp [World.setCell, Array.getElem?_modify, h]
section prims
variable {μ : Mp} {N : Nat} {w0 w : World} {h : Tr Blk}
theorem SR.load (hs : SR μ N w0 h w) {b i : Nat} {c : List (Option Value)} {t k : Nat} {sp : Bool} {v : Value} {e : Ent} (hb : h.get b = some (.cells c t k sp)) (hc : c[i]? = some (some v)) (he : μ b = some e) :
    ∃ v', w.cell? ⟨e.b, e.o + i, none⟩ = some v' ∧ VR μ v v' := by
  obtain ⟨e', he', hB⟩ := hs.blk b _ hb
  rw [he] at he'; cases he'
  obtain ⟨arr, lo, hi, tq, h1, _, _, _, _, _, _, h8⟩ := hB
  obtain ⟨v', hv, hr⟩ := h8 i v hc
  exact ⟨v', by simp [World.cell?, h1, hv], hr⟩
theorem uses_set {e : Ent} {c : List (Option Value)} {t k : Nat} {sp : Bool} {i j : Nat} {v : Option Value} (h : uses e (.cells (c.set i v) t k sp) j) : uses e (.cells c t k sp) j ∨ (j = e.o + i ∧ i < c.length ∧ v ≠ none) := by
  simp only [uses] at h ⊢
  rcases h with ⟨q, u, hq, rfl⟩ | ⟨h1, h2⟩
  · by_cases hqi : q = i
    · subst hqi
      rw [List.getElem?_set_self'] at hq
      by_cases hlt : q < c.length
      · rw [List.getElem?_eq_getElem hlt] at hq
        simp at hq
        exact .inr ⟨rfl, hlt, by rw [hq]; simp⟩
      · rw [List.getElem?_eq_none (by omega)] at hq
        simp at hq
    · rw [List.getElem?_set_ne (Ne.symm hqi)] at hq
      exact .inl (.inl ⟨q, u, hq, rfl⟩)
  · exact .inl (.inr ⟨h1, by simpa using h2⟩)
/-- A write needs that nobody else lays claim to the cell. -/
theorem SR.store (hs : SR μ N w0 h w) {b i : Nat} {c : List (Option Value)} {t k : Nat} {sp : Bool} {v v' : Value} {e : Ent} (hb : h.get b = some (.cells c t k sp)) (hi : i < c.length) (hk : k ≠ 0) (he : μ b = some e) (hv : VR μ v v')
    (hfree : ∀ b2 x2 e2, h.get b2 = some x2 → μ b2 = some e2 → b2 ≠ b → e2.b = e.b → ¬ uses e2 x2 (e.o + i)) :
    (∃ u, w.cell? ⟨e.b, e.o + i, none⟩ = some u) ∧ w.frozen? ⟨e.b, e.o + i, none⟩ = false ∧ SR μ N w0 (h.mod b (.cells (c.set i (some v)) t k sp)) (w.setCell ⟨e.b, e.o + i, none⟩ v') := by
  have hbs : (h.get b).isSome = true := by rw [hb]; rfl
  obtain ⟨e', he', hB⟩ := hs.blk b _ hb
  rw [he] at he'; cases he'
  obtain ⟨arr, lo, hi', tq, h1, h2, h3, h4, h5, h6, h7, h8⟩ := hB
  have hlt : e.o + i < arr.size := by omega
  have hN := (h5 hk).1
  refine ⟨⟨arr[e.o + i], by simp [World.cell?, h1, hlt]⟩, by have := (h5 hk).2 _ hlt; simp [World.frozen?, h1]; omega, ?_, ?_, ?_, hs.below.setCell hN v', hs.base⟩
  · intro b2 x2 hb2
    rw [Tr.get_mod _ _ _ _ hbs] at hb2
    by_cases eb : b2 = b
    · subst eb
      rw [if_pos rfl] at hb2; cases hb2
      refine ⟨e, he, arr.setIfInBounds (e.o + i) v', lo, hi', tq, ?_, by simpa using h2, by simpa using h3, h4, fun hk' => ⟨hN, fun j hj => (h5 hk').2 j (by simpa using hj)⟩, h6, h7, ?_⟩
      · exact setCell_heap h1 _ _
      · intro j u hu
        by_cases hj : j = i
        · subst hj
          rw [List.getElem?_set_self hi] at hu; cases hu
          exact ⟨v', by simp [hlt], hv⟩
        · rw [List.getElem?_set_ne (Ne.symm hj)] at hu
          obtain ⟨u', hu', hr⟩ := h8 j u hu
          exact ⟨u', by rw [Array.getElem?_setIfInBounds_ne (by omega)]; exact hu', hr⟩
    · rw [if_neg eb] at hb2
      obtain ⟨e2, he2, hB2⟩ := hs.blk b2 x2 hb2
      refine ⟨e2, he2, ?_⟩
      by_cases hsame : e2.b = e.b
      · have hno := hfree b2 x2 e2 hb2 he2 eb hsame
        cases x2 with
        | obj o => exact absurd trivial hno
        | cells c2 t2 k2 sp2 =>
          obtain ⟨arr2, lo2, hi2, tq2, g1, g2, g3, g4, g5, g6, g7, g8⟩ := hB2
          rw [hsame, h1] at g1; cases g1
          refine ⟨arr.setIfInBounds (e.o + i) v', lo, hi', tq, by rw [hsame]; exact setCell_heap h1 _ _, g2, by simpa using g3, g4, fun hk' => ⟨(g5 hk').1, fun j hj => (g5 hk').2 j (by simpa using hj)⟩, g6, g7, ?_⟩
          intro j u hu
          obtain ⟨u', hu', hr⟩ := g8 j u hu
          have hne : e.o + i ≠ e2.o + j := fun heq => hno (.inl ⟨j, u, hu, heq⟩)
          exact ⟨u', by rw [Array.getElem?_setIfInBounds_ne hne]; exact hu', hr⟩
      · have hh : (w.setCell ⟨e.b, e.o + i, none⟩ v').heap[e2.b]? = w.heap[e2.b]? := Below.heap_setCell _ _ _ _ hsame
        cases x2 with
        | obj o => obtain ⟨g0, o', g1, g2⟩ := hB2; exact ⟨g0, o', by rw [hh]; exact g1, g2⟩
        | cells c2 t2 k2 sp2 => obtain ⟨arr2, lo2, hi2, tq2, g1, g⟩ := hB2; exact ⟨arr2, lo2, hi2, tq2, by rw [hh]; exact g1, g⟩
  · intro b2 e2 he2
    rw [Tr.get_mod _ _ _ _ hbs]
    by_cases eb : b2 = b
    · exact ⟨_, if_pos eb⟩
    · rw [if_neg eb]; exact hs.dom b2 e2 he2
  · have key : ∀ b2 x2 e2, h.get b2 = some x2 → μ b2 = some e2 → b2 ≠ b → e2.b = e.b → ∀ j, ¬ (uses e (.cells (c.set i (some v)) t k sp) j ∧ uses e2 x2 j) := by
      intro b2 x2 e2 hb2 he2 hne hsame j ⟨hu1, hu2⟩
      rcases uses_set hu1 with hu1 | ⟨rfl, _⟩
      · rcases hs.sep b b2 _ _ _ _ hb hb2 he he2 (Ne.symm hne) hsame.symm with hro | hsep
        · exact absurd hro.1 hk
        · exact hsep j ⟨hu1, hu2⟩
      · exact hfree b2 x2 e2 hb2 he2 hne hsame hu2
    intro b1 b2 x1 x2 e1 e2 hb1 hb2 he1 he2 hne hsame
    rw [Tr.get_mod _ _ _ _ hbs] at hb1 hb2
    by_cases eb1 : b1 = b
    · subst eb1
      rw [if_pos rfl] at hb1; cases hb1
      rw [if_neg (Ne.symm hne)] at hb2
      rw [he] at he1; cases he1
      exact .inr (key b2 x2 e2 hb2 he2 (Ne.symm hne) hsame.symm)
    · rw [if_neg eb1] at hb1
      by_cases eb2 : b2 = b
      · subst eb2
        rw [if_pos rfl] at hb2; cases hb2
        rw [he] at he2; cases he2
        exact .inr fun j hj => key b1 x1 e1 hb1 he1 eb1 hsame j ⟨hj.2, hj.1⟩
      · rw [if_neg eb2] at hb2
        exact hs.sep b1 b2 x1 x2 e1 e2 hb1 hb2 he1 he2 hne hsame
/-- A live cell is the block's own. -/
theorem SR.own (hs : SR μ N w0 h w) {b i : Nat} {c : List (Option Value)} {t k : Nat} {sp : Bool} {v : Value} {e : Ent} (hb : h.get b = some (.cells c t k sp)) (hc : c[i]? = some (some v)) (hk : k ≠ 0) (he : μ b = some e) :
    ∀ b2 x2 e2, h.get b2 = some x2 → μ b2 = some e2 → b2 ≠ b → e2.b = e.b → ¬ uses e2 x2 (e.o + i) := by
  intro b2 x2 e2 hb2 he2 hne hsame hu
  rcases hs.sep b b2 _ _ _ _ hb hb2 he he2 (Ne.symm hne) hsame.symm with hro | hsep
  · exact hk hro.1
  · exact hsep (e.o + i) ⟨.inl ⟨i, v, hc, rfl⟩, hu⟩
/-- Less is known, or less is claimed, of one block. -/
theorem SR.less (hs : SR μ N w0 h w) {b : Nat} {c c' : List (Option Value)} {t k : Nat} {sp sp' : Bool} (hb : h.get b = some (.cells c t k sp)) (hlen : c'.length = c.length)
    (hc : ∀ (i : Nat) (v : Value), c'[i]? = some (some v) → c[i]? = some (some v)) (hsp : sp' = true → sp = true) : SR μ N w0 (h.mod b (.cells c' t k sp')) w := by
  have hbs : (h.get b).isSome = true := by rw [hb]; rfl
  obtain ⟨e, he, hB⟩ := hs.blk b _ hb
  have hu : ∀ i, uses e (.cells c' t k sp') i → uses e (.cells c t k sp) i := by
    rintro i (⟨j, v, hj, rfl⟩ | ⟨h1, h2⟩)
    · exact .inl ⟨j, v, hc j v hj, rfl⟩
    · exact .inr ⟨hsp h1, by rw [hlen] at h2; exact h2⟩
  refine ⟨?_, ?_, ?_, hs.below, hs.base⟩
  · intro b2 x2 hb2
    rw [Tr.get_mod _ _ _ _ hbs] at hb2
    by_cases eb : b2 = b
    · subst eb
      rw [if_pos rfl] at hb2; cases hb2
      obtain ⟨arr, lo, hi, tq, h1, h2, h3, h4, h5, h6, h7, h8⟩ := hB
      have hspf : sp = false → sp' = false := fun h0 => by
        cases sp' with
        | false => rfl
        | true => rw [hsp rfl] at h0; cases h0
      exact ⟨e, he, arr, lo, hi, tq, h1, by rw [hlen]; exact h2, by rw [hlen]; exact h3, fun hk => ⟨(h4 hk).1, hspf (h4 hk).2⟩, h5, fun hk => ⟨(h6 hk).1, (h6 hk).2.1, hspf (h6 hk).2.2⟩, h7, fun i v hi' => h8 i v (hc i v hi')⟩
    · rw [if_neg eb] at hb2; exact hs.blk b2 x2 hb2
  · intro b2 e2 he2
    rw [Tr.get_mod _ _ _ _ hbs]
    by_cases eb : b2 = b
    · exact ⟨_, if_pos eb⟩
    · rw [if_neg eb]; exact hs.dom b2 e2 he2
  · intro b1 b2 x1 x2 e1 e2 hb1 hb2 he1 he2 hne hsame
    rw [Tr.get_mod _ _ _ _ hbs] at hb1 hb2
    by_cases eb1 : b1 = b
    · subst eb1
      rw [if_pos rfl] at hb1; cases hb1
      rw [if_neg (Ne.symm hne)] at hb2
      rw [he] at he1; cases he1
      rcases hs.sep b1 b2 _ x2 e e2 hb hb2 he he2 hne hsame with h0 | h0
      · exact .inl h0
      · exact .inr fun i hi => h0 i ⟨hu i hi.1, hi.2⟩
    · rw [if_neg eb1] at hb1
      by_cases eb2 : b2 = b
      · subst eb2
        rw [if_pos rfl] at hb2; cases hb2
        rw [he] at he2; cases he2
        rcases hs.sep b1 b2 x1 _ e1 e hb1 hb he1 he hne hsame with h0 | h0
        · exact .inl h0
        · exact .inr fun i hi => h0 i ⟨hi.1, hu i hi.2⟩
      · rw [if_neg eb2] at hb2
        exact hs.sep b1 b2 x1 x2 e1 e2 hb1 hb2 he1 he2 hne hsame
/-- One more name. -/
def Mp.add (μ : Mp) (b : Nat) (e : Ent) : Mp := fun b' => if b' = b then some e else μ b'
theorem Mp.add_ext {b : Nat} (e : Ent) (hb : μ b = none) : Ext μ (μ.add b e) := by
  intro b' e' h'
  simp only [Mp.add]
  by_cases eb : b' = b
  · subst eb; rw [hb] at h'; cases h'
  · rw [if_neg eb]; exact h'
theorem Mp.add_same (b : Nat) (e : Ent) : μ.add b e b = some e := by simp [Mp.add]
theorem BR.ext {ν : Mp} (hx : Ext μ ν) {e : Ent} {x : Blk} (hB : BR μ N e x w) : BR ν N e x w := by
  cases x with
  | obj o => obtain ⟨h0, o', h1, h2⟩ := hB; exact ⟨h0, o', h1, h2.ext hx⟩
  | cells c t k sp =>
    obtain ⟨arr, lo, hi, tq, h1, h2, h3, h4, h5, h6, h7, h8⟩ := hB
    exact ⟨arr, lo, hi, tq, h1, h2, h3, h4, h5, h6, h7, fun i v hi' => let ⟨v', a, b⟩ := h8 i v hi'; ⟨v', a, b.ext hx⟩⟩
theorem BR.heap {w' : World} {e : Ent} {x : Blk} (hB : BR μ N e x w) (hh : w'.heap[e.b]? = w.heap[e.b]?) : BR μ N e x w' := by
  cases x with
  | obj o => obtain ⟨h0, o', h1, h2⟩ := hB; exact ⟨h0, o', by rw [hh]; exact h1, h2⟩
  | cells c t k sp => obtain ⟨arr, lo, hi, tq, h1, h2⟩ := hB; exact ⟨arr, lo, hi, tq, by rw [hh]; exact h1, h2⟩
theorem BR.lt {e : Ent} {x : Blk} (hB : BR μ N e x w) : e.b < w.heap.size := by
  cases x with
  | obj o => obtain ⟨h0, o', h1, h2⟩ := hB; exact (Array.getElem?_eq_some_iff.1 h1).1
  | cells c t k sp => obtain ⟨arr, lo, hi, tq, h1, h2⟩ := hB; exact (Array.getElem?_eq_some_iff.1 h1).1
/-- A new block, with its image in the world: either fresh, or a part of an elder one that nobody lays claim to. -/
theorem SR.add (hs : SR μ N w0 h w) {b : Nat} {x : Blk} {e : Ent} (hb : h.get b = none) (hlt : b + 1 < 2 ^ 60) (hB : BR (μ.add b e) N e x w)
    (hfree : ∀ b2 x2 e2, h.get b2 = some x2 → μ b2 = some e2 → e2.b = e.b → ∀ i, ¬ (uses e x i ∧ uses e2 x2 i)) :
    Ext μ (μ.add b e) ∧ SR (μ.add b e) N w0 (Tr.put 60 h b x) w := by
  have hμ : μ b = none := by
    cases hm : μ b with
    | none => rfl
    | some e' => obtain ⟨x', hx'⟩ := hs.dom b e' hm; rw [hb] at hx'; cases hx'
  have hx : Ext μ (μ.add b e) := Mp.add_ext e hμ
  refine ⟨hx, ?_, ?_, ?_, hs.below, hs.base⟩
  · intro b2 x2 hb2
    rw [Tr.get_put _ _ _ _ _ hlt] at hb2
    by_cases eb : b2 = b
    · subst eb; rw [if_pos rfl] at hb2; cases hb2; exact ⟨e, Mp.add_same _ _, hB⟩
    · rw [if_neg eb] at hb2
      obtain ⟨e2, he2, hB2⟩ := hs.blk b2 x2 hb2
      exact ⟨e2, hx _ _ he2, hB2.ext hx⟩
  · intro b2 e2 he2
    rw [Tr.get_put _ _ _ _ _ hlt]
    by_cases eb : b2 = b
    · exact ⟨_, if_pos eb⟩
    · rw [if_neg eb]
      simp only [Mp.add, if_neg eb] at he2
      exact hs.dom b2 e2 he2
  · intro b1 b2 x1 x2 e1 e2 hb1 hb2 he1 he2 hne hsame
    rw [Tr.get_put _ _ _ _ _ hlt] at hb1 hb2
    by_cases eb1 : b1 = b
    · subst eb1
      rw [if_pos rfl] at hb1; cases hb1
      rw [if_neg (Ne.symm hne)] at hb2
      rw [Mp.add_same] at he1; cases he1
      simp only [Mp.add, if_neg (Ne.symm hne)] at he2
      exact .inr (hfree b2 x2 e2 hb2 he2 hsame.symm)
    · rw [if_neg eb1] at hb1
      simp only [Mp.add, if_neg eb1] at he1
      by_cases eb2 : b2 = b
      · subst eb2
        rw [if_pos rfl] at hb2; cases hb2
        rw [Mp.add_same] at he2; cases he2
        exact .inr fun i hi => hfree b1 x1 e1 hb1 he1 hsame i ⟨hi.2, hi.1⟩
      · rw [if_neg eb2] at hb2
        simp only [Mp.add, if_neg eb2] at he2
        exact hs.sep b1 b2 x1 x2 e1 e2 hb1 hb2 he1 he2 hne hsame
/-- The world gets a block more. -/
theorem SR.push (hs : SR μ N w0 h w) (o : Obj) : SR μ N w0 h { w with heap := w.heap.push o } := by
  have hh : ∀ k, k < w.heap.size → (w.heap.push o)[k]? = w.heap[k]? := fun k hk => by rw [Array.getElem?_push, if_neg (by omega)]
  refine ⟨fun b x hb => ?_, hs.dom, hs.sep, ?_, hs.base⟩
  · obtain ⟨e, he, hB⟩ := hs.blk b x hb
    exact ⟨e, he, hB.heap (hh _ hB.lt)⟩
  · exact hs.below.alloc (Nat.le_trans hs.base hs.below.size) o
theorem SR.size (hs : SR μ N w0 h w) : N ≤ w.heap.size := Nat.le_trans hs.base hs.below.size
/-- A fresh block of cells. -/
theorem SR.newCells (hs : SR μ N w0 h w) {b : Nat} {c : List (Option Value)} {t k : Nat} {arr : Array Value} {s x : Nat} {lo hi : Nat} (hb : h.get b = none) (hlt : b + 1 < 2 ^ 60)
    (hk : k ≠ 0) (hk1 : k ≤ 1 → s = 0) (hk2 : 2 ≤ k → s + 2 = k ∧ s ≠ 0) (hsize : c.length + x * s ≤ arr.size) (hfr : ∀ i, i < arr.size → ¬ (lo ≤ i ∧ i < hi))
    (hc : ∀ (i : Nat) (v : Value), c[i]? = some (some v) → ∃ v', arr[i]? = some v' ∧ VR μ v v') (sp : Bool) (hsp : k ≤ 1 → sp = false) :
    ∃ e : Ent, e.b = w.heap.size ∧ e.o = 0 ∧ e.len = c.length ∧ e.s = s ∧ e.x = x ∧ Ext μ (μ.add b e) ∧ SR (μ.add b e) N w0 (Tr.put 60 h b (.cells c t k sp)) { w with heap := w.heap.push (.cells arr t (lo, hi)) } := by
  have hs' := hs.push (.cells arr t (lo, hi))
  have hμ : μ b = none := by
    cases hm : μ b with
    | none => rfl
    | some e' => obtain ⟨x', hx'⟩ := hs.dom b e' hm; rw [hb] at hx'; cases hx'
  refine ⟨⟨w.heap.size, 0, c.length, s, x⟩, rfl, rfl, rfl, rfl, rfl, hs'.add hb hlt ?_ ?_⟩
  · refine ⟨arr, lo, hi, t, by simp, rfl, by simp [hsize], fun h0 => absurd h0 hk, fun _ => ⟨hs.size, hfr⟩, fun h1 => ⟨hk1 h1, rfl, hsp h1⟩, hk2, fun i v hv => ?_⟩
    obtain ⟨v', h1, h2⟩ := hc i v hv
    exact ⟨v', by simpa using h1, h2.ext (Mp.add_ext _ hμ)⟩
  · intro b2 x2 e2 hb2 he2 hsame
    obtain ⟨e2', he2', hB2⟩ := hs.blk b2 x2 hb2
    rw [he2] at he2'; cases he2'
    have := hB2.lt
    dsimp only at hsame
    omega
/-- A fresh object of another kind. -/
theorem SR.newObj (hs : SR μ N w0 h w) {b : Nat} {o o' : Obj} (hb : h.get b = none) (hlt : b + 1 < 2 ^ 60) (ho : OR μ o o') :
    ∃ e : Ent, e.b = w.heap.size ∧ Ext μ (μ.add b e) ∧ SR (μ.add b e) N w0 (Tr.put 60 h b (.obj o)) { w with heap := w.heap.push o' } := by
  have hs' := hs.push o'
  have hμ : μ b = none := by
    cases hm : μ b with
    | none => rfl
    | some e' => obtain ⟨x', hx'⟩ := hs.dom b e' hm; rw [hb] at hx'; cases hx'
  refine ⟨⟨w.heap.size, 0, 0, 0, 0⟩, rfl, hs'.add hb hlt ?_ ?_⟩
  · exact ⟨⟨hs.size, rfl⟩, o', by simp, ho.ext (Mp.add_ext _ hμ)⟩
  · intro b2 x2 e2 hb2 he2 hsame
    obtain ⟨e2', he2', hB2⟩ := hs.blk b2 x2 hb2
    rw [he2] at he2'; cases he2'
    have := hB2.lt
    dsimp only at hsame
    omega
theorem SR.getObj (hs : SR μ N w0 h w) {b : Nat} {o : Obj} {e : Ent} (hb : h.get b = some (.obj o)) (he : μ b = some e) : e.o = 0 ∧ ∃ o', w.heap[e.b]? = some o' ∧ OR μ o o' := by
  obtain ⟨e', he', hB⟩ := hs.blk b _ hb
  rw [he] at he'; cases he'
  exact ⟨hB.1.2, hB.2⟩
theorem SR.setObj (hs : SR μ N w0 h w) {b : Nat} {o o1 o1' : Obj} {e : Ent} (hb : h.get b = some (.obj o)) (he : μ b = some e) (ho : OR μ o1 o1') :
    SR μ N w0 (h.mod b (.obj o1)) { w with heap := w.heap.setIfInBounds e.b o1' } := by
  have hbs : (h.get b).isSome = true := by rw [hb]; rfl
  obtain ⟨e', he', hB⟩ := hs.blk b _ hb
  rw [he] at he'; cases he'
  have hlt := hB.lt
  have hN := hB.1.1
  have ho0 := hB.1.2
  have hh : ∀ k, k ≠ e.b → (w.heap.setIfInBounds e.b o1')[k]? = w.heap[k]? := fun k hk => by rw [Array.getElem?_setIfInBounds_ne (Ne.symm hk)]
  have hno : ∀ b2 x2 e2, h.get b2 = some x2 → μ b2 = some e2 → b2 ≠ b → e2.b ≠ e.b := by
    intro b2 x2 e2 hb2 he2 hne hsame
    rcases hs.sep b b2 _ _ _ _ hb hb2 he he2 (Ne.symm hne) hsame.symm with h0 | h0
    · exact h0.1
    · cases x2 with
      | obj o2 => exact h0 0 ⟨trivial, trivial⟩
      | cells c t k sp =>
        obtain ⟨e2', he2', hB2⟩ := hs.blk b2 _ hb2
        rw [he2] at he2'; cases he2'
        obtain ⟨arr, lo, hi, tq, h1, _⟩ := hB2
        obtain ⟨o', h2, h3⟩ := hB.2
        rw [hsame, h2] at h1
        cases h1
        cases h3 with
        | dead _ hd => exact hd _ _ _ rfl
  refine ⟨?_, ?_, ?_, ?_, hs.base⟩
  · intro b2 x2 hb2
    rw [Tr.get_mod _ _ _ _ hbs] at hb2
    by_cases eb : b2 = b
    · subst eb
      rw [if_pos rfl] at hb2; cases hb2
      exact ⟨e, he, ⟨hN, ho0⟩, o1', by simp [hlt], ho⟩
    · rw [if_neg eb] at hb2
      obtain ⟨e2, he2, hB2⟩ := hs.blk b2 x2 hb2
      exact ⟨e2, he2, hB2.heap (hh _ (hno b2 x2 e2 hb2 he2 eb))⟩
  · intro b2 e2 he2
    rw [Tr.get_mod _ _ _ _ hbs]
    by_cases eb : b2 = b
    · exact ⟨_, if_pos eb⟩
    · rw [if_neg eb]; exact hs.dom b2 e2 he2
  · intro b1 b2 x1 x2 e1 e2 hb1 hb2 he1 he2 hne hsame
    rw [Tr.get_mod _ _ _ _ hbs] at hb1 hb2
    by_cases eb1 : b1 = b
    · subst eb1
      rw [if_neg (Ne.symm hne)] at hb2
      rw [he] at he1; cases he1
      exact absurd hsame.symm (hno b2 x2 e2 hb2 he2 (Ne.symm hne))
    · rw [if_neg eb1] at hb1
      by_cases eb2 : b2 = b
      · subst eb2
        rw [he] at he2; cases he2
        exact absurd hsame (hno b1 x1 e1 hb1 he1 eb1)
      · rw [if_neg eb2] at hb2
        exact hs.sep b1 b2 x1 x2 e1 e2 hb1 hb2 he1 he2 hne hsame
  · refine hs.below.trans ⟨rfl, rfl, rfl, by simp, fun k hk => hh k (by omega)⟩
end prims
end Go.Proofs.YtndjhcmgngnfbaaGreatDoor.AM
end
/- A computation of the abstract heap answers what the model's computation answers: the rules. No condition. -/
section
namespace Go.Proofs.YtndjhcmgngnfbaaGreatDoor.AM
open Go Go.RowKit
/-- What the evaluator knows of a type. -/
structure TInfo where
  info : TypeInfo
  u : TypeDesc
def TyOk (P : Program) (ty : Nat → Option TInfo) : Prop := ∀ t i, ty t = some i → P.info? t = some i.info ∧ P.underlying t = some i.u
/-- t answers what s answers. -/
def Sim {α β : Type} (P : Program) (N : Nat) (w0 : World) (R : Mp → α → β → Prop) (μ : Mp) (t : AT α) (s : Sem β) : Prop :=
  ∀ (st : St) (w : World) (a : α) (st' : St), t.run st = some (a, st') → SR μ N w0 st.h w →
    ∃ ν w' b, Ext μ ν ∧ s.run P w = .ok b w' ∧ SR ν N w0 st'.h w' ∧ R ν a b
section rules
variable {P : Program} {N : Nat} {w0 : World} {α β γ δ : Type} {R : Mp → α → β → Prop} {R' : Mp → γ → δ → Prop} {μ : Mp}
theorem Sim.fail {s : Sem β} : Sim P N w0 R μ .fail s := fun _ _ _ _ h => by cases h
theorem Sim.ret {a : α} {b : β} (h : R μ a b) : Sim P N w0 R μ (.ret a) (pure b) := by
  intro st w a' st' ht hs
  cases ht
  exact ⟨μ, w, b, .refl _, rfl, hs, h⟩
theorem Sim.bind {t : AT α} {s : Sem β} {f : α → AT γ} {g : β → Sem δ} (h : Sim P N w0 R μ t s) (hk : ∀ ν a b, Ext μ ν → R ν a b → Sim P N w0 R' ν (f a) (g b)) : Sim P N w0 R' μ (t.bind f) (s >>= g) := by
  intro st w a st' ht hs
  rw [AT.run_bind] at ht
  simp only [M.bind] at ht
  cases h1 : t.run st with
  | none => rw [h1] at ht; cases ht
  | some p =>
    obtain ⟨x, st1⟩ := p
    rw [h1] at ht
    obtain ⟨ν, w1, y, e1, r1, s1, q1⟩ := h st w x st1 h1 hs
    obtain ⟨ξ, w2, b, e2, r2, s2, q2⟩ := hk ν x y e1 q1 st1 w1 a st' ht s1
    exact ⟨ξ, w2, b, e1.trans e2, by rw [Sem.run_bind, r1]; exact r2, s2, q2⟩
theorem Sim.congr {t : AT α} {s s' : Sem β} (h : ∀ w, s.run P w = s'.run P w) (h' : Sim P N w0 R μ t s') : Sim P N w0 R μ t s := by
  intro st w a st' ht hs
  obtain ⟨ν, w', b, h1, h2, h3, h4⟩ := h' st w a st' ht hs
  exact ⟨ν, w', b, h1, by rw [h]; exact h2, h3, h4⟩
/-- A step of the model's alone. -/
theorem Sim.step {t : AT γ} {s : Sem β} {g : β → Sem δ} {b : β} (h : ∀ w, s.run P w = .ok b w) (h' : Sim P N w0 R' μ t (g b)) : Sim P N w0 R' μ t (s >>= g) :=
  Sim.congr (fun w => by rw [Sem.run_bind, h]; rfl) h'
theorem Sim.mono {t : AT α} {s : Sem β} {R2 : Mp → α → β → Prop} (h : Sim P N w0 R μ t s) (hr : ∀ ν a b, Ext μ ν → R ν a b → R2 ν a b) : Sim P N w0 R2 μ t s := by
  intro st w a st' ht hs
  obtain ⟨ν, w', b, h1, h2, h3, h4⟩ := h st w a st' ht hs
  exact ⟨ν, w', b, h1, h2, h3, hr _ _ _ h1 h4⟩
theorem Sim.map {t : AT α} {s : Sem β} {f : α → γ} {g : β → δ} (h : Sim P N w0 R μ t s) (hr : ∀ ν a b, Ext μ ν → R ν a b → R' ν (f a) (g b)) : Sim P N w0 R' μ (t.bind fun a => .ret (f a)) (s >>= fun b => pure (g b)) :=
  Sim.bind h fun ν a b hx hab => Sim.ret (hr ν a b hx hab)
theorem Sim.load {b i : Nat} {e : Ent} {k : Value → AT γ} {g : Value → Sem δ} (he : μ b = some e) (hk : ∀ v v', VR μ v v' → Sim P N w0 R' μ (k v) (g v')) :
    Sim P N w0 R' μ (.load b i k) (Go.load ⟨e.b, e.o + i, none⟩ >>= g) := by
  intro st w a st' ht hs
  simp only [AT.run] at ht
  cases hb : st.h.get b with
  | none => rw [hb] at ht; cases ht
  | some x =>
    rw [hb] at ht
    cases x with
    | obj o => cases ht
    | cells c t kd sp =>
      dsimp only at ht
      cases hc : c[i]? with
      | none => rw [hc] at ht; cases ht
      | some y =>
        rw [hc] at ht
        cases y with
        | none => cases ht
        | some v =>
          obtain ⟨v', hv, hr⟩ := hs.load hb hc he
          obtain ⟨ν, w', b', h1, h2, h3, h4⟩ := hk v v' hr _ w a st' ht (by exact hs)
          exact ⟨ν, w', b', h1, by rw [Sem.run_bind, run_load, hv]; exact h2, h3, h4⟩
theorem Sim.shape {b : Nat} {e : Ent} {k : Nat → TypeId → Nat → AT γ} {s : Sem δ} (he : μ b = some e)
    (hk : ∀ t kd, (kd ≤ 1 → e.s = 0) → (2 ≤ kd → e.s + 2 = kd ∧ e.s ≠ 0) → Sim P N w0 R' μ (k e.len t kd) s) :
    Sim P N w0 R' μ (.shape b k) s := by
  intro st w a st' ht hs
  simp only [AT.run] at ht
  cases hb : st.h.get b with
  | none => rw [hb] at ht; cases ht
  | some x =>
    rw [hb] at ht
    cases x with
    | obj o => cases ht
    | cells c t kd sp =>
      obtain ⟨e', he', hB⟩ := hs.blk b _ hb
      rw [he] at he'; cases he'
      obtain ⟨arr, lo, hi, tq, g1, g2, g3, g4, g5, g6, g7, g8⟩ := hB
      refine hk t kd (fun h => (g6 h).1) g7 { st with rd := (b, 0) :: st.rd } w a st' ?_ hs
      rw [g2]; exact ht
theorem Sim.store {b i : Nat} {e : Ent} {v v' : Value} {k : AT γ} {s : Sem δ} (he : μ b = some e) (hv : VR μ v v') (hk : Sim P N w0 R' μ k s) :
    Sim P N w0 R' μ (.store b i v k) (Go.store ⟨e.b, e.o + i, none⟩ v' >>= fun _ => s) := by
  intro st w a st' ht hs
  simp only [AT.run] at ht
  cases hb : st.h.get b with
  | none => rw [hb] at ht; cases ht
  | some x =>
    rw [hb] at ht
    cases x with
    | obj o => cases ht
    | cells c t kd sp =>
      dsimp only at ht
      cases hc : c[i]? with
      | none => rw [hc] at ht; cases ht
      | some y =>
        rw [hc] at ht
        cases y with
        | none => cases ht
        | some u =>
          dsimp only at ht
          cases hg : Nat.ble 1 kd && oneCell v with
          | false => rw [hg] at ht; cases ht
          | true =>
            rw [hg, cond_true] at ht
            simp only [Bool.and_eq_true, Nat.ble_eq] at hg
            have hkd : kd ≠ 0 := by omega
            obtain ⟨⟨u', hu⟩, hf, hs'⟩ := hs.store hb (List.getElem?_eq_some_iff.1 hc).1 hkd he hv (hs.own hb hc hkd he)
            obtain ⟨ν, w', b', h1, h2, h3, h4⟩ := hk _ _ a st' ht hs'
            have ho : v'.oneCell' = true := by
              have h1 := hv.oneCell
              rw [hg.2] at h1
              cases v' <;> first | rfl | (simp [oneCell] at h1)
            exact ⟨ν, w', b', h1, by rw [Sem.run_bind, run_store _ _ _ _ _ ho, hu]; simp only [hf]; exact h2, h3, h4⟩
/-- A fresh block of exactly these cells. -/
theorem Sim.newExact {vs vs' : List Value} {t : TypeId} {k : Nat → AT γ} {g : Addr → Sem δ} (hv : VRs μ vs vs')
    (hk : ∀ ν b e, Ext μ ν → ν b = some e → e.o = 0 → e.s = 0 → e.len = vs.length → Sim P N w0 R' ν (k b) (g ⟨e.b, 0, none⟩)) :
    Sim P N w0 R' μ (.new (.cells (vs.map some) t 1 false) k) (newRow t vs'.toArray >>= g) := by
  intro st w a st' ht hs
  simp only [AT.run] at ht
  cases hb : st.h.get st.nx with
  | some x => rw [hb] at ht; cases ht
  | none =>
    rw [hb] at ht
    dsimp only at ht
    cases hg : Nat.blt st.nx 1000000000000 with
    | false => rw [hg] at ht; cases ht
    | true =>
      rw [hg, cond_true] at ht
      have hlt : st.nx + 1 < 2 ^ 60 := by rw [Nat.blt_eq] at hg; omega
      obtain ⟨e, e1, e2, e3, e4, e5, e6, e7⟩ := hs.newCells (c := vs.map some) (t := t) (k := 1) (arr := vs'.toArray) (s := 0) (x := 0) (lo := 0) (hi := 0) hb hlt (by omega) (fun _ => rfl) (fun h => by omega)
        (by simp [hv.length]) (fun i _ => by omega) (fun i v h => by
          rw [List.getElem?_map] at h
          rcases hv.get i with ⟨h1, h2⟩ | ⟨x, x', h1, h2, h3⟩
          · rw [h1] at h; cases h
          · rw [h1] at h; cases h; exact ⟨x', by simpa using h2, h3⟩) false (fun _ => rfl)
      obtain ⟨ν, w', b', h1, h2, h3, h4⟩ := hk _ st.nx e e6 (Mp.add_same _ _) e2 e4 (by simpa using e3) _ _ a st' ht e7
      refine ⟨ν, w', b', e6.trans h1, ?_, h3, h4⟩
      rw [Sem.run_bind]
      simp only [newRow, Sem.run_bind, run_newObj, Result.andThen, Sem.run_pure]
      rw [e1] at h2
      exact h2
theorem Sim.newObj {o o' : Obj} {k : Nat → AT γ} {g : Nat → Sem δ} (ho : OR μ o o') (hk : ∀ ν b e, Ext μ ν → ν b = some e → e.o = 0 → Sim P N w0 R' ν (k b) (g e.b)) :
    Sim P N w0 R' μ (.new (.obj o) k) (Go.newObj o' >>= g) := by
  intro st w a st' ht hs
  simp only [AT.run] at ht
  cases hb : st.h.get st.nx with
  | some x => rw [hb] at ht; cases ht
  | none =>
    rw [hb] at ht
    dsimp only at ht
    cases hg : Nat.blt st.nx 1000000000000 with
    | false => rw [hg] at ht; cases ht
    | true =>
      rw [hg, cond_true] at ht
      have hlt : st.nx + 1 < 2 ^ 60 := by rw [Nat.blt_eq] at hg; omega
      obtain ⟨e, e1, e6, e7⟩ := hs.newObj hb hlt ho
      have e0 : e.o = 0 := by
        obtain ⟨e', he', hB⟩ := e7.blk st.nx (.obj o) (by rw [Tr.get_put _ _ _ _ _ hlt, if_pos rfl])
        rw [Mp.add_same] at he'; cases he'
        exact hB.1.2
      obtain ⟨ν, w', b', h1, h2, h3, h4⟩ := hk _ st.nx e e6 (Mp.add_same _ _) e0 _ _ a st' ht e7
      refine ⟨ν, w', b', e6.trans h1, ?_, h3, h4⟩
      rw [Sem.run_bind, run_newObj]
      rw [e1] at h2
      exact h2
theorem run_getObj_of {w : World} {r : Nat} {o : Obj} (h : w.heap[r]? = some o) (hc : ∀ c t fr, o ≠ .cells c t fr) : (Go.getObj r).run P w = .ok o w := by
  simp only [Go.getObj, Sem.run, h]
  all_goals first
    | (cases o <;> first | rfl | exact absurd rfl (hc _ _ _))
theorem run_setObj_of {w : World} {r : Nat} {o o1 : Obj} (h : w.heap[r]? = some o) (hc : ∀ c t fr, o ≠ .cells c t fr) : (Go.setObj r o1).run P w = .ok () { w with heap := w.heap.setIfInBounds r o1 } := by
  simp only [Go.setObj, Sem.run, h]
  all_goals first
    | (cases o <;> first | rfl | exact absurd rfl (hc _ _ _))
theorem OR.notCells {o o' : Obj} (h : OR μ o o') : ∀ c t fr, o' ≠ .cells c t fr := by
  intro c t fr he
  subst he
  cases h with
  | dead _ hd => exact hd _ _ _ rfl
theorem Sim.getObj {b : Nat} {e : Ent} {k : Obj → AT γ} {g : Obj → Sem δ} (he : μ b = some e) (hk : ∀ o o', OR μ o o' → e.o = 0 → Sim P N w0 R' μ (k o) (g o')) :
    Sim P N w0 R' μ (.getObj b k) (Go.getObj e.b >>= g) := by
  intro st w a st' ht hs
  simp only [AT.run] at ht
  cases hb : st.h.get b with
  | none => rw [hb] at ht; cases ht
  | some x =>
    rw [hb] at ht
    cases x with
    | cells c t kd sp => cases ht
    | obj o =>
      obtain ⟨h0, o', h1, h2⟩ := hs.getObj hb he
      obtain ⟨ν, w', b', g1, g2, g3, g4⟩ := hk o o' h2 h0 _ w a st' ht (by exact hs)
      exact ⟨ν, w', b', g1, by rw [Sem.run_bind, run_getObj_of h1 h2.notCells]; exact g2, g3, g4⟩
theorem Sim.setObj {b : Nat} {e : Ent} {o o' : Obj} {k : AT γ} {s : Sem δ} (he : μ b = some e) (ho : OR μ o o') (hk : Sim P N w0 R' μ k s) :
    Sim P N w0 R' μ (.setObj b o k) (Go.setObj e.b o' >>= fun _ => s) := by
  intro st w a st' ht hs
  simp only [AT.run] at ht
  cases hb : st.h.get b with
  | none => rw [hb] at ht; cases ht
  | some x =>
    rw [hb] at ht
    cases x with
    | cells c t kd sp => cases ht
    | obj o2 =>
      obtain ⟨h0, o2', h1, h2⟩ := hs.getObj hb he
      obtain ⟨ν, w', b', g1, g2, g3, g4⟩ := hk _ _ a st' ht (hs.setObj hb he ho)
      exact ⟨ν, w', b', g1, by rw [Sem.run_bind, run_setObj_of h1 h2.notCells]; exact g2, g3, g4⟩
/-- As the last step. -/
theorem bind_pure_unit (s : Sem Unit) : (s >>= fun _ => pure ()) = s := by
  show s.bind (fun _ => Sem.pure ()) = s
  have : (fun _ : Unit => Sem.pure ()) = (Sem.pure : Unit → Sem Unit) := by funext u; rfl
  rw [this]
  exact Sem.bind_pure' s
end rules
/-! ### Values without addresses -/
def plainF : Nat → Value → Bool
  | 0, _ => false
  | n + 1, v =>
    match v with
    | .bool _ | .int _ _ | .float _ _ | .complex _ _ _ | .string _ | .pointer none | .slice none _ _ | .map none | .nilFunc | .nilIface => true
    | .func fn f c => (match fn with | .yield _ => false | _ => true) && f.toList.all (plainF n) && c.toList.all (plainF n)
    | .iface _ v => plainF n v
    | .agg cs => cs.toList.all (plainF n)
    | .tuple cs => cs.toList.all (plainF n)
    | _ => false
def plain (v : Value) : Bool := plainF 40 v
theorem VRs.refl_of {μ : Mp} : ∀ {l : List Value}, (∀ v ∈ l, VR μ v v) → VRs μ l l
  | [], _ => .nil
  | v :: l, h => .cons _ _ _ _ (h v (by simp)) (VRs.refl_of fun x hx => h x (by simp [hx]))
theorem VRs.eq_of {μ : Mp} : ∀ {l l' : List Value}, VRs μ l l' → (∀ v ∈ l, ∀ v', VR μ v v' → v' = v) → l' = l
  | [], _, h, _ => by cases h; rfl
  | v :: l, _, h, k => by
    cases h with
    | cons _ v' _ l' h1 h2 => rw [k v (by simp) v' h1, VRs.eq_of h2 fun x hx => k x (by simp [hx])]
theorem plainF_refl (μ : Mp) : ∀ (n : Nat) (v : Value), plainF n v = true → VR μ v v := by
  intro n
  induction n with
  | zero => intro v h; simp [plainF] at h
  | succ n ih =>
    intro v h
    cases v with
    | bool b => exact .bool b
    | int k i => exact .int k i
    | float k b => exact .float k b
    | complex k a b => exact .complex k a b
    | string s => exact .string s
    | pointer a => cases a with | none => exact .ptrNil | some a => simp [plainF] at h
    | slice a l c => cases a with | none => exact .sliceNil l c | some a => simp [plainF] at h
    | map r => cases r with | none => exact .mapNil | some r => simp [plainF] at h
    | chan r => simp [plainF] at h
    | func fn f c =>
      simp only [plainF, Bool.and_eq_true, List.all_eq_true] at h
      refine .func fn f f c c ?_ (.refl_of fun x hx => ih x (h.1.2 x hx)) (.refl_of fun x hx => ih x (h.2 x hx))
      rintro l rfl
      simp at h
    | nilFunc => exact .nilFunc
    | iface t v => exact .iface t v v (ih v (by simpa [plainF] using h))
    | nilIface => exact .nilIface
    | agg cs => exact .agg cs cs (.refl_of fun x hx => ih x (by simp only [plainF, List.all_eq_true] at h; exact h x hx))
    | tuple cs => exact .tuple cs cs (.refl_of fun x hx => ih x (by simp only [plainF, List.all_eq_true] at h; exact h x hx))
theorem plainF_eq {μ : Mp} : ∀ (n : Nat) (v v' : Value), plainF n v = true → VR μ v v' → v' = v := by
  intro n
  induction n with
  | zero => intro v v' h; simp [plainF] at h
  | succ n ih =>
    intro v v' h hr
    cases hr with
    | ptr => simp [plainF] at h
    | slice => simp [plainF] at h
    | sliceEnd => simp [plainF] at h
    | map => simp [plainF] at h
    | yield => simp [plainF] at h
    | func fn f f' c c' h0 h1 h2 =>
      simp only [plainF, Bool.and_eq_true, List.all_eq_true] at h
      have a := VRs.eq_of h1 fun x hx x' hr => ih x x' (h.1.2 x hx) hr
      have b := VRs.eq_of h2 fun x hx x' hr => ih x x' (h.2 x hx) hr
      rw [Array.toList_inj.1 a, Array.toList_inj.1 b]
    | iface t v v' h1 => rw [ih v v' (by simpa [plainF] using h) h1]
    | agg c c' h1 =>
      simp only [plainF, List.all_eq_true] at h
      rw [Array.toList_inj.1 (VRs.eq_of h1 fun x hx x' hr => ih x x' (h x hx) hr)]
    | tuple c c' h1 =>
      simp only [plainF, List.all_eq_true] at h
      rw [Array.toList_inj.1 (VRs.eq_of h1 fun x hx x' hr => ih x x' (h x hx) hr)]
    | _ => rfl
theorem plain_refl (μ : Mp) {v : Value} (h : plain v = true) : VR μ v v := plainF_refl μ _ v h
theorem plain_eq {μ : Mp} {v v' : Value} (h : plain v = true) (hr : VR μ v v') : v' = v := plainF_eq _ v v' h hr
/-! ### Computations that do not touch memory -/
def pureRun {α : Type} (P : Program) : Sem α → Option α
  | .pure a => some a
  | .program k => pureRun P (k P)
  | .mark _ k => pureRun P k
  | _ => none
theorem pureRun_run {α : Type} {P : Program} : ∀ (s : Sem α) (a : α), pureRun P s = some a → ∀ w, s.run P w = .ok a w := by
  intro s
  induction s with
  | pure a => intro b h w; cases h; rfl
  | program k ih => intro b h w; exact ih P b h w
  | mark m k ih => intro b h w; exact ih b h w
  | _ => intro b h; cases h
def ofOpt {α : Type} : Option α → AT α
  | some a => .ret a
  | none => .fail
theorem Sim.ofPure {P : Program} {N : Nat} {w0 : World} {μ : Mp} {s s' : Sem Value} (hs : s' = s) : Sim P N w0 VR μ ((ofOpt (pureRun P s)).bind fun v => bif plain v then .ret v else .fail) s' := by
  subst hs
  cases h : pureRun P s' with
  | none => exact Sim.fail
  | some a =>
    show Sim P N w0 VR μ (bif plain a then .ret a else .fail) s'
    cases hp : plain a with
    | false => exact Sim.fail
    | true =>
      refine Sim.congr (s' := pure a) (fun w => ?_) (Sim.ret (plain_refl μ hp))
      rw [pureRun_run s' a h w]; rfl
end Go.Proofs.YtndjhcmgngnfbaaGreatDoor.AM
end
/- Operations on memory, of the abstract machine and of the model: loads, stores, new blocks, addresses. No condition. -/
section
namespace Go.Proofs.YtndjhcmgngnfbaaGreatDoor.AM
open Go Go.RowKit
section
variable {P : Program} {N : Nat} {w0 : World} {α β γ δ : Type} {R : Mp → α → β → Prop} {μ : Mp} {ty : Nat → Option TInfo}
theorem Sim.mapL {t : AT α} {s : Sem β} {f : α → γ} {R2 : Mp → γ → β → Prop} (h : Sim P N w0 R μ t s) (hr : ∀ ν a b, Ext μ ν → R ν a b → R2 ν (f a) b) : Sim P N w0 R2 μ (t.bind fun a => .ret (f a)) s := by
  have h' : Sim P N w0 R2 μ (t.bind fun a => .ret (f a)) (s >>= fun b => pure b) := Sim.bind h fun ν a b hx hab => Sim.ret (hr ν a b hx hab)
  have e : (s >>= fun b => pure b) = s := Sem.bind_pure' s
  rw [e] at h'
  exact h'
theorem run_underlying {t : TypeId} {d : TypeDesc} (h : P.underlying t = some d) (w : World) : (underlying t).run P w = .ok d w := by
  simp [underlying, h]
theorem run_typeInfo {t : TypeId} {i : TypeInfo} (h : P.info? t = some i) (w : World) : (typeInfo t).run P w = .ok i w := by
  simp only [typeInfo, Sem.run_bind, run_program, Result.andThen_ok]
  have : P.toTables.info? t = some i := h
  rw [this]; rfl
theorem run_sizeOf {t : TypeId} {i : TypeInfo} (h : P.info? t = some i) (w : World) : (sizeOf t).run P w = .ok i.size w := by
  simp [Go.sizeOf, run_typeInfo h]
theorem run_zeroValue {t : TypeId} {i : TypeInfo} {z : Value} (h : P.info? t = some i) (hz : i.zero = some z) (w : World) : (zeroValue t).run P w = .ok z w := by
  simp [zeroValue, run_typeInfo h, hz]
def isAggD : TypeDesc → Bool
  | .struct _ => true
  | .array _ _ => true
  | _ => false
theorem run_isAgg {t : TypeId} {d : TypeDesc} (h : P.underlying t = some d) (w : World) : (isAgg t).run P w = .ok (isAggD d) w := by
  simp only [isAgg, Sem.run_bind, run_underlying h, Result.andThen_ok]
  cases d <;> rfl
theorem Sim.underlying {t : AT γ} {R' : Mp → γ → δ → Prop} {g : TypeDesc → Sem δ} {u : TypeId} {d : TypeDesc} (h : P.underlying u = some d) (h' : Sim P N w0 R' μ t (g d)) : Sim P N w0 R' μ t (Go.underlying u >>= g) :=
  Sim.step (run_underlying h) h'
/-! ### Cells -/
def loadN (b : Nat) : Nat → Nat → AT (List Value)
  | _, 0 => .ret []
  | off, n + 1 => .load b off fun v => (loadN b (off + 1) n).bind fun vs => .ret (v :: vs)
def storeN (b : Nat) : Nat → List Value → AT Unit
  | _, [] => .ret ()
  | off, v :: vs => .store b off v (storeN b (off + 1) vs)
theorem add_eq (b o i : Nat) : (⟨b, o, none⟩ : Addr).add i = ⟨b, o + i, none⟩ := by
  unfold Addr.add
  by_cases h : i = 0
  · simp [h]
  · simp [h]
theorem sim_loadCellsFrom {b off : Nat} {e : Ent} : ∀ (n i : Nat) (μ : Mp) (acc : List Value) (acc' : Array Value), μ b = some e → VRs μ acc acc'.toList →
    Sim P N w0 (fun ν vs arr => VRs ν (acc ++ vs) arr.toList) μ (loadN b (off + i) n) (loadCellsFrom ⟨e.b, e.o + off, none⟩ i n acc') := by
  intro n
  induction n with
  | zero => intro i μ acc acc' he ha; exact Sim.ret (by simpa using ha)
  | succ n ih =>
    intro i μ acc acc' he ha
    simp only [loadN, loadCellsFrom, add_eq]
    rw [Nat.add_assoc e.o off i]
    refine Sim.load he fun v v' hv => ?_
    have := ih (i + 1) μ (acc ++ [v]) (acc'.push v') he (by simpa using ha.append (.cons _ _ _ _ hv .nil))
    refine Sim.mapL this fun ν vs arr hx h => ?_
    simpa using h
theorem sim_loadCells {b off : Nat} {e : Ent} (he : μ b = some e) (n : Nat) : Sim P N w0 (fun ν vs arr => VRs ν vs arr.toList) μ (loadN b off n) (loadCells ⟨e.b, e.o + off, none⟩ n) := by
  have := sim_loadCellsFrom (P := P) (N := N) (w0 := w0) (b := b) (off := off) (e := e) n 0 μ [] #[] he .nil
  simpa [loadCells] using this
theorem sim_storeCells {b off : Nat} {e : Ent} : ∀ (vs vs' : List Value) (i : Nat) (μ : Mp), μ b = some e → VRs μ vs vs' →
    Sim P N w0 (fun _ _ _ => True) μ (storeN b (off + i) vs) (storeCells ⟨e.b, e.o + off, none⟩ vs' i) := by
  intro vs
  induction vs with
  | nil => intro vs' i μ he h; cases h; exact Sim.ret trivial
  | cons v vs ih =>
    intro vs' i μ he h
    cases h with
    | cons _ v' _ l' h1 h2 =>
      simp only [storeN, storeCells, add_eq]
      rw [Nat.add_assoc e.o off i]
      exact Sim.store he h1 (ih l' (i + 1) μ he h2)
def loadVarT (i : TInfo) (b off : Nat) : AT Value :=
  bif isAggD i.u then (loadN b off i.info.size).bind fun vs => .ret (.agg vs.toArray) else .load b off .ret
theorem sim_loadVar (hty : TyOk P ty) {t : TypeId} {i : TInfo} (hi : ty t = some i) {b off : Nat} {e : Ent} (he : μ b = some e) : Sim P N w0 VR μ (loadVarT i b off) (loadVar t ⟨e.b, e.o + off, none⟩) := by
  obtain ⟨h1, h2⟩ := hty t i hi
  unfold loadVarT loadVar
  refine Sim.step (run_isAgg h2) ?_
  cases hd : isAggD i.u with
  | true =>
    simp only [cond_true, if_true]
    refine Sim.step (run_sizeOf h1) ?_
    exact Sim.map (sim_loadCells he i.info.size) fun ν vs arr hx h => .agg _ _ (by simpa using h)
  | false =>
    simp only [cond_false, Bool.false_eq_true, if_false]
    have := Sim.load (P := P) (N := N) (w0 := w0) (R' := VR) (b := b) (i := off) (k := .ret) (g := fun v => pure v) he fun v v' hv => Sim.ret hv
    have e2 : (Go.load ⟨e.b, e.o + off, none⟩ >>= fun v => pure v) = Go.load ⟨e.b, e.o + off, none⟩ := Sem.bind_pure' _
    rw [e2] at this
    exact this
def loadT (ty : Nat → Option TInfo) (t : TypeId) : Value → AT Value
  | .pointer (some ⟨b, off, none⟩) => match ty t with
    | some i => loadVarT i b off
    | none => .fail
  | _ => .fail
theorem sim_loadAt (hty : TyOk P ty) (t : TypeId) {v v' : Value} (hv : VR μ v v') : Sim P N w0 VR μ (loadT ty t v) (Instr.loadAt t v') := by
  cases hv with
  | ptr b off e he =>
    simp only [loadT]
    cases hi : ty t with
    | none => exact Sim.fail
    | some i => exact Sim.step (fun w => rfl) (sim_loadVar hty hi he)
  | _ => exact Sim.fail
def storeT (ty : Nat → Option TInfo) (t : TypeId) (v : Value) : Value → AT Unit
  | .pointer (some ⟨b, off, none⟩) => match ty t with
    | some i => bif Nat.beq v.cells.size i.info.size then storeN b off v.cells.toList else .fail
    | none => .fail
  | _ => .fail
theorem VR.cells_size {v v' : Value} (h : VR μ v v') : v'.cells.size = v.cells.size := by
  have := h.cells.length
  simpa using this.symm
theorem sim_storeVar (hty : TyOk P ty) {t : TypeId} {i : TInfo} (hi : ty t = some i) {b off : Nat} {e : Ent} {v v' : Value} (he : μ b = some e) (hv : VR μ v v') (hsz : v.cells.size = i.info.size) :
    Sim P N w0 (fun _ _ _ => True) μ (storeN b off v.cells.toList) (storeVar t ⟨e.b, e.o + off, none⟩ v') := by
  obtain ⟨h1, h2⟩ := hty t i hi
  have := sim_storeCells (P := P) (N := N) (w0 := w0) (b := b) (off := off) (e := e) v.cells.toList v'.cells.toList 0 μ he hv.cells
  refine Sim.congr (fun w => ?_) this
  simp only [storeVar, Sem.run_bind, run_sizeOf h1, Result.andThen_ok, hv.cells_size, hsz]
  simp
theorem sim_storeAt (hty : TyOk P ty) (t : TypeId) {v v' p p' : Value} (hp : VR μ p p') (hv : VR μ v v') : Sim P N w0 (fun _ _ _ => True) μ (storeT ty t v p) (Instr.storeAt t p' v') := by
  cases hp with
  | ptr b off e he =>
    simp only [storeT]
    cases hi : ty t with
    | none => exact Sim.fail
    | some i =>
      dsimp only
      cases hb : Nat.beq v.cells.size i.info.size with
      | false => exact Sim.fail
      | true => exact Sim.step (fun w => rfl) (sim_storeVar hty hi he hv (Nat.eq_of_beq_eq_true hb))
  | _ => exact Sim.fail
/-! ### New blocks -/
def newT (t : TypeId) (vs : List Value) : AT Value := .new (.cells (vs.map some) t 1 false) fun b => .ret (.pointer (some ⟨b, 0, none⟩))
theorem sim_newVar (t : TypeId) {vs : List Value} {arr : Array Value} (h : VRs μ vs arr.toList) : Sim P N w0 VR μ (newT t vs) (newRow t arr >>= fun a => pure (.pointer (some a))) := by
  have := Sim.newExact (P := P) (N := N) (w0 := w0) (R' := VR) (t := t) (k := fun b => .ret (.pointer (some ⟨b, 0, none⟩))) (g := fun a => pure (.pointer (some a))) h fun ν b e hx he ho hs hl => by
    refine Sim.ret ?_
    have := VR.ptr (μ := ν) b 0 e he
    rw [ho] at this
    exact this
  unfold newT
  simpa using this
def allocT (ty : Nat → Option TInfo) (elem : TypeId) : AT Value :=
  match ty elem with
  | some i => match i.info.zero with
    | some z => bif plain z then newT elem z.cells.toList else .fail
    | none => .fail
  | none => .fail
theorem sim_alloc (hty : TyOk P ty) (elem : TypeId) (old : Value) : Sim P N w0 VR μ (allocT ty elem) (Instr.alloc elem true old) := by
  unfold allocT
  cases hi : ty elem with
  | none => exact Sim.fail
  | some i =>
    obtain ⟨h1, h2⟩ := hty elem i hi
    dsimp only
    cases hz : i.info.zero with
    | none => exact Sim.fail
    | some z =>
      dsimp only
      cases hp : plain z with
      | false => exact Sim.fail
      | true =>
        unfold Instr.alloc
        refine Sim.step (run_zeroValue h1 hz) ?_
        have := sim_newVar (P := P) (N := N) (w0 := w0) (μ := μ) elem (plain_refl μ hp).cells
        refine Sim.congr (fun w => ?_) this
        simp [newVar]
def boxT (elem : TypeId) (v : Value) : AT Value := newT elem v.cells.toList
theorem sim_box (elem : TypeId) {v v' : Value} (hv : VR μ v v') : Sim P N w0 VR μ (boxT elem v) (Instr.box elem v') := by
  have := sim_newVar (P := P) (N := N) (w0 := w0) (μ := μ) elem hv.cells
  exact Sim.congr (fun w => by simp [Instr.box, newVar]) this
/-! ### Literals -/
theorem foldSet_rel (off : Nat) : ∀ (l l' : List Value) (k : Nat) (cs cs' : Array Value), VRs μ l l' → VRs μ cs.toList cs'.toList →
    VRs μ ((l.zipIdx k).foldl (fun cs (c, j) => cs.setIfInBounds (off + j) c) cs).toList ((l'.zipIdx k).foldl (fun cs (c, j) => cs.setIfInBounds (off + j) c) cs').toList := by
  intro l
  induction l with
  | nil => intro l' k cs cs' h hc; cases h; exact hc
  | cons v l ih =>
    intro l' k cs cs' h hc
    cases h with
    | cons _ v' _ l' h1 h2 =>
      simp only [List.zipIdx_cons, List.foldl_cons]
      exact ih l' (k + 1) _ _ h2 (by simpa using hc.set h1 (off + k))
theorem fill_rel (place : Nat → Option (Nat × Nat)) (ρ ρ' : Operand → Value) : ∀ (ps : List (Nat × Operand)) (cs cs' r : Array Value), (∀ p ∈ ps, VR μ (ρ p.2) (ρ' p.2)) → VRs μ cs.toList cs'.toList →
    Instr.fill place cs (ps.map fun p => (p.1, ρ p.2)) = some r → ∃ r', Instr.fill place cs' (ps.map fun p => (p.1, ρ' p.2)) = some r' ∧ VRs μ r.toList r'.toList := by
  intro ps
  induction ps with
  | nil => intro cs cs' r _ hc h; simp only [List.map_nil, Instr.fill] at h; cases h; exact ⟨cs', rfl, hc⟩
  | cons p ps ih =>
    intro cs cs' r hp hc h
    simp only [List.map_cons, Instr.fill] at h ⊢
    cases hpl : place p.1 with
    | none => rw [hpl] at h; cases h
    | some q =>
      obtain ⟨off, size⟩ := q
      rw [hpl] at h
      dsimp only at h ⊢
      have hv := hp p (by simp)
      have hlen := hc.length
      simp only [Array.length_toList] at hlen
      rw [hv.cells_size, ← hlen]
      by_cases hg : (decide ((ρ p.2).cells.size ≠ size) || decide (off + (ρ p.2).cells.size > cs.size)) = true
      · rw [if_pos hg] at h
        cases h
      · have hcells := foldSet_rel (μ := μ) off (ρ p.2).cells.toList (ρ' p.2).cells.toList 0 cs cs' hv.cells hc
        have e1 : (ρ p.2).cells.zipIdx.foldl (fun cs (c, j) => cs.setIfInBounds (off + j) c) cs = ((ρ p.2).cells.toList.zipIdx 0).foldl (fun cs (c, j) => cs.setIfInBounds (off + j) c) cs := by
          rw [← Array.foldl_toList]; simp
        have e2 : (ρ' p.2).cells.zipIdx.foldl (fun cs (c, j) => cs.setIfInBounds (off + j) c) cs' = ((ρ' p.2).cells.toList.zipIdx 0).foldl (fun cs (c, j) => cs.setIfInBounds (off + j) c) cs' := by
          rw [← Array.foldl_toList]; simp
        rw [if_neg hg] at h
        rw [if_neg hg]
        rw [e1] at h
        rw [e2]
        exact ih _ _ r (fun q hq => hp q (by simp [hq])) hcells h
end
end Go.Proofs.YtndjhcmgngnfbaaGreatDoor.AM
end
