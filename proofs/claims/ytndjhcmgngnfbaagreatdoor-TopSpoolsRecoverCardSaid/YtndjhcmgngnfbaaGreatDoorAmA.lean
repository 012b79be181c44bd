/- An abstract machine for closed runs: heaps, trees of operations, and their locality. No condition. -/
import GoSem.Claims
set_option linter.unusedSimpArgs false
set_option linter.unusedVariables false
set_option linter.all false
section
namespace Go.Proofs.YtndjhcmgngnfbaaGreatDoor.AM
open Go
/-- A trie over numbers. -/
inductive Tr (α : Type) where
  | leaf : Tr α
  | node (l : Tr α) (v : Option α) (r : Tr α) : Tr α
def Tr.get {α : Type} : Tr α → Nat → Option α
  | .leaf, _ => none
  | .node l v r, n => bif Nat.beq n 0 then v else bif Nat.beq (n % 2) 1 then l.get (n / 2) else r.get (n / 2 - 1)
def Tr.put {α : Type} : Nat → Tr α → Nat → α → Tr α
  | 0, t, _, _ => t
  | f + 1, .leaf, n, x => bif Nat.beq n 0 then .node .leaf (some x) .leaf else bif Nat.beq (n % 2) 1 then .node (Tr.put f .leaf (n / 2) x) none .leaf else .node .leaf none (Tr.put f .leaf (n / 2 - 1) x)
  | f + 1, .node l v r, n, x => bif Nat.beq n 0 then .node l (some x) r else bif Nat.beq (n % 2) 1 then .node (Tr.put f l (n / 2) x) v r else .node l v (Tr.put f r (n / 2 - 1) x)
def Tr.mod {α : Type} : Tr α → Nat → α → Tr α
  | .leaf, _, _ => .leaf
  | .node l v r, n, x => bif Nat.beq n 0 then .node l (some x) r else bif Nat.beq (n % 2) 1 then .node (l.mod (n / 2) x) v r else .node l v (r.mod (n / 2 - 1) x)
theorem beq_false {a b : Nat} (h : ¬ a = b) : Nat.beq a b = false := by
  cases hb : Nat.beq a b with
  | false => rfl
  | true => exact absurd (Nat.eq_of_beq_eq_true hb) h
theorem beq_true {a b : Nat} (h : a = b) : Nat.beq a b = true := by subst h; exact Nat.beq_refl a
theorem Tr.get_node {α : Type} (l : Tr α) (v : Option α) (r : Tr α) (n : Nat) :
    (Tr.node l v r).get n = if n = 0 then v else if n % 2 = 1 then l.get (n / 2) else r.get (n / 2 - 1) := by
  simp only [Tr.get]
  by_cases h0 : n = 0
  · rw [beq_true h0, if_pos h0]; rfl
  · rw [beq_false h0, if_neg h0]
    by_cases h1 : n % 2 = 1
    · rw [beq_true h1, if_pos h1]; rfl
    · rw [beq_false h1, if_neg h1]; rfl
theorem Tr.get_put {α : Type} (x : α) : ∀ (f : Nat) (t : Tr α) (n m : Nat), n + 1 < 2 ^ f → (Tr.put f t n x).get m = if m = n then some x else t.get m := by
  intro f
  induction f with
  | zero => intro t n m h; simp at h
  | succ f ih =>
    intro t n m h
    have hl : ∀ m : Nat, (Tr.leaf : Tr α).get m = none := fun _ => rfl
    rw [Nat.pow_succ] at h
    cases t with
    | leaf =>
      simp only [Tr.put]
      by_cases h0 : n = 0
      · rw [beq_true h0]; simp only [cond_true]; rw [Tr.get_node]
        subst h0
        by_cases hm : m = 0
        · simp [hm]
        · simp [hm, hl]
      · rw [beq_false h0]; simp only [cond_false]
        by_cases h1 : n % 2 = 1
        · rw [beq_true h1]; simp only [cond_true]; rw [Tr.get_node, ih _ _ _ (by omega)]
          simp only [hl]
          by_cases hmn : m = n
          · subst hmn; simp [h0, h1]
          · simp only [hmn, if_false]
            by_cases hm0 : m = 0
            · simp [hm0]
            · by_cases hm1 : m % 2 = 1
              · have : ¬ m / 2 = n / 2 := by omega
                simp [hm0, hm1, this]
              · simp [hm0, hm1]
        · rw [beq_false h1]; simp only [cond_false]; rw [Tr.get_node, ih _ _ _ (by omega)]
          simp only [hl]
          by_cases hmn : m = n
          · subst hmn; simp [h0, h1]
          · simp only [hmn, if_false]
            by_cases hm0 : m = 0
            · simp [hm0]
            · by_cases hm1 : m % 2 = 1
              · simp [hm0, hm1]
              · have : ¬ m / 2 - 1 = n / 2 - 1 := by omega
                simp [hm0, hm1, this]
    | node l v r =>
      simp only [Tr.put]
      by_cases h0 : n = 0
      · rw [beq_true h0]; simp only [cond_true]; rw [Tr.get_node, Tr.get_node]
        subst h0
        by_cases hm : m = 0
        · simp [hm]
        · simp [hm]
      · rw [beq_false h0]; simp only [cond_false]
        by_cases h1 : n % 2 = 1
        · rw [beq_true h1]; simp only [cond_true]; rw [Tr.get_node, Tr.get_node, ih _ _ _ (by omega)]
          by_cases hmn : m = n
          · subst hmn; simp [h0, h1]
          · simp only [hmn, if_false]
            by_cases hm0 : m = 0
            · simp [hm0]
            · by_cases hm1 : m % 2 = 1
              · have : ¬ m / 2 = n / 2 := by omega
                simp [hm0, hm1, this]
              · simp [hm0, hm1]
        · rw [beq_false h1]; simp only [cond_false]; rw [Tr.get_node, Tr.get_node, ih _ _ _ (by omega)]
          by_cases hmn : m = n
          · subst hmn; simp [h0, h1]
          · simp only [hmn, if_false]
            by_cases hm0 : m = 0
            · simp [hm0]
            · by_cases hm1 : m % 2 = 1
              · simp [hm0, hm1]
              · have : ¬ m / 2 - 1 = n / 2 - 1 := by omega
                simp [hm0, hm1, this]
theorem Tr.get_mod {α : Type} (x : α) : ∀ (t : Tr α) (n m : Nat), (t.get n).isSome = true → (t.mod n x).get m = if m = n then some x else t.get m := by
  intro t
  induction t with
  | leaf => intro n m h; simp [Tr.get] at h
  | node l v r ihl ihr =>
    intro n m h
    simp only [Tr.mod]
    rw [Tr.get_node] at h
    by_cases h0 : n = 0
    · rw [beq_true h0]; simp only [cond_true]; rw [Tr.get_node, Tr.get_node]
      subst h0
      by_cases hm : m = 0
      · simp [hm]
      · simp [hm]
    · rw [beq_false h0]; simp only [cond_false]
      by_cases h1 : n % 2 = 1
      · simp only [h0, h1, if_true, if_false] at h
        rw [beq_true h1]; simp only [cond_true]; rw [Tr.get_node, Tr.get_node, ihl _ _ h]
        by_cases hmn : m = n
        · subst hmn; simp [h0, h1]
        · simp only [hmn, if_false]
          by_cases hm0 : m = 0
          · simp [hm0]
          · by_cases hm1 : m % 2 = 1
            · have : ¬ m / 2 = n / 2 := by omega
              simp [hm0, hm1, this]
            · simp [hm0, hm1]
      · simp only [h0, h1, if_false] at h
        rw [beq_false h1]; simp only [cond_false]; rw [Tr.get_node, Tr.get_node, ihr _ _ h]
        by_cases hmn : m = n
        · subst hmn; simp [h0, h1]
        · simp only [hmn, if_false]
          by_cases hm0 : m = 0
          · simp [hm0]
          · by_cases hm1 : m % 2 = 1
            · simp [hm0, hm1]
            · have : ¬ m / 2 - 1 = n / 2 - 1 := by omega
              simp [hm0, hm1, this]
/-- A block of the abstract heap: cells (none: no longer known), with the type, a kind (0: read only, 1: exact, s + 2: may be longer behind its end, elements of s cells), and whether what lies behind its end is free; or another object. -/
inductive Blk where
  | cells (c : List (Option Value)) (elem : TypeId) (kind : Nat) (spare : Bool)
  | obj (o : Obj)
  deriving Inhabited
abbrev Loc := Nat × Nat
structure St where
  h : Tr Blk
  nx : Nat
  rd : List Loc
  wr : List Loc
/-- What a place of the heap holds. -/
inductive LV where
  | none
  | shape (len : Nat) (elem : TypeId) (kind : Nat)
  | obj (o : Obj)
  | spare (b : Bool)
  | cell (v : Option (Option Value))
def lookBlk : Option Blk → Nat → LV
  | .none, _ => .none
  | some (.cells c e k _), 0 => .shape c.length e k
  | some (.cells _ _ _ sp), 1 => .spare sp
  | some (.cells c _ _ _), i + 2 => .cell c[i]?
  | some (.obj o), 0 => .obj o
  | some (.obj _), _ + 1 => .none
def look (h : Tr Blk) (l : Loc) : LV := lookBlk (h.get l.1) l.2
theorem blk_ext {a b : Option Blk} (h : ∀ i, lookBlk a i = lookBlk b i) : a = b := by
  have h0 := h 0
  have h1 := h 1
  cases a with
  | none =>
    cases b with
    | none => rfl
    | some b => cases b <;> simp [lookBlk] at h0
  | some a =>
    cases b with
    | none => cases a <;> simp [lookBlk] at h0
    | some b =>
      cases a with
      | cells c e k sp =>
        cases b with
        | cells c' e' k' sp' =>
          simp only [lookBlk, LV.shape.injEq, LV.spare.injEq] at h0 h1
          obtain ⟨hl, rfl, rfl⟩ := h0
          subst h1
          have hc : c = c' := by
            apply List.ext_getElem? 
            intro i
            have := h (i + 2)
            simpa [lookBlk] using this
          rw [hc]
        | obj o => simp [lookBlk] at h0
      | obj o =>
        cases b with
        | cells c' e' k' sp' => simp [lookBlk] at h0
        | obj o' => simp only [lookBlk, LV.obj.injEq] at h0; rw [h0]
theorem look_ext {g h : Tr Blk} (hl : ∀ l, look g l = look h l) (b : Nat) : g.get b = h.get b := blk_ext fun i => hl (b, i)
/-- May this value lie in one cell? -/
def oneCell : Value → Bool
  | .agg _ => false
  | .tuple _ => false
  | _ => true
/-- A computation over the abstract heap. -/
inductive AT (α : Type) : Type where
  | ret (a : α) : AT α
  | fail : AT α
  | load (b i : Nat) (k : Value → AT α) : AT α
  | shape (b : Nat) (k : Nat → TypeId → Nat → AT α) : AT α
  | store (b i : Nat) (v : Value) (k : AT α) : AT α
  | take (b off : Nat) (k : List Value → TypeId → Nat → AT α) : AT α
  | new (x : Blk) (k : Nat → AT α) : AT α
  | getObj (b : Nat) (k : Obj → AT α) : AT α
  | setObj (b : Nat) (o : Obj) (k : AT α) : AT α
def allSome : List (Option Value) → Option (List Value)
  | [] => some []
  | some v :: l => match allSome l with
    | some vs => some (v :: vs)
    | none => none
  | none :: _ => none
def cutAt (off : Nat) (c : List (Option Value)) : List (Option Value) := c.take off ++ List.replicate (c.length - off) none
def locs (b off n : Nat) : List Loc := (List.range' off (n - off)).map fun i => (b, i + 2)
namespace AT
def bind {α β : Type} : AT α → (α → AT β) → AT β
  | .ret a, f => f a
  | .fail, _ => .fail
  | .load b i k, f => .load b i fun v => (k v).bind f
  | .shape b k, f => .shape b fun n e kd => (k n e kd).bind f
  | .store b i v k, f => .store b i v (k.bind f)
  | .take b off k, f => .take b off fun vs t kd => (k vs t kd).bind f
  | .new x k, f => .new x fun r => (k r).bind f
  | .getObj b k, f => .getObj b fun o => (k o).bind f
  | .setObj b o k, f => .setObj b o (k.bind f)
def run {α : Type} : AT α → St → Option (α × St)
  | .ret a, s => some (a, s)
  | .fail, _ => none
  | .load b i k, s =>
    match s.h.get b with
    | some (.cells c _ _ _) =>
      match c[i]? with
      | some (some v) => (k v).run { s with rd := (b, i + 2) :: s.rd }
      | _ => none
    | _ => none
  | .shape b k, s =>
    match s.h.get b with
    | some (.cells c e kd _) => (k c.length e kd).run { s with rd := (b, 0) :: s.rd }
    | _ => none
  | .store b i v k, s =>
    match s.h.get b with
    | some (.cells c e kd sp) =>
      match c[i]? with
      | some (some _) => bif Nat.ble 1 kd && oneCell v then k.run { s with h := s.h.mod b (.cells (c.set i (some v)) e kd sp), rd := (b, i + 2) :: (b, 0) :: s.rd, wr := (b, i + 2) :: s.wr }
        else none
      | _ => none
    | _ => none
  | .take b off k, s =>
    match s.h.get b with
    | some (.cells c e kd true) =>
      match allSome (c.drop off) with
      | some vs => bif Nat.ble 2 kd && Nat.ble off c.length then
          (k vs e kd).run { s with h := s.h.mod b (.cells (cutAt off c) e kd false), rd := (b, 0) :: (b, 1) :: locs b off c.length ++ s.rd, wr := (b, 1) :: locs b off c.length ++ s.wr }
        else none
      | none => none
    | _ => none
  | .new x k, s =>
    match s.h.get s.nx with
    | some _ => none
    | none => bif Nat.blt s.nx 1000000000000 then (k s.nx).run { s with h := Tr.put 60 s.h s.nx x, nx := s.nx + 1 } else none
  | .getObj b k, s =>
    match s.h.get b with
    | some (.obj o) => (k o).run { s with rd := (b, 0) :: s.rd }
    | _ => none
  | .setObj b o k, s =>
    match s.h.get b with
    | some (.obj _) => k.run { s with h := s.h.mod b (.obj o), rd := (b, 0) :: s.rd, wr := (b, 0) :: s.wr }
    | _ => none
end AT
/-- A computation on states. -/
abbrev M (α : Type) := St → Option (α × St)
def M.bind {α β : Type} (m : M α) (f : α → M β) : M β := fun s =>
  match m s with
  | some (a, s') => f a s'
  | none => none
theorem AT.run_bind {α β : Type} (f : α → AT β) : ∀ (t : AT α) (s : St), (t.bind f).run s = M.bind t.run (fun a => (f a).run) s := by
  intro t
  induction t with
  | ret a => intro s; rfl
  | fail => intro s; rfl
  | load b i k ih =>
    intro s
    simp only [AT.bind, AT.run, M.bind]
    cases s.h.get b with
    | none => rfl
    | some x =>
      cases x with
      | obj o => rfl
      | cells c e kd sp =>
        dsimp only
        cases hc : c[i]? with
        | none => rfl
        | some y =>
          cases y with
          | none => rfl
          | some v => exact ih v _
  | shape b k ih =>
    intro s
    simp only [AT.bind, AT.run, M.bind]
    cases s.h.get b with
    | none => rfl
    | some x =>
      cases x with
      | obj o => rfl
      | cells c e kd sp => exact ih _ _ _ _
  | store b i v k ih =>
    intro s
    simp only [AT.bind, AT.run, M.bind]
    cases s.h.get b with
    | none => rfl
    | some x =>
      cases x with
      | obj o => rfl
      | cells c e kd sp =>
        dsimp only
        cases c[i]? with
        | none => rfl
        | some y =>
          cases y with
          | none => rfl
          | some u =>
            dsimp only
            cases Nat.ble 1 kd && oneCell v with
            | false => rfl
            | true => exact ih _
  | take b off k ih =>
    intro s
    simp only [AT.bind, AT.run, M.bind]
    cases s.h.get b with
    | none => rfl
    | some x =>
      cases x with
      | obj o => rfl
      | cells c e kd sp =>
        cases sp with
        | false => rfl
        | true =>
          dsimp only
          cases allSome (c.drop off) with
          | none => rfl
          | some vs =>
            dsimp only
            cases Nat.ble 2 kd && Nat.ble off c.length with
            | false => rfl
            | true => exact ih _ _ _ _
  | new x k ih =>
    intro s
    simp only [AT.bind, AT.run, M.bind]
    cases s.h.get s.nx with
    | some y => rfl
    | none =>
      dsimp only
      cases Nat.blt s.nx 1000000000000 with
      | false => rfl
      | true => exact ih _ _
  | getObj b k ih =>
    intro s
    simp only [AT.bind, AT.run, M.bind]
    cases s.h.get b with
    | none => rfl
    | some x =>
      cases x with
      | obj o => exact ih _ _
      | cells c e kd sp => rfl
  | setObj b o k ih =>
    intro s
    simp only [AT.bind, AT.run, M.bind]
    cases s.h.get b with
    | none => rfl
    | some x =>
      cases x with
      | obj o => exact ih _
      | cells c e kd sp => rfl
end Go.Proofs.YtndjhcmgngnfbaaGreatDoor.AM
end
/- Locality of the abstract machine: a computation depends on what it reads alone. No condition. -/
section
namespace Go.Proofs.YtndjhcmgngnfbaaGreatDoor.AM
open Go
/-- What a computation did: it read R, wrote W, and made the blocks from s.nx to s'.nx; it does the same from each state that agrees on R and lacks these blocks. -/
structure Did {α : Type} (m : M α) (s : St) (r : α) (s' : St) (R W : List Loc) : Prop where
  rd : s'.rd = R ++ s.rd
  wr : s'.wr = W ++ s.wr
  nx : s.nx ≤ s'.nx
  mono : ∀ b, s'.h.get b = none → s.h.get b = none
  frame : ∀ l, l ∉ W → ¬ (s.nx ≤ l.1 ∧ l.1 < s'.nx) → look s'.h l = look s.h l
  fresh : ∀ b, s.nx ≤ b → b < s'.nx → s.h.get b = none
  again : ∀ t : St, t.nx = s.nx → (∀ l ∈ R, look t.h l = look s.h l) → (∀ b, s.nx ≤ b → b < s'.nx → t.h.get b = none) →
    ∃ t', m t = some (r, t') ∧ t'.nx = s'.nx ∧ t'.rd = R ++ t.rd ∧ t'.wr = W ++ t.wr ∧
      ∀ l, look t'.h l = if l ∈ W ∨ (s.nx ≤ l.1 ∧ l.1 < s'.nx) then look s'.h l else look t.h l
def Local {α : Type} (m : M α) : Prop := ∀ s r s', m s = some (r, s') → ∃ R W, Did m s r s' R W
theorem Local.fail {α : Type} : Local (fun _ => none : M α) := fun _ _ _ h => by cases h
theorem not_nil_or {P : Prop} {l : Loc} (h : ¬ P) : ¬ (l ∈ ([] : List Loc) ∨ P) := fun h' => h'.elim (fun h => by cases h) h
theorem Local.ret {α : Type} (a : α) : Local (fun s => some (a, s) : M α) := by
  intro s r s' h
  cases h
  exact ⟨[], [], rfl, rfl, Nat.le_refl _, fun _ h => h, fun _ _ _ => rfl, fun b h1 h2 => by omega, fun t ht _ _ => ⟨t, rfl, ht, rfl, rfl, fun l => by
    rw [if_neg (not_nil_or (by omega))]⟩⟩
theorem look_none {h : Tr Blk} {b i : Nat} (hb : h.get b = none) : look h (b, i) = .none := by simp [look, hb, lookBlk]
theorem get_none {h : Tr Blk} {b : Nat} (hb : ∀ i, look h (b, i) = .none) : h.get b = none := blk_ext fun i => by
  have := hb i
  simpa [look, lookBlk] using this
theorem Did.bind {α β : Type} {m : M α} {f : α → M β} {s s1 s2 : St} {a : α} {r : β} {R1 W1 R2 W2 : List Loc} (h1 : Did m s a s1 R1 W1) (h2 : Did (f a) s1 r s2 R2 W2) :
    Did (M.bind m f) s r s2 (R2 ++ R1) (W2 ++ W1) := by
  have n1 := h1.nx
  have n2 := h2.nx
  refine ⟨by rw [h2.rd, h1.rd, List.append_assoc], by rw [h2.wr, h1.wr, List.append_assoc], Nat.le_trans n1 n2, fun b hb => h1.mono b (h2.mono b hb), ?_, ?_, ?_⟩
  · intro l hl hn
    rw [List.mem_append] at hl
    rw [h2.frame l (fun h => hl (.inl h)) (by omega), h1.frame l (fun h => hl (.inr h)) (by omega)]
  · intro b hb hb'
    by_cases hlt : b < s1.nx
    · exact h1.fresh b hb hlt
    · exact h1.mono b (h2.fresh b (by omega) hb')
  · intro t ht hR hf
    obtain ⟨t1, e1, x1, r1, w1, l1⟩ := h1.again t ht (fun l hl => hR l (List.mem_append.2 (.inr hl))) (fun b hb hb' => hf b hb (by omega))
    have key : ∀ l ∈ R2, look t1.h l = look s1.h l := by
      intro l hl
      rw [l1 l]
      by_cases hc : l ∈ W1 ∨ (s.nx ≤ l.1 ∧ l.1 < s1.nx)
      · rw [if_pos hc]
      · rw [if_neg hc, hR l (List.mem_append.2 (.inl hl)), h1.frame l (fun h => hc (.inl h)) (fun h => hc (.inr h))]
    have hfr : ∀ b, s1.nx ≤ b → b < s2.nx → t1.h.get b = none := by
      intro b hb hb'
      refine get_none fun i => ?_
      rw [l1 (b, i)]
      by_cases hc : (b, i) ∈ W1 ∨ (s.nx ≤ b ∧ b < s1.nx)
      · rw [if_pos hc]; exact look_none (h2.fresh b hb hb')
      · rw [if_neg hc]; exact look_none (hf b (by omega) hb')
    obtain ⟨t2, e2, x2, r2, w2, l2⟩ := h2.again t1 x1 key hfr
    refine ⟨t2, by simp only [M.bind, e1, e2], x2, by rw [r2, r1, List.append_assoc], by rw [w2, w1, List.append_assoc], fun l => ?_⟩
    rw [l2 l]
    by_cases hc2 : l ∈ W2 ∨ (s1.nx ≤ l.1 ∧ l.1 < s2.nx)
    · rw [if_pos hc2, if_pos]
      rcases hc2 with h | h
      · exact .inl (List.mem_append.2 (.inl h))
      · exact .inr (by omega)
    · rw [if_neg hc2, l1 l]
      by_cases hc1 : l ∈ W1 ∨ (s.nx ≤ l.1 ∧ l.1 < s1.nx)
      · rw [if_pos hc1, if_pos, h2.frame l (fun h => hc2 (.inl h)) (fun h => hc2 (.inr h))]
        rcases hc1 with h | h
        · exact .inl (List.mem_append.2 (.inr h))
        · exact .inr (by omega)
      · rw [if_neg hc1, if_neg]
        rintro (h | h)
        · rcases List.mem_append.1 h with h | h
          · exact hc2 (.inl h)
          · exact hc1 (.inl h)
        · by_cases hlt : l.1 < s1.nx
          · exact hc1 (.inr ⟨h.1, hlt⟩)
          · exact hc2 (.inr ⟨by omega, h.2⟩)
theorem Local.bind {α β : Type} {m : M α} {f : α → M β} (hm : Local m) (hf : ∀ a, Local (f a)) : Local (M.bind m f) := by
  intro s r s' h
  simp only [M.bind] at h
  cases hm1 : m s with
  | none => rw [hm1] at h; cases h
  | some p =>
    obtain ⟨a, s1⟩ := p
    rw [hm1] at h
    obtain ⟨R1, W1, h1⟩ := hm s a s1 hm1
    obtain ⟨R2, W2, h2⟩ := hf a s1 r s' h
    exact ⟨_, _, h1.bind h2⟩
/-- A primitive that only reads. -/
theorem Local.reads {α : Type} (L : List Loc) (g : (Loc → LV) → Option α) (hg : ∀ x y : Loc → LV, (∀ l ∈ L, x l = y l) → g x = g y) :
    Local (fun s => (g (look s.h)).map fun a => (a, { s with rd := L ++ s.rd }) : M α) := by
  intro s r s' h
  simp only [Option.map_eq_some_iff] at h
  obtain ⟨a, ha, he⟩ := h
  cases he
  refine ⟨L, [], rfl, rfl, Nat.le_refl _, fun _ h => h, fun _ _ _ => rfl, fun b h1 h2 => by dsimp only at h2; omega, fun t ht hR _ => ⟨{ t with rd := L ++ t.rd }, ?_, ht, rfl, rfl, fun l => ?_⟩⟩
  · rw [hg (look t.h) (look s.h) hR, ha]; rfl
  · rw [if_neg (not_nil_or (by dsimp only; omega))]
theorem some_of_shape {h : Tr Blk} {b n e k : Nat} (hs : look h (b, 0) = .shape n e k) : ∃ c sp, h.get b = some (.cells c e k sp) ∧ c.length = n := by
  unfold look at hs
  cases hb : h.get b with
  | none => rw [hb] at hs; simp [lookBlk] at hs
  | some x =>
    cases x with
    | obj o => rw [hb] at hs; simp [lookBlk] at hs
    | cells c e' k' sp =>
      rw [hb] at hs
      simp only [lookBlk, LV.shape.injEq] at hs
      obtain ⟨h1, rfl, rfl⟩ := hs
      exact ⟨c, sp, rfl, h1⟩
theorem look_cells {h : Tr Blk} {b : Nat} {c : List (Option Value)} {e k : Nat} {sp : Bool} (hb : h.get b = some (.cells c e k sp)) :
    look h (b, 0) = .shape c.length e k ∧ look h (b, 1) = .spare sp ∧ ∀ i, look h (b, i + 2) = .cell c[i]? := by
  simp [look, hb, lookBlk]
theorem look_mod_ne {h : Tr Blk} {b : Nat} {x : Blk} (hb : (h.get b).isSome = true) {l : Loc} (hl : l.1 ≠ b) : look (h.mod b x) l = look h l := by
  simp only [look]; rw [Tr.get_mod _ _ _ _ hb, if_neg hl]
theorem look_mod_eq {h : Tr Blk} {b : Nat} {x : Blk} (hb : (h.get b).isSome = true) (i : Nat) : look (h.mod b x) (b, i) = lookBlk (some x) i := by
  simp only [look]; rw [Tr.get_mod _ _ _ _ hb, if_pos rfl]
theorem mod_mono {h : Tr Blk} {b : Nat} {x : Blk} (hb : (h.get b).isSome = true) (b' : Nat) (hn : (h.mod b x).get b' = none) : h.get b' = none := by
  rw [Tr.get_mod _ _ _ _ hb] at hn
  by_cases e : b' = b
  · rw [if_pos e] at hn; cases hn
  · rwa [if_neg e] at hn
/-- A write of one cell (or the end of knowing it). -/
theorem did_cell {s : St} {b i : Nat} {v : Option Value} {c : List (Option Value)} {e k : Nat} {sp : Bool} (hb : s.h.get b = some (.cells c e k sp)) (hi : i < c.length)
    (m : M Unit) (hm : ∀ (t : St) (c' : List (Option Value)) (sp' : Bool), t.h.get b = some (.cells c' e k sp') → c'.length = c.length → c'[i]? = c[i]? →
      m t = some ((), { t with h := t.h.mod b (.cells (c'.set i v) e k sp'), rd := (b, i + 2) :: (b, 0) :: t.rd, wr := (b, i + 2) :: t.wr })) :
    Did m s () { s with h := s.h.mod b (.cells (c.set i v) e k sp), rd := (b, i + 2) :: (b, 0) :: s.rd, wr := (b, i + 2) :: s.wr } [(b, i + 2), (b, 0)] [(b, i + 2)] := by
  have hbs : (s.h.get b).isSome = true := by rw [hb]; rfl
  refine ⟨rfl, rfl, Nat.le_refl _, fun b' => mod_mono hbs b', ?_, fun b h1 h2 => by dsimp only at h2; omega, ?_⟩
  · intro l hl _
    obtain ⟨lb, li⟩ := l
    by_cases e : lb = b
    · subst e
      dsimp only
      rw [look_mod_eq hbs]
      obtain ⟨h0, h1, h2⟩ := look_cells hb
      match li with
      | 0 => rw [h0]; simp [lookBlk]
      | 1 => rw [h1]; simp [lookBlk]
      | j + 2 =>
        rw [h2]
        have hne : i ≠ j := by
          rintro rfl
          exact hl (List.mem_singleton.2 rfl)
        simp [lookBlk, List.getElem?_set_ne hne]
    · exact look_mod_ne hbs e
  · intro t ht hR _
    have h0 := hR (b, 0) (by simp)
    have h1 := hR (b, i + 2) (by simp)
    rw [(look_cells hb).1] at h0
    rw [(look_cells hb).2.2] at h1
    obtain ⟨c', sp', hb', hlen⟩ := some_of_shape h0
    rw [(look_cells hb').2.2] at h1
    have hbs' : (t.h.get b).isSome = true := by rw [hb']; rfl
    refine ⟨_, hm t c' sp' hb' hlen (by simpa using h1), ht, rfl, rfl, fun l => ?_⟩
    obtain ⟨lb, li⟩ := l
    by_cases e : lb = b
    · subst e
      dsimp only
      rw [look_mod_eq hbs', look_mod_eq hbs]
      obtain ⟨g0, g1, g2⟩ := look_cells hb'
      match li with
      | 0 =>
        rw [if_neg]
        · rw [g0]; simp [lookBlk]
        · rintro (h | h)
          · simp at h
          · omega
      | 1 =>
        rw [if_neg]
        · rw [g1]; simp [lookBlk]
        · rintro (h | h)
          · simp at h
          · omega
      | j + 2 =>
        by_cases hj : j = i
        · subst hj
          rw [if_pos (.inl (List.mem_singleton.2 rfl))]
          simp [lookBlk, hi, hlen]
        · rw [if_neg]
          · rw [g2]; simp [lookBlk, List.getElem?_set_ne (Ne.symm hj)]
          · rintro (h | h)
            · simp at h; exact hj h
            · omega
    · dsimp only
      rw [look_mod_ne hbs' e, if_neg]
      rintro (h | h)
      · simp at h; exact e h.1
      · omega
def gCell (l : Loc) (x : Loc → LV) : Option Value :=
  match x l with
  | .cell (some (some v)) => some v
  | _ => none
def gShape (l : Loc) (x : Loc → LV) : Option (Nat × TypeId × Nat) :=
  match x l with
  | .shape n e kd => some (n, e, kd)
  | _ => none
def gObj (l : Loc) (x : Loc → LV) : Option Obj :=
  match x l with
  | .obj o => some o
  | _ => none
theorem mem_locs {b off n j : Nat} : (b, j + 2) ∈ locs b off n ↔ off ≤ j ∧ j < n := by
  simp only [locs, List.mem_map, Prod.mk.injEq, List.mem_range'_1]
  constructor
  · rintro ⟨a, h, _, h2⟩; omega
  · intro h; exact ⟨j, by omega, by simp⟩
theorem cutAt_get {off : Nat} {c : List (Option Value)} (h : off ≤ c.length) (j : Nat) : (cutAt off c)[j]? = if off ≤ j ∧ j < c.length then some none else c[j]? := by
  unfold cutAt
  by_cases hj : j < off
  · rw [List.getElem?_append_left (by simp; omega), List.getElem?_take_of_lt hj, if_neg (by omega)]
  · rw [List.getElem?_append_right (by simp; omega)]
    simp only [List.length_take, Nat.min_eq_left h]
    by_cases hl : j < c.length
    · rw [if_pos (by omega), List.getElem?_replicate, if_pos (by omega)]
    · rw [if_neg (by omega), List.getElem?_eq_none (by simp; omega), List.getElem?_eq_none (by omega)]
theorem AT.local_run {α : Type} : ∀ t : AT α, Local t.run := by
  intro t
  induction t with
  | ret a => exact Local.ret a
  | fail => exact Local.fail
  | load b i k ih =>
    have : (AT.load b i k).run = M.bind (fun s => (gCell (b, i + 2) (look s.h)).map fun a => (a, { s with rd := [(b, i + 2)] ++ s.rd })) (fun v => (k v).run) := by
      funext s
      simp only [AT.run, M.bind, gCell, gShape, gObj, look]
      cases s.h.get b with
      | none => rfl
      | some x =>
        cases x with
        | obj o => rfl
        | cells c e kd sp =>
          simp only [lookBlk]
          cases c[i]? with
          | none => rfl
          | some y => cases y <;> rfl
    rw [this]
    refine Local.bind (Local.reads [(b, i + 2)] (gCell (b, i + 2)) fun x y h => ?_) ih
    simp only [gCell, gShape, gObj, h _ (List.mem_singleton.2 rfl)]
  | shape b k ih =>
    have : (AT.shape b k).run = M.bind (fun s => (gShape (b, 0) (look s.h)).map fun a => (a, { s with rd := [(b, 0)] ++ s.rd })) (fun p => (k p.1 p.2.1 p.2.2).run) := by
      funext s
      simp only [AT.run, M.bind, gCell, gShape, gObj, look]
      cases s.h.get b with
      | none => rfl
      | some x => cases x <;> rfl
    rw [this]
    refine Local.bind (Local.reads [(b, 0)] (gShape (b, 0)) fun x y h => ?_) fun p => ih _ _ _
    simp only [gCell, gShape, gObj, h _ (List.mem_singleton.2 rfl)]
  | getObj b k ih =>
    have : (AT.getObj b k).run = M.bind (fun s => (gObj (b, 0) (look s.h)).map fun a => (a, { s with rd := [(b, 0)] ++ s.rd })) (fun p => (k p).run) := by
      funext s
      simp only [AT.run, M.bind, gCell, gShape, gObj, look]
      cases s.h.get b with
      | none => rfl
      | some x => cases x <;> rfl
    rw [this]
    refine Local.bind (Local.reads [(b, 0)] (gObj (b, 0)) fun x y h => ?_) fun p => ih _
    simp only [gCell, gShape, gObj, h _ (List.mem_singleton.2 rfl)]
  | store b i v k ih =>
    have : (AT.store b i v k).run = M.bind (fun s => (AT.store b i v (.ret ())).run s) (fun _ => k.run) := by
      funext s
      have := AT.run_bind (fun _ : Unit => k) (AT.store b i v (.ret ())) s
      exact this
    rw [this]
    refine Local.bind ?_ fun _ => ih
    intro s r s' h
    simp only [AT.run] at h
    cases hb : s.h.get b with
    | none => rw [hb] at h; cases h
    | some x =>
      cases x with
      | obj o => rw [hb] at h; cases h
      | cells c e kd sp =>
        rw [hb] at h
        dsimp only at h
        cases hci : c[i]? with
        | none => rw [hci] at h; cases h
        | some y =>
          rw [hci] at h
          cases y with
          | none => cases h
          | some u =>
            dsimp only at h
            cases hg : Nat.ble 1 kd && oneCell v with
            | false => rw [hg] at h; cases h
            | true =>
              rw [hg] at h
              cases h
              refine ⟨_, _, did_cell hb (List.getElem?_eq_some_iff.1 hci).1 _ fun t c' sp' hb' hlen hc' => ?_⟩
              simp only [AT.run, hb', hc', hci, hg, cond_true]
  | take b off k ih =>
    have : (AT.take b off k).run = M.bind (fun s => (AT.take b off fun vs t kd => .ret (vs, t, kd)).run s) (fun p => (k p.1 p.2.1 p.2.2).run) := by
      funext s
      have := AT.run_bind (fun p : List Value × TypeId × Nat => k p.1 p.2.1 p.2.2) (AT.take b off fun vs t kd => .ret (vs, t, kd)) s
      exact this
    rw [this]
    refine Local.bind ?_ fun p => ih _ _ _
    intro s r s' h
    simp only [AT.run] at h
    cases hb : s.h.get b with
    | none => rw [hb] at h; cases h
    | some x =>
      cases x with
      | obj o => rw [hb] at h; cases h
      | cells c e kd sp =>
        rw [hb] at h
        cases sp with
        | false => cases h
        | true =>
          dsimp only at h
          cases hv : allSome (c.drop off) with
          | none => rw [hv] at h; cases h
          | some vs =>
            rw [hv] at h
            dsimp only at h
            cases hg : Nat.ble 2 kd && Nat.ble off c.length with
            | false => rw [hg] at h; cases h
            | true =>
              rw [hg, cond_true] at h
              cases h
              have hbs : (s.h.get b).isSome = true := by rw [hb]; rfl
              have hoff : off ≤ c.length := by simp only [Bool.and_eq_true, Nat.ble_eq] at hg; exact hg.2
              refine ⟨(b, 0) :: (b, 1) :: locs b off c.length, (b, 1) :: locs b off c.length, rfl, rfl, Nat.le_refl _, fun b' => mod_mono hbs b', ?_, fun b h1 h2 => by dsimp only at h2; omega, ?_⟩
              · intro l hl _
                obtain ⟨lb, li⟩ := l
                by_cases ee : lb = b
                · subst ee
                  dsimp only
                  rw [look_mod_eq hbs]
                  obtain ⟨h0, h1, h2⟩ := look_cells hb
                  match li with
                  | 0 => rw [h0]; simp [lookBlk, cutAt]; omega
                  | 1 => exact absurd (by simp) hl
                  | j + 2 =>
                    rw [h2]
                    simp only [lookBlk]
                    have hn : ¬ (off ≤ j ∧ j < c.length) := fun hj => hl (List.mem_cons_of_mem _ (mem_locs.2 hj))
                    rw [cutAt_get hoff, if_neg hn]
                · exact look_mod_ne hbs ee
              · intro t ht hR _
                have h0 := hR (b, 0) (by simp)
                have h1 := hR (b, 1) (by simp)
                rw [(look_cells hb).1] at h0
                rw [(look_cells hb).2.1] at h1
                obtain ⟨c', sp', hb', hlen⟩ := some_of_shape h0
                rw [(look_cells hb').2.1] at h1
                cases h1
                have hc' : ∀ j, off ≤ j → j < c.length → c'[j]? = c[j]? := by
                  intro j h1 h2
                  have := hR (b, j + 2) (List.mem_cons_of_mem _ (List.mem_cons_of_mem _ (mem_locs.2 ⟨h1, h2⟩)))
                  rw [(look_cells hb').2.2, (look_cells hb).2.2] at this
                  simpa using this
                have hd : c'.drop off = c.drop off := by
                  apply List.ext_getElem?
                  intro i
                  rw [List.getElem?_drop, List.getElem?_drop]
                  by_cases hi : off + i < c.length
                  · exact hc' _ (by omega) hi
                  · rw [List.getElem?_eq_none (by omega), List.getElem?_eq_none (by omega)]
                have hbs' : (t.h.get b).isSome = true := by rw [hb']; rfl
                refine ⟨{ t with h := t.h.mod b (.cells (cutAt off c') e kd false), rd := (b, 0) :: (b, 1) :: locs b off c.length ++ t.rd, wr := (b, 1) :: locs b off c.length ++ t.wr }, ?_, ht, rfl, rfl, fun l => ?_⟩
                · simp only [AT.run, hb', hd, hv, hlen, hg, cond_true]
                obtain ⟨lb, li⟩ := l
                by_cases ee : lb = b
                · subst ee
                  dsimp only
                  rw [look_mod_eq hbs', look_mod_eq hbs]
                  obtain ⟨g0, g1, g2⟩ := look_cells hb'
                  match li with
                  | 0 =>
                    rw [if_neg]
                    · rw [g0]; simp [lookBlk, cutAt]; omega
                    · rintro (h | h)
                      · simp [locs] at h
                      · omega
                  | 1 => rw [if_pos (.inl (by simp))]; rfl
                  | j + 2 =>
                    by_cases hj : off ≤ j ∧ j < c.length
                    · rw [if_pos (.inl (List.mem_cons_of_mem _ (mem_locs.2 hj)))]
                      simp only [lookBlk]
                      rw [cutAt_get (by omega), cutAt_get hoff, if_pos (by omega), if_pos hj]
                    · rw [if_neg]
                      · rw [g2]
                        simp only [lookBlk]
                        rw [cutAt_get (by omega), if_neg (by omega)]
                      · rintro (h | h)
                        · simp only [List.mem_cons, Prod.mk.injEq] at h
                          rcases h with h | h
                          · omega
                          · exact hj (mem_locs.1 h)
                        · omega
                · dsimp only
                  rw [look_mod_ne hbs' ee, if_neg]
                  rintro (h | h)
                  · simp only [List.mem_cons, Prod.mk.injEq, locs, List.mem_map] at h
                    rcases h with h | ⟨_, _, h, _⟩
                    · exact ee h.1
                    · exact ee h.symm
                  · omega
  | setObj b o k ih =>
    have : (AT.setObj b o k).run = M.bind (fun s => (AT.setObj b o (.ret ())).run s) (fun _ => k.run) := by
      funext s
      have := AT.run_bind (fun _ : Unit => k) (AT.setObj b o (.ret ())) s
      exact this
    rw [this]
    refine Local.bind ?_ fun _ => ih
    intro s r s' h
    simp only [AT.run] at h
    cases hb : s.h.get b with
    | none => rw [hb] at h; cases h
    | some x =>
      cases x with
      | cells c e kd sp => rw [hb] at h; cases h
      | obj o0 =>
        rw [hb] at h
        cases h
        have hbs : (s.h.get b).isSome = true := by rw [hb]; rfl
        refine ⟨[(b, 0)], [(b, 0)], rfl, rfl, Nat.le_refl _, fun b' => mod_mono hbs b', ?_, fun b h1 h2 => by dsimp only at h2; omega, ?_⟩
        · intro l hl _
          obtain ⟨lb, li⟩ := l
          by_cases ee : lb = b
          · subst ee
            dsimp only
            rw [look_mod_eq hbs]
            simp only [look, hb]
            match li with
            | 0 => exact absurd (List.mem_singleton.2 rfl) hl
            | j + 1 => simp [lookBlk]
          · exact look_mod_ne hbs ee
        · intro t ht hR _
          have h0 := hR (b, 0) (by simp)
          simp only [look, hb, lookBlk] at h0
          cases hb' : t.h.get b with
          | none => rw [hb'] at h0; simp at h0
          | some y =>
            cases y with
            | cells c e kd sp => rw [hb'] at h0; simp at h0
            | obj o1 =>
              have hbs' : (t.h.get b).isSome = true := by rw [hb']; rfl
              refine ⟨{ t with h := t.h.mod b (.obj o), rd := (b, 0) :: t.rd, wr := (b, 0) :: t.wr }, by simp only [AT.run, hb'], ht, rfl, rfl, fun l => ?_⟩
              obtain ⟨lb, li⟩ := l
              by_cases ee : lb = b
              · subst ee
                dsimp only
                rw [look_mod_eq hbs', look_mod_eq hbs]
                match li with
                | 0 => rw [if_pos (.inl (List.mem_singleton.2 rfl))]
                | j + 1 =>
                  rw [if_neg]
                  · simp [look, hb', lookBlk]
                  · rintro (h | h)
                    · simp at h
                    · omega
              · dsimp only
                rw [look_mod_ne hbs' ee, if_neg]
                rintro (h | h)
                · simp at h; exact ee h.1
                · omega
  | new x k ih =>
    have : (AT.new x k).run = M.bind (fun s => (AT.new x .ret).run s) (fun r => (k r).run) := by
      funext s
      have := AT.run_bind k (AT.new x .ret) s
      exact this
    rw [this]
    refine Local.bind ?_ fun r => ih r
    intro s r s' h
    simp only [AT.run] at h
    cases hb : s.h.get s.nx with
    | some y => rw [hb] at h; cases h
    | none =>
      rw [hb] at h
      dsimp only at h
      cases hg : Nat.blt s.nx 1000000000000 with
      | false => rw [hg] at h; cases h
      | true =>
        rw [hg] at h
        cases h
        have hlt : s.nx + 1 < 2 ^ 60 := by rw [Nat.blt_eq] at hg; omega
        have lk : ∀ (t : St), t.nx = s.nx → ∀ l : Loc, look (Tr.put 60 t.h s.nx x) l = if l.1 = s.nx then lookBlk (some x) l.2 else look t.h l := by
          intro t _ l
          simp only [look]
          rw [Tr.get_put _ _ _ _ _ hlt]
          split <;> rfl
        refine ⟨[], [], rfl, rfl, Nat.le_succ _, ?_, ?_, ?_, ?_⟩
        · intro b hn
          dsimp only at hn
          rw [Tr.get_put _ _ _ _ _ hlt] at hn
          by_cases e : b = s.nx
          · rw [if_pos e] at hn; cases hn
          · rwa [if_neg e] at hn
        · intro l _ hn
          dsimp only at hn ⊢
          rw [lk s rfl, if_neg (by omega)]
        · intro b h1 h2
          dsimp only at h2
          have : b = s.nx := by omega
          rw [this, hb]
        · intro t ht _ hf
          have hn : t.h.get s.nx = none := hf _ (Nat.le_refl _) (by dsimp only; omega)
          refine ⟨{ t with h := Tr.put 60 t.h s.nx x, nx := s.nx + 1 }, ?_, rfl, rfl, rfl, fun l => ?_⟩
          · simp only [AT.run, ht, hn, hg, cond_true]
          · dsimp only
            rw [lk t ht, lk s rfl]
            by_cases e : l.1 = s.nx
            · rw [if_pos e, if_pos (.inr (by omega)), if_pos e]
            · rw [if_neg e, if_neg (not_nil_or (by omega))]
/-! ### What was done to blocks of its own is forgotten -/
def oldLoc (n0 n1 : Nat) (l : Loc) : Bool := !(Nat.ble n0 l.1 && Nat.blt l.1 n1)
def trim {α : Type} (m : M α) : M α := fun s =>
  match m ⟨s.h, s.nx, [], []⟩ with
  | some (v, s') => some (v, ⟨s'.h, s'.nx, s'.rd.filter (oldLoc s.nx s'.nx) ++ s.rd, s'.wr.filter (oldLoc s.nx s'.nx) ++ s.wr⟩)
  | none => none
theorem oldLoc_iff (n0 n1 : Nat) (l : Loc) : oldLoc n0 n1 l = true ↔ ¬ (n0 ≤ l.1 ∧ l.1 < n1) := by
  unfold oldLoc
  rw [Bool.not_eq_true', ← Bool.not_eq_true, Bool.and_eq_true, Nat.ble_eq, Nat.blt_eq]
theorem trim_some {α : Type} {m : M α} {s s' : St} {v : α} (h : trim m s = some (v, s')) : ∃ s1, m ⟨s.h, s.nx, [], []⟩ = some (v, s1) ∧ s'.h = s1.h := by
  unfold trim at h
  cases hm : m ⟨s.h, s.nx, [], []⟩ with
  | none => rw [hm] at h; cases h
  | some q => obtain ⟨u, s1⟩ := q; rw [hm] at h; cases h; exact ⟨s1, rfl, rfl⟩
theorem Local.trim {α : Type} {m : M α} (hm : Local m) : Local (AM.trim m) := by
  intro s r s' h
  unfold AM.trim at h
  cases hq : m ⟨s.h, s.nx, [], []⟩ with
  | none => rw [hq] at h; cases h
  | some q =>
    obtain ⟨u, s1⟩ := q
    rw [hq] at h
    cases h
    obtain ⟨R, W, d⟩ := hm _ _ _ hq
    have hrd : s1.rd = R := by have := d.rd; simpa using this
    have hwr : s1.wr = W := by have := d.wr; simpa using this
    refine ⟨R.filter (oldLoc s.nx s1.nx), W.filter (oldLoc s.nx s1.nx), by rw [← hrd], by rw [← hwr], d.nx, d.mono, ?_, d.fresh, ?_⟩
    · intro l hl hn
      refine d.frame l (fun hW => hl ?_) hn
      rw [List.mem_filter]
      exact ⟨hW, (oldLoc_iff _ _ _).2 hn⟩
    · intro t ht hR hf
      have ht' : t.nx = s.nx := ht
      obtain ⟨t', e1, e2, e3, e4, e5⟩ := d.again ⟨t.h, t.nx, [], []⟩ ht (fun l hl => by
        by_cases ho : s.nx ≤ l.1 ∧ l.1 < s1.nx
        · obtain ⟨b, i⟩ := l
          rw [look_none (hf b ho.1 ho.2), look_none (d.fresh b ho.1 ho.2)]
        · exact hR l (List.mem_filter.2 ⟨hl, (oldLoc_iff _ _ _).2 ho⟩)) hf
      refine ⟨⟨t'.h, t'.nx, t'.rd.filter (oldLoc t.nx t'.nx) ++ t.rd, t'.wr.filter (oldLoc t.nx t'.nx) ++ t.wr⟩, ?_, e2, ?_, ?_, fun l => ?_⟩
      · unfold AM.trim
        rw [e1]
      · have e3 : t'.rd = R := by simpa using e3
        have e2 : t'.nx = s1.nx := e2
        simp only [e3, e2, ht']
      · have e4 : t'.wr = W := by simpa using e4
        have e2 : t'.nx = s1.nx := e2
        simp only [e4, e2, ht']
      · have := e5 l
        rw [this]
        by_cases ho : s.nx ≤ l.1 ∧ l.1 < s1.nx
        · rw [if_pos (.inr ho), if_pos (.inr ho)]
        · by_cases hW : l ∈ W
          · rw [if_pos (.inl hW), if_pos (.inl (List.mem_filter.2 ⟨hW, (oldLoc_iff _ _ _).2 ho⟩))]
          · rw [if_neg (fun hh => hh.elim hW ho), if_neg (fun hh => hh.elim (fun h => hW (List.mem_filter.1 h).1) ho)]
end Go.Proofs.YtndjhcmgngnfbaaGreatDoor.AM
end
