/- The spool as a plain machine: its records, its steps, what is next, the records of a whole run, and what stands behind each part of them. No condition. -/
import Derived.WalkKit
set_option linter.unusedSimpArgs false
set_option linter.unusedVariables false
set_option linter.all false
section
namespace Go.Proofs.YtndjhcmgngnfbaaGreatDoor
open Go Go.RowKit
structure Sp where
  tries : Nat → Int
  done : Nat → Bool
  taken : Nat → Int
  now : Int
  sealed : Bool
structure Rc where
  k : Int
  a : Int
  b : Int
def upd {α : Type} (f : Nat → α) (i : Nat) (v : α) : Nat → α := fun j => if j = i then v else f j
def fresh : Sp := ⟨fun _ => 0, fun _ => false, fun _ => -1, -1, false⟩
def inc (x : Int) : Int := wrap64 (x + 1)
def begun (s : Sp) (j : Nat) : Sp := { s with tries := upd s.tries j (inc (s.tries j)), now := j }
def ended (s : Sp) (j : Nat) : Sp := { s with done := upd s.done j true, now := -1 }
def spoiled (s : Sp) : Sp := { s with now := -1 }
def reusedBy (s : Sp) (j : Nat) (c : Int) : Sp := { s with done := upd s.done j true, taken := upd s.taken j c }
def shut (s : Sp) : Sp := { s with sealed := true }
/-- A step, where it is one. -/
inductive Goes (n : Nat) : Sp → Rc → Sp → Prop
  | began (s : Sp) (j : Nat) (hj : j < n) (h1 : s.sealed = false) (h2 : s.now = -1) (h3 : s.done j = false) : Goes n s ⟨1, j, inc (s.tries j)⟩ (begun s j)
  | finished (s : Sp) (j : Nat) (c : Int) (hj : j < n) (h1 : s.sealed = false) (h2 : s.now = j) (h3 : s.tries j = c) : Goes n s ⟨2, j, c⟩ (ended s j)
  | spoilt (s : Sp) (j : Nat) (c : Int) (hj : j < n) (h1 : s.sealed = false) (h2 : s.now = j) (h3 : s.tries j = c) : Goes n s ⟨3, j, c⟩ (spoiled s)
  | reused (s : Sp) (j : Nat) (c : Int) (hj : j < n) (h1 : s.sealed = false) (h2 : s.now = -1) (h3 : s.done j = false) (h4 : 0 ≤ c) (h5 : ∀ k, k < n → s.taken k ≠ c) : Goes n s ⟨4, j, c⟩ (reusedBy s j c)
  | sealed (s : Sp) (h1 : s.sealed = false) (h2 : s.now = -1) (h3 : ∀ k, k < n → s.done k = true) : Goes n s ⟨5, 0, 0⟩ (shut s)
/-- A list of steps. -/
inductive Runs (n : Nat) : Sp → List Rc → Sp → Prop
  | nil (s : Sp) : Runs n s [] s
  | cons {s t u : Sp} {r : Rc} {l : List Rc} (h : Goes n s r t) (k : Runs n t l u) : Runs n s (r :: l) u
theorem Runs.append {n : Nat} {s t u : Sp} {l m : List Rc} (h : Runs n s l t) (k : Runs n t m u) : Runs n s (l ++ m) u := by
  induction h with
  | nil => exact k
  | cons g _ ih => exact .cons g (ih k)
theorem Runs.split {n : Nat} {s u : Sp} {m : List Rc} : ∀ {l : List Rc}, Runs n s (l ++ m) u → ∃ t, Runs n s l t ∧ Runs n t m u := by
  intro l
  induction l generalizing s with
  | nil => intro h; exact ⟨s, .nil s, h⟩
  | cons r l ih =>
    intro h
    cases h with
    | cons g k =>
      obtain ⟨t, h1, h2⟩ := ih k
      exact ⟨t, .cons g h1, h2⟩
/-- The jobs' sheets from the stock: whether job j is served by sheet m j when t is what has been taken. -/
def serves (ml : Nat) (m : Nat → Int) (n j : Nat) (t : Nat → Int) : Bool := decide (j < ml ∧ 0 ≤ m j ∧ ∀ k, k < n → t k ≠ m j)
def tk (ml : Nat) (m : Nat → Int) (n : Nat) : Nat → Nat → Int
  | 0 => fun _ => -1
  | j + 1 => if serves ml m n j (tk ml m n j) then upd (tk ml m n j) j (m j) else tk ml m n j
theorem tk_late (ml : Nat) (m : Nat → Int) (n j k : Nat) (h : j ≤ k) : tk ml m n j k = -1 := by
  induction j with
  | zero => rfl
  | succ j ih =>
    unfold tk
    split
    · simp only [upd]
      rw [if_neg (by omega)]
      exact ih (by omega)
    · exact ih (by omega)
/-- Behind j jobs, no sheet under the punch. -/
structure Clean (ml : Nat) (m : Nat → Int) (n j : Nat) (s : Sp) : Prop where
  le : j ≤ n
  done : ∀ k, k < n → s.done k = decide (k < j)
  taken : ∀ k, k < n → s.taken k = tk ml m n j k
  now : s.now = -1
  sealed : s.sealed = false
/-- Behind j jobs, the sheet of job j under the punch. -/
structure Under (ml : Nat) (m : Nat → Int) (n j : Nat) (s : Sp) : Prop where
  lt : j < n
  done : ∀ k, k < n → s.done k = decide (k < j)
  taken : ∀ k, k < n → s.taken k = tk ml m n j k
  now : s.now = j
  sealed : s.sealed = false
  not : serves ml m n j (tk ml m n j) = false
structure Shut (ml : Nat) (m : Nat → Int) (n : Nat) (s : Sp) : Prop where
  done : ∀ k, k < n → s.done k = true
  taken : ∀ k, k < n → s.taken k = tk ml m n n k
  sealed : s.sealed = true
variable {ml : Nat} {m : Nat → Int} {n j : Nat} {s : Sp}
theorem clean_fresh : Clean ml m n 0 fresh := ⟨Nat.zero_le _, fun k _ => by simp [fresh], fun k _ => rfl, rfl, rfl⟩
theorem serves_iff (ht : ∀ k, k < n → s.taken k = tk ml m n j k) : serves ml m n j s.taken = serves ml m n j (tk ml m n j) := by
  unfold serves
  congr 1
  apply propext
  constructor
  · rintro ⟨h1, h2, h3⟩; exact ⟨h1, h2, fun k hk => by rw [← ht k hk]; exact h3 k hk⟩
  · rintro ⟨h1, h2, h3⟩; exact ⟨h1, h2, fun k hk => by rw [ht k hk]; exact h3 k hk⟩
theorem clean_reused (h : Clean ml m n j s) (hj : j < n) (hs : serves ml m n j (tk ml m n j) = true) :
    Goes n s ⟨4, j, m j⟩ (reusedBy s j (m j)) ∧ Clean ml m n (j + 1) (reusedBy s j (m j)) := by
  have h0 := hs
  rw [← serves_iff h.taken] at h0
  obtain ⟨h1, h2, h3⟩ := of_decide_eq_true h0
  refine ⟨.reused s j (m j) hj h.sealed h.now (by rw [h.done j hj]; simp) h2 h3, by omega, fun k hk => ?_, fun k hk => ?_, h.now, h.sealed⟩
  · simp only [begun, ended, spoiled, reusedBy, shut, upd]
    split
    · simp; omega
    · rw [h.done k hk]; congr 1; apply propext; omega
  · simp only [tk, hs, if_true, reusedBy, upd]
    split
    · rfl
    · exact h.taken k hk
theorem clean_began (h : Clean ml m n j s) (hj : j < n) (hs : serves ml m n j (tk ml m n j) = false) :
    Goes n s ⟨1, j, inc (s.tries j)⟩ (begun s j) ∧ Under ml m n j (begun s j) :=
  ⟨.began s j hj h.sealed h.now (by rw [h.done j hj]; simp), hj, h.done, h.taken, rfl, h.sealed, hs⟩
theorem under_finished (h : Under ml m n j s) : Goes n s ⟨2, j, s.tries j⟩ (ended s j) ∧ Clean ml m n (j + 1) (ended s j) := by
  refine ⟨.finished s j _ h.lt h.sealed h.now rfl, h.lt, fun k hk => ?_, fun k hk => ?_, rfl, h.sealed⟩
  · simp only [begun, ended, spoiled, reusedBy, shut, upd]
    split
    · simp; omega
    · rw [h.done k hk]; congr 1; apply propext; omega
  · simp only [tk, h.not]
    exact h.taken k hk
theorem under_spoilt (h : Under ml m n j s) : Goes n s ⟨3, j, s.tries j⟩ (spoiled s) ∧ Clean ml m n j (spoiled s) :=
  ⟨.spoilt s j _ h.lt h.sealed h.now rfl, Nat.le_of_lt h.lt, h.done, h.taken, rfl, h.sealed⟩
theorem clean_sealed (h : Clean ml m n n s) : Goes n s ⟨5, 0, 0⟩ (shut s) ∧ Shut ml m n (shut s) :=
  ⟨.sealed s h.sealed h.now (fun k hk => by rw [h.done k hk]; simp [hk]), fun k hk => by simp [shut, h.done k hk, hk], h.taken, rfl⟩
/-- The records of the first j jobs, and of a whole run. -/
def recs (ml : Nat) (m : Nat → Int) (n : Nat) : Nat → List Rc
  | 0 => []
  | j + 1 => recs ml m n j ++ if serves ml m n j (tk ml m n j) then [⟨4, j, m j⟩] else [⟨1, j, 1⟩, ⟨2, j, 1⟩]
def all (ml : Nat) (m : Nat → Int) (n : Nat) : List Rc := recs ml m n n ++ [⟨5, 0, 0⟩]
theorem recs_length (j : Nat) : (recs ml m n j).length ≤ 2 * j := by
  induction j with
  | zero => simp [recs]
  | succ j ih =>
    unfold recs
    split <;> simp <;> omega
/-- Clean, and the jobs to come have not been tried. -/
structure First (ml : Nat) (m : Nat → Int) (n j : Nat) (s : Sp) : Prop where
  clean : Clean ml m n j s
  tries : ∀ k, j ≤ k → s.tries k = 0
theorem inc_zero : inc 0 = 1 := by simp [inc, wrap64]
theorem first_reused (h : First ml m n j s) (hj : j < n) (hs : serves ml m n j (tk ml m n j) = true) : First ml m n (j + 1) (reusedBy s j (m j)) :=
  ⟨(clean_reused h.clean hj hs).2, fun k hk => h.tries k (by omega)⟩
theorem first_began (h : First ml m n j s) (hj : j < n) (hs : serves ml m n j (tk ml m n j) = false) :
    First ml m n (j + 1) (ended (begun s j) j) :=
  ⟨(under_finished (clean_began h.clean hj hs).2).2, fun k hk => by simp only [ended, begun, upd]; rw [if_neg (by omega)]; exact h.tries k (by omega)⟩
/-- What a state met on the way is. -/
def Met (ml : Nat) (m : Nat → Int) (n : Nat) (s : Sp) : Prop := (∃ j, Clean ml m n j s) ∨ (∃ j, Under ml m n j s) ∨ Shut ml m n s
theorem prefix_one {α : Type} {a : α} {x y : List α} (h : x ++ y = [a]) : x = [] ∨ x = [a] := by
  cases x with
  | nil => exact Or.inl rfl
  | cons b x => simp at h; right; simp [h]
theorem prefix_two {α : Type} {a b : α} {x y : List α} (h : x ++ y = [a, b]) : x = [] ∨ x = [a] ∨ x = [a, b] := by
  cases x with
  | nil => exact Or.inl rfl
  | cons c x =>
    simp at h
    rcases prefix_one h.2 with rfl | rfl
    · right; left; simp [h.1]
    · right; right; simp [h.1]
theorem recs_met (j : Nat) (hj : j ≤ n) : (∃ s, Runs n fresh (recs ml m n j) s ∧ First ml m n j s) ∧ ∀ x y, x ++ y = recs ml m n j → ∃ s, Runs n fresh x s ∧ Met ml m n s := by
  induction j with
  | zero =>
    refine ⟨⟨fresh, .nil _, clean_fresh, fun _ _ => rfl⟩, fun x y h => ?_⟩
    simp only [recs, List.append_eq_nil_iff] at h
    rw [h.1]
    exact ⟨fresh, .nil _, Or.inl ⟨0, clean_fresh⟩⟩
  | succ j ih =>
    obtain ⟨⟨s, hr, hf⟩, hp⟩ := ih (by omega)
    by_cases hs : serves ml m n j (tk ml m n j) = true
    · have hg := clean_reused hf.clean (by omega) hs
      simp only [recs, if_pos hs]
      refine ⟨⟨_, hr.append (.cons hg.1 (.nil _)), first_reused hf (by omega) hs⟩, fun x y h => ?_⟩
      rcases List.append_eq_append_iff.1 h with ⟨z, h1, h2⟩ | ⟨z, h1, h2⟩
      · exact hp x z h1.symm
      · rcases prefix_one h2.symm with rfl | rfl
        · rw [h1, List.append_nil]; exact ⟨s, hr, Or.inl ⟨j, hf.clean⟩⟩
        · rw [h1]; exact ⟨_, hr.append (.cons hg.1 (.nil _)), Or.inl ⟨_, hg.2⟩⟩
    · have hs : serves ml m n j (tk ml m n j) = false := by simpa using hs
      have hg := clean_began hf.clean (by omega) hs
      have hu := under_finished hg.2
      have e0 : inc (s.tries j) = 1 := by rw [hf.tries j (Nat.le_refl _)]; exact inc_zero
      have e1 : (begun s j).tries j = 1 := by simp [begun, upd, e0]
      have g1 := hg.1
      have g2 := hu.1
      rw [e0] at g1
      rw [e1] at g2
      simp only [recs, hs]
      refine ⟨⟨_, hr.append (.cons g1 (.cons g2 (.nil _))), first_began hf (by omega) hs⟩, fun x y h => ?_⟩
      rcases List.append_eq_append_iff.1 h with ⟨z, h1, h2⟩ | ⟨z, h1, h2⟩
      · exact hp x z h1.symm
      · rcases prefix_two h2.symm with rfl | rfl | rfl
        · rw [h1, List.append_nil]; exact ⟨s, hr, Or.inl ⟨j, hf.clean⟩⟩
        · rw [h1]; exact ⟨_, hr.append (.cons g1 (.nil _)), Or.inr (Or.inl ⟨_, hg.2⟩)⟩
        · rw [h1]; exact ⟨_, hr.append (.cons g1 (.cons g2 (.nil _))), Or.inl ⟨_, hu.2⟩⟩
theorem all_met {x y : List Rc} (h : x ++ y = all ml m n) : ∃ s, Runs n fresh x s ∧ Met ml m n s := by
  obtain ⟨⟨s, hr, hf⟩, hp⟩ := recs_met (ml := ml) (m := m) (n := n) n (Nat.le_refl _)
  have hg := clean_sealed hf.clean
  rcases List.append_eq_append_iff.1 h with ⟨z, h1, h2⟩ | ⟨z, h1, h2⟩
  · exact hp x z h1.symm
  · rcases prefix_one h2.symm with rfl | rfl
    · rw [h1, List.append_nil]; exact ⟨s, hr, Or.inl ⟨n, hf.clean⟩⟩
    · rw [h1]; exact ⟨_, hr.append (.cons hg.1 (.nil _)), Or.inr (Or.inr hg.2)⟩
end Go.Proofs.YtndjhcmgngnfbaaGreatDoor
end
/- The bytes of records: numbers in four bytes, the check sum, a record's eleven bytes, a list's. No condition. -/
section
namespace Go.Proofs.YtndjhcmgngnfbaaGreatDoor
open Go Go.RowKit
def numStep (n c : Int) : Int := bits BinOp.or IntKind.i64 (wrap64 (n * 256)) (wrap64 c)
def number4 (zs : List Int) : Int := zs.foldl numStep 0
theorem number4_take (zs : List Int) (k : Nat) (h : k < zs.length) : number4 (zs.take (k + 1)) = numStep (number4 (zs.take k)) zs[k] := by
  unfold number4
  rw [List.take_succ_eq_append_getElem h, List.foldl_append]
  rfl
def crcBit (v : Int) : Int := if 32768 ≤ v then bits BinOp.xor IntKind.u16 (IntKind.u16.wrap (v * 2)) 4129 else IntKind.u16.wrap (v * 2)
def crcBits : Nat → Int → Int
  | 0, v => v
  | n + 1, v => crcBit (crcBits n v)
def crcByte (z c : Int) : Int := crcBits 8 (bits BinOp.xor IntKind.u16 z (IntKind.u16.wrap (IntKind.u16.wrap c * 256)))
def crcList (z : Int) (l : List Int) : Int := l.foldl crcByte z
theorem crcList_take (z : Int) (zs : List Int) (k : Nat) (h : k < zs.length) : crcList z (zs.take (k + 1)) = crcByte (crcList z (zs.take k)) zs[k] := by
  unfold crcList
  rw [List.take_succ_eq_append_getElem h, List.foldl_append]
  rfl
def bytes4 (n : Int) : List Int := [n % 4294967296 / 16777216, n % 4294967296 / 65536 % 256, n % 4294967296 / 256 % 256, n % 256]
def head (r : Rc) : List Int := r.k % 256 :: (bytes4 r.a ++ bytes4 r.b)
def crcOf (i : Int) (r : Rc) : Int := crcList (crcList 65535 (bytes4 i)) (head r)
def enc (i : Int) (r : Rc) : List Int := head r ++ [crcOf i r / 256 % 256, crcOf i r % 256]
theorem enc_length (i : Int) (r : Rc) : (enc i r).length = 11 := rfl
def encAll : Nat → List Rc → List Int
  | _, [] => []
  | i, r :: l => enc i r ++ encAll (i + 1) l
theorem encAll_length (i : Nat) (l : List Rc) : (encAll i l).length = 11 * l.length := by
  induction l generalizing i with
  | nil => rfl
  | cons r l ih => simp only [encAll, List.length_append, enc_length, ih, List.length_cons]; omega
theorem encAll_snoc (i : Nat) (l : List Rc) (r : Rc) : encAll i (l ++ [r]) = encAll i l ++ enc ((i + l.length : Nat) : Int) r := by
  induction l generalizing i with
  | nil => simp [encAll]
  | cons q l ih => simp only [List.cons_append, encAll, ih, List.append_assoc, List.length_cons]; congr 3; omega
theorem encAll_getD (i : Nat) (l : List Rc) (j : Nat) (hj : j < l.length) (k : Nat) (hk : k < 11) : (encAll i l).getD (11 * j + k) 0 = (enc ((i + j : Nat) : Int) l[j]).getD k 0 := by
  induction l generalizing i j with
  | nil => simp at hj
  | cons q l ih =>
    cases j with
    | zero =>
      simp only [encAll, List.getElem_cons_zero]
      rw [List.getD_eq_getElem?_getD, List.getElem?_append_left (by simp [enc_length]; omega), ← List.getD_eq_getElem?_getD]
      simp
    | succ j =>
      simp only [encAll, List.getElem_cons_succ]
      rw [List.getD_eq_getElem?_getD, List.getElem?_append_right (by simp [enc_length]; omega), ← List.getD_eq_getElem?_getD]
      have e : 11 * (j + 1) + k - (enc (i : Int) q).length = 11 * j + k := by simp only [enc_length]; omega
      rw [e, ih (i + 1) j (by simpa using hj)]
      congr 3
      omega
/-- The records that occur: small ones. -/
def Small (r : Rc) : Prop := (1 ≤ r.k ∧ r.k ≤ 5) ∧ (0 ≤ r.a ∧ r.a ≤ 5) ∧ (0 ≤ r.b ∧ r.b ≤ 5)
theorem number4_0 : number4 (bytes4 0) = 0 := by kernel_rfl
theorem number4_1 : number4 (bytes4 1) = 1 := by kernel_rfl
theorem number4_2 : number4 (bytes4 2) = 2 := by kernel_rfl
theorem number4_3 : number4 (bytes4 3) = 3 := by kernel_rfl
theorem number4_4 : number4 (bytes4 4) = 4 := by kernel_rfl
theorem number4_5 : number4 (bytes4 5) = 5 := by kernel_rfl
theorem number4_small (a : Int) (h0 : 0 ≤ a) (h1 : a ≤ 5) : number4 (bytes4 a) = a := by
  have : a = 0 ∨ a = 1 ∨ a = 2 ∨ a = 3 ∨ a = 4 ∨ a = 5 := by omega
  rcases this with rfl | rfl | rfl | rfl | rfl | rfl
  · exact number4_0
  · exact number4_1
  · exact number4_2
  · exact number4_3
  · exact number4_4
  · exact number4_5
end Go.Proofs.YtndjhcmgngnfbaaGreatDoor
end
