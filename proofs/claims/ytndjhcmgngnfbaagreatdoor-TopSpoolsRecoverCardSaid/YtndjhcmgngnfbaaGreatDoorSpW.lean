/- How a spool lies in memory: three rows of the call's own, and the struct. No condition. -/
import Derived.Test.YtndjhcmgngnfbaaGreatDoorWa
import Derived.Deep.OwnRows
import Derived.Deep.Draws
set_option linter.unusedSimpArgs false
set_option linter.unusedVariables false
set_option linter.all false
section
namespace Go.Proofs.YtndjhcmgngnfbaaGreatDoor
open Go Go.RowKit
structure SpIn (w : World) (n b1 b2 b3 : Nat) (s : Sp) : Prop where
  tries : w.rowIs b1 3 n (fun k => .int .i64 (s.tries k))
  done : w.rowIs b2 4 n (fun k => .bool (s.done k))
  taken : w.rowIs b3 3 n (fun k => .int .i64 (s.taken k))
  h12 : b1 ≠ b2
  h13 : b1 ≠ b3
  h23 : b2 ≠ b3
def spV (n b1 b2 b3 : Nat) (s : Sp) : Value := .agg #[.slice (some ⟨b1, 0, none⟩) n n, .slice (some ⟨b2, 0, none⟩) n n, .slice (some ⟨b3, 0, none⟩) n n, .int .i64 s.now, .bool s.sealed]
def spO (n b1 b2 b3 : Nat) (s : Sp) : Obj := .cells #[.slice (some ⟨b1, 0, none⟩) n n, .slice (some ⟨b2, 0, none⟩) n n, .slice (some ⟨b3, 0, none⟩) n n, .int .i64 s.now, .bool s.sealed] 34 (0, 0)
/-- What a step leaves. -/
structure Stepped (n p b1 b2 b3 : Nat) (s' : Sp) (w w' : World) : Prop where
  struct : w'.heap[p]? = some (spO n b1 b2 b3 s')
  rows : SpIn w' n b1 b2 b3 s'
  below : ∀ B, B ≤ p → B ≤ b1 → B ≤ b2 → B ≤ b3 → B ≤ w.heap.size → Below B w w'
theorem SpIn.below {w w' : World} {B n b1 b2 b3 : Nat} {s : Sp} (h : SpIn w n b1 b2 b3 s) (hb : Below B w w') (h1 : b1 < B) (h2 : b2 < B) (h3 : b3 < B) : SpIn w' n b1 b2 b3 s :=
  ⟨h.tries.of_block (hb.block _ h1), h.done.of_block (hb.block _ h2), h.taken.of_block (hb.block _ h3), h.h12, h.h13, h.h23⟩
theorem SpIn.lt1 {w : World} {n b1 b2 b3 : Nat} {s : Sp} (h : SpIn w n b1 b2 b3 s) : b1 < w.heap.size := h.tries.lt
theorem SpIn.lt2 {w : World} {n b1 b2 b3 : Nat} {s : Sp} (h : SpIn w n b1 b2 b3 s) : b2 < w.heap.size := h.done.lt
theorem SpIn.lt3 {w : World} {n b1 b2 b3 : Nat} {s : Sp} (h : SpIn w n b1 b2 b3 s) : b3 < w.heap.size := h.taken.lt
theorem SpIn.congr {w : World} {n b1 b2 b3 : Nat} {s t : Sp} (h : SpIn w n b1 b2 b3 s) (e1 : ∀ k, k < n → s.tries k = t.tries k) (e2 : ∀ k, k < n → s.done k = t.done k) (e3 : ∀ k, k < n → s.taken k = t.taken k) : SpIn w n b1 b2 b3 t :=
  ⟨h.tries.congr fun k hk => by rw [e1 k hk], h.done.congr fun k hk => by rw [e2 k hk], h.taken.congr fun k hk => by rw [e3 k hk], h.h12, h.h13, h.h23⟩
theorem upd_int (f : Nat → Int) (j : Nat) (v : Int) : (fun k => if k = j then Value.int .i64 v else Value.int .i64 (f k)) = fun k => Value.int .i64 (upd f j v k) := by
  funext k; simp only [upd]; split <;> rfl
theorem upd_bool (f : Nat → Bool) (j : Nat) (v : Bool) : (fun k => if k = j then Value.bool v else Value.bool (f k)) = fun k => Value.bool (upd f j v k) := by
  funext k; simp only [upd]; split <;> rfl
theorem struct_cell {w : World} {p i : Nat} {c : Array Value} {t : TypeId} {v : Value} (h : w.heap[p]? = some (.cells c t (0, 0))) (hi : c[i]? = some v) : w.cell? ⟨p, i, none⟩ = some v := by simp [World.cell?, h, hi]
theorem struct_free {w : World} {p i : Nat} {c : Array Value} {t : TypeId} (h : w.heap[p]? = some (.cells c t (0, 0))) : w.frozen? ⟨p, i, none⟩ = false := by simp [World.frozen?, h]
theorem alloc_cell {w : World} {a : Addr} {v : Value} (h : w.cell? a = some v) (o : Obj) : (w.alloc o).cell? a = some v := by
  rw [World.cell?_alloc_lt _ _ _ (World.block_lt_of_cell? w a h), h]
theorem new_cell (w : World) (c : Array Value) (t : TypeId) {i : Nat} {v : Value} (hi : c[i]? = some v) : (w.alloc (.cells c t)).cell? ⟨w.heap.size, i, none⟩ = some v := struct_cell (Go.Deep.blk_alloc_new _ _) hi
theorem alloc_free {w : World} {a : Addr} {v : Value} (h : w.cell? a = some v) (hf : w.frozen? a = false) (o : Obj) : (w.alloc o).frozen? a = false := by
  rw [World.frozen?_of_block (Go.Deep.blk_alloc_lt _ _ _ (World.block_lt_of_cell? w a h)), hf]
theorem far_cell (b j q : Nat) (h : b ≠ q) (W : World) (v : Value) (i : Nat) : (W.setCell ⟨b, j, none⟩ v).cell? ⟨q, i, none⟩ = W.cell? ⟨q, i, none⟩ :=
  World.cell?_of_block (Go.Deep.blk_setCell_other _ _ _ _ (fun e => h e.symm))
theorem struct_set {w : World} {p i : Nat} {c : Array Value} {t : TypeId} (h : w.heap[p]? = some (.cells c t (0, 0))) (v : Value) : (w.setCell ⟨p, i, none⟩ v).heap[p]? = some (.cells (c.setIfInBounds i v) t (0, 0)) := by
  simp [World.setCell, Array.getElem?_modify, h]
theorem SpIn.alloc {w : World} {n b1 b2 b3 : Nat} {s : Sp} (h : SpIn w n b1 b2 b3 s) (o : Obj) : SpIn (w.alloc o) n b1 b2 b3 s := ⟨h.tries.alloc o, h.done.alloc o, h.taken.alloc o, h.h12, h.h13, h.h23⟩
theorem SpIn.drewN {w : World} {n b1 b2 b3 : Nat} {s : Sp} (h : SpIn w n b1 b2 b3 s) (m : Nat) : SpIn (w.drewN m) n b1 b2 b3 s := ⟨h.tries, h.done, h.taken, h.h12, h.h13, h.h23⟩
theorem SpIn.drew {w : World} {n b1 b2 b3 : Nat} {s : Sp} (h : SpIn w n b1 b2 b3 s) : SpIn w.drew n b1 b2 b3 s := ⟨h.tries, h.done, h.taken, h.h12, h.h13, h.h23⟩
theorem SpIn.setTries {w : World} {n b1 b2 b3 : Nat} {s : Sp} (h : SpIn w n b1 b2 b3 s) (j : Nat) (u : Int) : SpIn (w.setCell ⟨b1, j, none⟩ (.int .i64 u)) n b1 b2 b3 { s with tries := upd s.tries j u } :=
  ⟨by have := h.tries.set j (.int .i64 u); rw [upd_int] at this; exact this, h.done.setOther (fun e => h.h12 e.symm) _, h.taken.setOther (fun e => h.h13 e.symm) _, h.h12, h.h13, h.h23⟩
theorem SpIn.setDone {w : World} {n b1 b2 b3 : Nat} {s : Sp} (h : SpIn w n b1 b2 b3 s) (j : Nat) (u : Bool) : SpIn (w.setCell ⟨b2, j, none⟩ (.bool u)) n b1 b2 b3 { s with done := upd s.done j u } :=
  ⟨h.tries.setOther h.h12 _, by have := h.done.set j (.bool u); rw [upd_bool] at this; exact this, h.taken.setOther (fun e => h.h23 e.symm) _, h.h12, h.h13, h.h23⟩
theorem SpIn.setTaken {w : World} {n b1 b2 b3 : Nat} {s : Sp} (h : SpIn w n b1 b2 b3 s) (j : Nat) (u : Int) : SpIn (w.setCell ⟨b3, j, none⟩ (.int .i64 u)) n b1 b2 b3 { s with taken := upd s.taken j u } :=
  ⟨h.tries.setOther h.h13 _, h.done.setOther h.h23 _, by have := h.taken.set j (.int .i64 u); rw [upd_int] at this; exact this, h.h12, h.h13, h.h23⟩
theorem SpIn.setP {w : World} {n b1 b2 b3 p : Nat} {s : Sp} (h : SpIn w n b1 b2 b3 s) (h1 : p ≠ b1) (h2 : p ≠ b2) (h3 : p ≠ b3) (i : Nat) (v : Value) : SpIn (w.setCell ⟨p, i, none⟩ v) n b1 b2 b3 s :=
  ⟨h.tries.setOther (fun e => h1 e.symm) _, h.done.setOther (fun e => h2 e.symm) _, h.taken.setOther (fun e => h3 e.symm) _, h.h12, h.h13, h.h23⟩
theorem below_drewN {B : Nat} {a w : World} (h : Below B a w) (m : Nat) : Below B a (w.drewN m) := ⟨h.os, h.tape, h.output, h.size, h.block⟩
theorem blk_drewN (w : World) (m p : Nat) : (w.drewN m).heap[p]? = w.heap[p]? := rfl
theorem idle_calls {W : World} {n p b1 b2 b3 j : Nat} (hj : j < n)
    (c0 : W.cell? ⟨p, 0, none⟩ = some (.slice (some ⟨b1, 0, none⟩) n n)) (c1 : W.cell? ⟨p, 1, none⟩ = some (.slice (some ⟨b2, 0, none⟩) n n)) (c2 : W.cell? ⟨p, 2, none⟩ = some (.slice (some ⟨b3, 0, none⟩) n n))
    (c3 : W.cell? ⟨p, 3, none⟩ = some (.int .i64 (-1))) (cd : W.cell? ⟨b2, j, none⟩ = some (.bool false)) :
    Calls Tryz.prog 396 #[.pointer (some ⟨p, 0, none⟩), .int .i64 j] W fun e w' => e = .returned (.bool true) ∧ w' = W := by
  have h := idle_walk W p 0 (some ⟨b1, 0, none⟩) (some ⟨b3, 0, none⟩) b2 0 n n n n n n j (-1) false c0 c1 c2 c3 (fun _ _ => by simpa using cd)
  simpa [hj] using h
theorem busy_calls {W : World} {n p b1 b2 b3 j : Nat} {t : Int} (hj : j < n)
    (c0 : W.cell? ⟨p, 0, none⟩ = some (.slice (some ⟨b1, 0, none⟩) n n)) (c1 : W.cell? ⟨p, 1, none⟩ = some (.slice (some ⟨b2, 0, none⟩) n n)) (c2 : W.cell? ⟨p, 2, none⟩ = some (.slice (some ⟨b3, 0, none⟩) n n))
    (c3 : W.cell? ⟨p, 3, none⟩ = some (.int .i64 j)) (ct : W.cell? ⟨b1, j, none⟩ = some (.int .i64 t)) :
    Calls Tryz.prog 398 #[.pointer (some ⟨p, 0, none⟩), .int .i64 j, .int .i64 t] W fun e w' => e = .returned (.bool true) ∧ w' = W := by
  have h := busy_walk W p 0 (some ⟨b2, 0, none⟩) (some ⟨b3, 0, none⟩) b1 0 n n n n n n j t j t c0 c1 c2 c3 (fun _ _ => by simpa using ct)
  simpa [hj] using h
end Go.Proofs.YtndjhcmgngnfbaaGreatDoor
end
/- The walks of slices.Index and slices.Contains, at lists of truth values and of numbers. No condition but that a list is no longer than a thousand. -/
section
namespace Go.Proofs.YtndjhcmgngnfbaaGreatDoor
open Go Go.RowKit
theorem indexb_walk (w : World) (b n j : Nat) (f : Nat → Bool) (hn : n ≤ 1000) (hj : j ≤ n) (hlt : ∀ k, k < j → f k = true) (hat : j < n → f j = false)
    (hc : ∀ k, k < n → w.cell? ⟨b, k, none⟩ = some (.bool (f k))) :
    Calls Tryz.prog 23 #[.slice (some ⟨b, 0, none⟩) n n, .bool false] w fun e w' => e = .returned (.int .i64 (if j < n then (j : Int) else -1)) ∧ w' = w := by
  have H : Hid ((∀ k, k < j → f k = true) ∧ (j < n → f j = false)) := ⟨hlt, hat⟩
  clear hlt hat
  go_enter Tryz.func23, Tryz.ntmps23
  go_wp2
  go_loop [8] (fun i => ∃ k : Nat, k ≤ j ∧ i = .int .i64 k) (fun i => n - (intOf i).toNat)
  case atStart => exact ⟨0, Nat.zero_le _, rfl⟩
  case round =>
    obtain ⟨k, hk, rfl⟩ := hrel
    rcases Nat.lt_or_ge k j with h | h
    · have hkn : k < n := by omega
      have hcell : w.cell? ⟨b, k, none⟩ = some (.bool true) := by rw [hc k hkn, H.out.1 k h]
      clear hc
      go_wp2
      go_round
      case rel => exact ⟨k + 1, h, by push_cast; rfl⟩
      case measure => simp [intOf]; omega
    · obtain rfl : k = j := by omega
      rcases Nat.lt_or_ge k n with h2 | h2
      · have hcell : w.cell? ⟨b, k, none⟩ = some (.bool false) := by rw [hc k h2, H.out.2 h2]
        clear hc
        go_wp2
        go_ret
        exact ⟨by first | rfl | (rw [if_pos h2]; rfl), rfl⟩
      · obtain rfl : k = n := by omega
        clear hc
        go_wp2
        go_ret
        exact ⟨by first | rfl | (rw [if_neg (by omega)]; rfl), rfl⟩
theorem indexi_walk (w : World) (b n j : Nat) (v : Int) (f : Nat → Int) (hn : n ≤ 1000) (hj : j ≤ n) (hlt : ∀ k, k < j → f k ≠ v) (hat : j < n → f j = v)
    (hc : ∀ k, k < n → w.cell? ⟨b, k, none⟩ = some (.int .i64 (f k))) :
    Calls Tryz.prog 49 #[.slice (some ⟨b, 0, none⟩) n n, .int .i64 v] w fun e w' => e = .returned (.int .i64 (if j < n then (j : Int) else -1)) ∧ w' = w := by
  have H : Hid ((∀ k, k < j → f k ≠ v) ∧ (j < n → f j = v)) := ⟨hlt, hat⟩
  clear hlt hat
  go_enter Tryz.func49, Tryz.ntmps49
  go_wp2
  go_loop [8] (fun i => ∃ k : Nat, k ≤ j ∧ i = .int .i64 k) (fun i => n - (intOf i).toNat)
  case atStart => exact ⟨0, Nat.zero_le _, rfl⟩
  case round =>
    obtain ⟨k, hk, rfl⟩ := hrel
    rcases Nat.lt_or_ge k j with h | h
    · have hkn : k < n := by omega
      have hcell : w.cell? ⟨b, k, none⟩ = some (.int .i64 (f k)) := hc k hkn
      have hne : (v == f k) = false := by have := H.out.1 k h; simp; exact fun e => this e.symm
      have hne2 : ¬ v = f k := by have := H.out.1 k h; exact fun e => this e.symm
      clear hc
      go_wp2
      go_round
      case rel => exact ⟨k + 1, h, by push_cast; rfl⟩
      case measure => simp [intOf]; omega
    · obtain rfl : k = j := by omega
      rcases Nat.lt_or_ge k n with h2 | h2
      · have hcell : w.cell? ⟨b, k, none⟩ = some (.int .i64 v) := by rw [hc k h2, H.out.2 h2]
        clear hc
        go_wp2
        go_ret
        exact ⟨by first | rfl | (rw [if_pos h2]; rfl), rfl⟩
      · obtain rfl : k = n := by omega
        clear hc
        go_wp2
        go_ret
        exact ⟨by first | rfl | (rw [if_neg (by omega)]; rfl), rfl⟩
theorem first_of {n : Nat} {p : Nat → Prop} [DecidablePred p] : ∃ j, j ≤ n ∧ (∀ k, k < j → ¬ p k) ∧ (j < n → p j) := by
  induction n with
  | zero => exact ⟨0, Nat.le_refl _, fun k h => absurd h (Nat.not_lt_zero k), fun h => absurd h (Nat.lt_irrefl 0)⟩
  | succ n ih =>
    obtain ⟨j, h1, h2, h3⟩ := ih
    rcases Nat.lt_or_ge j n with h | h
    · exact ⟨j, by omega, h2, fun _ => h3 h⟩
    · obtain rfl : j = n := by omega
      by_cases hp : p j
      · exact ⟨j, by omega, h2, fun _ => hp⟩
      · refine ⟨j + 1, Nat.le_refl _, ?_, fun h => absurd h (Nat.lt_irrefl _)⟩
        intro k hk
        rcases Nat.lt_or_ge k j with h4 | h4
        · exact h2 k h4
        · obtain rfl : k = j := by omega
          exact hp
theorem containsb_walk (w : World) (b n : Nat) (f : Nat → Bool) (hn : n ≤ 1000) (hall : ∀ k, k < n → f k = true)
    (hc : ∀ k, k < n → w.cell? ⟨b, k, none⟩ = some (.bool (f k))) :
    Calls Tryz.prog 402 #[.slice (some ⟨b, 0, none⟩) n n, .bool false] w fun e w' => e = .returned (.bool false) ∧ w' = w := by
  have h := indexb_walk w b n n f hn (Nat.le_refl _) hall (fun h => absurd h (Nat.lt_irrefl _)) hc
  rw [if_neg (Nat.lt_irrefl _)] at h
  clear hc hall
  go_enter Tryz.func402, Tryz.ntmps402
  go_wp2_with (go_at_call 23; refine h.mono ?_; rintro e w' ⟨rfl, rfl⟩)
  go_ret
  exact ⟨rfl, rfl⟩
theorem containsi_walk (w : World) (b n : Nat) (v : Int) (f : Nat → Int) (hn : n ≤ 1000)
    (hc : ∀ k, k < n → w.cell? ⟨b, k, none⟩ = some (.int .i64 (f k))) :
    Calls Tryz.prog 24 #[.slice (some ⟨b, 0, none⟩) n n, .int .i64 v] w fun e w' => e = .returned (.bool (!decide (∀ k, k < n → f k ≠ v))) ∧ w' = w := by
  obtain ⟨j, h1, h2, h3⟩ := first_of (n := n) (p := fun k => f k = v)
  have h := indexi_walk w b n j v f hn h1 h2 h3 hc
  have h4 : (!decide (∀ k, k < n → f k ≠ v)) = decide (j < n) := by
    rcases Nat.lt_or_ge j n with h | h
    · rw [decide_eq_true h, decide_eq_false (fun g => g j h (h3 h))]; rfl
    · have e1 : decide (j < n) = false := decide_eq_false (by omega)
      have e2 : decide (∀ k, k < n → f k ≠ v) = true := decide_eq_true (fun k hk => h2 k (by omega))
      rw [e1, e2]; rfl
  rw [h4]
  clear hc h2 h3 h4
  by_cases hjn : j < n
  · rw [if_pos hjn] at h
    rw [decide_eq_true hjn]
    go_enter Tryz.func24, Tryz.ntmps24
    go_wp2_with (go_at_call 49; refine h.mono ?_; rintro e w' ⟨rfl, rfl⟩)
    go_ret
    exact ⟨rfl, rfl⟩
  · rw [if_neg hjn] at h
    rw [decide_eq_false hjn]
    go_enter Tryz.func24, Tryz.ntmps24
    go_wp2_with (go_at_call 49; refine h.mono ?_; rintro e w' ⟨rfl, rfl⟩)
    go_ret
    exact ⟨rfl, rfl⟩
end Go.Proofs.YtndjhcmgngnfbaaGreatDoor
end
