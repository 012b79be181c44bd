/- The walk of Next, in the states that come up. No condition but that there are no more than a thousand jobs. -/
import Derived.Test.YtndjhcmgngnfbaaGreatDoorStp
import Derived.Test.YtndjhcmgngnfbaaGreatDoorApp
import Derived.Deep.QuietTactic
import Derived.BigQuiet
set_option linter.unusedSimpArgs false
set_option linter.unusedVariables false
set_option linter.all false
namespace Go.Proofs.YtndjhcmgngnfbaaGreatDoor
open Go Go.RowKit Go.Deep
theorem known_calls {W : World} {n p b1 b2 b3 j : Nat} (hj : j < n)
    (c0 : W.cell? ⟨p, 0, none⟩ = some (.slice (some ⟨b1, 0, none⟩) n n)) (c1 : W.cell? ⟨p, 1, none⟩ = some (.slice (some ⟨b2, 0, none⟩) n n)) (c2 : W.cell? ⟨p, 2, none⟩ = some (.slice (some ⟨b3, 0, none⟩) n n)) :
    Calls Tryz.prog 22 #[.pointer (some ⟨p, 0, none⟩), .int .i64 j] W fun e w' => e = .returned (.bool true) ∧ w' = W := by
  have h := known_walk W p 0 (some ⟨b1, 0, none⟩) (some ⟨b2, 0, none⟩) (some ⟨b3, 0, none⟩) n n n n n n j c0 c1 c2
  simpa [hj] using h
def rcV (r : Rc) : Value := .agg #[.int .i64 r.k, .int .i64 r.a, .int .i64 r.b]
set_option maxRecDepth 10000 in
set_option maxHeartbeats 8000000 in
theorem next_under (w : World) (n b1 b2 b3 ml mc mb j : Nat) (q : Option Addr) (m : Nat → Int) (mi : Int) (s : Sp) (hn : n ≤ 1000) (hml : ml ≤ 1000) (hR : SpIn w n b1 b2 b3 s) (hq : 0 < ml → q = some ⟨mb, 0, none⟩) (hm : ∀ k, k < ml → w.cell? ⟨mb, k, none⟩ = some (.int .i64 (m k)))
    (hj : j < n) (hs : s.sealed = false) (hnow : s.now = j) :
    Calls Tryz.prog 9 #[spV n b1 b2 b3 s, .agg #[.slice q ml mc, .int .i64 mi]] w fun e w' => e = .returned (rcV ⟨3, j, s.tries j⟩) ∧ Below w.heap.size w w' := by
  have ct : ∀ o1 o2 o3 o4, ((((w.alloc o1).alloc o2).alloc o3).alloc o4).cell? ⟨b1, j, none⟩ = some (.int .i64 (s.tries j)) := fun _ _ _ _ => alloc_cell (alloc_cell (alloc_cell (alloc_cell (hR.tries.cell hj) _) _) _) _
  have hne : ((j : Int) != -1) = true := by simp
  unfold spV rcV
  rw [hs, hnow]
  clear hR hm hq
  generalize s.tries j = t at *
  have HK : Hid (∀ o2 o3 o4, Calls Tryz.prog 22 #[.pointer (some ⟨w.heap.size, 0, none⟩), .int .i64 j] ((((w.alloc (Obj.cells #[.slice (some ⟨b1, 0, none⟩) n n, .slice (some ⟨b2, 0, none⟩) n n, .slice (some ⟨b3, 0, none⟩) n n, .int .i64 j, .bool false] 34)).alloc o2).alloc o3).alloc o4) fun e w' => e = .returned (.bool true) ∧
      w' = ((((w.alloc (Obj.cells #[.slice (some ⟨b1, 0, none⟩) n n, .slice (some ⟨b2, 0, none⟩) n n, .slice (some ⟨b3, 0, none⟩) n n, .int .i64 j, .bool false] 34)).alloc o2).alloc o3).alloc o4)) := fun o2 o3 o4 => by
    have hb : ((((w.alloc (Obj.cells #[.slice (some ⟨b1, 0, none⟩) n n, .slice (some ⟨b2, 0, none⟩) n n, .slice (some ⟨b3, 0, none⟩) n n, .int .i64 j, .bool false] 34)).alloc o2).alloc o3).alloc o4).heap[w.heap.size]? = some (Obj.cells #[.slice (some ⟨b1, 0, none⟩) n n, .slice (some ⟨b2, 0, none⟩) n n, .slice (some ⟨b3, 0, none⟩) n n, .int .i64 j, .bool false] 34) :=
      (blk_alloc_lt _ _ _ (by simp <;> omega)).trans (allocs3 w _ o2 o3).1
    exact known_calls hj (struct_cell hb rfl) (struct_cell hb rfl) (struct_cell hb rfl)
  go_enter Tryz.func9, Tryz.ntmps9
  go_wp2_with (go_at_call 22; refine (HK.out _ _ _).mono ?_; rintro e w' ⟨rfl, rfl⟩)
  refine bodyPost_ret (v := .agg #[.int .i64 3, .int .i64 j, .int .i64 t]) ?_ rfl ⟨rfl, ?_⟩
  · simp [results, Tryz.results9, go_sem]
  · exact ((((Below.refl _ w).alloc (Nat.le_refl _) _).alloc (by simp) _).alloc (by simp <;> omega) _).alloc (by simp <;> omega) _
set_option maxRecDepth 10000 in
set_option maxHeartbeats 8000000 in
theorem next_done (w : World) (n b1 b2 b3 ml mc mb j : Nat) (q : Option Addr) (m : Nat → Int) (mi : Int) (s : Sp) (hn : n ≤ 1000) (hml : ml ≤ 1000) (hR : SpIn w n b1 b2 b3 s) (hq : 0 < ml → q = some ⟨mb, 0, none⟩) (hm : ∀ k, k < ml → w.cell? ⟨mb, k, none⟩ = some (.int .i64 (m k)))
    (hall : ∀ k, k < n → s.done k = true) (hs : s.sealed = false) (hnow : s.now = -1) :
    Calls Tryz.prog 9 #[spV n b1 b2 b3 s, .agg #[.slice q ml mc, .int .i64 mi]] w fun e w' => e = .returned (rcV ⟨5, 0, 0⟩) ∧ Below w.heap.size w w' := by
  have HI : Hid (∀ o1 o2 o3, Calls Tryz.prog 23 #[.slice (some ⟨b2, 0, none⟩) n n, .bool false] (((w.alloc o1).alloc o2).alloc o3) fun e w' => e = .returned (.int .i64 (-1)) ∧ w' = (((w.alloc o1).alloc o2).alloc o3)) := fun o1 o2 o3 => by
    have := indexb_walk (((w.alloc o1).alloc o2).alloc o3) b2 n n s.done hn (Nat.le_refl _) hall (fun h => absurd h (Nat.lt_irrefl _)) (fun k hk => alloc_cell (alloc_cell (alloc_cell (hR.done.cell hk) _) _) _)
    rw [if_neg (Nat.lt_irrefl _)] at this
    exact this
  unfold spV rcV
  rw [hs, hnow]
  clear hR hm hq hall
  go_enter Tryz.func9, Tryz.ntmps9
  go_wp2_with (go_at_call 23; refine (HI.out _ _ _).mono ?_; rintro e w' ⟨rfl, rfl⟩)
  refine bodyPost_ret (v := .agg #[.int .i64 5, .int .i64 0, .int .i64 0]) ?_ rfl ⟨rfl, ?_⟩
  · simp [results, Tryz.results9, go_sem]
  · exact (((Below.refl _ w).alloc (Nat.le_refl _) _).alloc (by simp) _).alloc (by simp <;> omega) _
set_option maxRecDepth 10000 in
set_option maxHeartbeats 8000000 in
theorem next_reuse (w : World) (n b1 b2 b3 ml mc mb j : Nat) (q : Option Addr) (m : Nat → Int) (mi : Int) (s : Sp) (hn : n ≤ 1000) (hml : ml ≤ 1000) (hR : SpIn w n b1 b2 b3 s) (hq : 0 < ml → q = some ⟨mb, 0, none⟩) (hm : ∀ k, k < ml → w.cell? ⟨mb, k, none⟩ = some (.int .i64 (m k)))
    (hj : j < n) (hlt : ∀ k, k < j → s.done k = true) (hat : s.done j = false) (hs : s.sealed = false) (hnow : s.now = -1) (hjm : j < ml) (hmj : 0 ≤ m j) (hno : ∀ k, k < n → s.taken k ≠ m j) :
    Calls Tryz.prog 9 #[spV n b1 b2 b3 s, .agg #[.slice q ml mc, .int .i64 mi]] w fun e w' => e = .returned (rcV ⟨4, j, m j⟩) ∧ Below w.heap.size w w' := by
  have HI : Hid (∀ o1 o2 o3, Calls Tryz.prog 23 #[.slice (some ⟨b2, 0, none⟩) n n, .bool false] (((w.alloc o1).alloc o2).alloc o3) fun e w' => e = .returned (.int .i64 j) ∧ w' = (((w.alloc o1).alloc o2).alloc o3)) := fun o1 o2 o3 => by
    have := indexb_walk (((w.alloc o1).alloc o2).alloc o3) b2 n j s.done hn (Nat.le_of_lt hj) hlt (fun _ => hat) (fun k hk => alloc_cell (alloc_cell (alloc_cell (hR.done.cell hk) _) _) _)
    rw [if_pos hj] at this
    exact this
  have HC : Hid (∀ o1 o2 o3 i, Calls Tryz.prog 24 #[.slice (some ⟨b3, 0, none⟩) n n, .int .i64 (m j)] ((((w.alloc o1).alloc o2).alloc o3).drewN i) fun e w' => e = .returned (.bool (!decide (∀ k, k < n → s.taken k ≠ m j))) ∧ w' = ((((w.alloc o1).alloc o2).alloc o3).drewN i)) := fun o1 o2 o3 i =>
    containsi_walk ((((w.alloc o1).alloc o2).alloc o3).drewN i) b3 n (m j) s.taken hn (fun k hk => alloc_cell (alloc_cell (alloc_cell (hR.taken.cell hk) _) _) _)
  have ct : ∀ o1 o2 o3 i o4, (((((w.alloc o1).alloc o2).alloc o3).drewN i).alloc o4).cell? ⟨b1, j, none⟩ = some (.int .i64 (s.tries j)) := fun o1 o2 o3 i _ => alloc_cell (w := (((w.alloc o1).alloc o2).alloc o3).drewN i) (alloc_cell (alloc_cell (alloc_cell (hR.tries.cell hj) _) _) _) _
  have cm : ∀ o1 o2 o3, (((w.alloc o1).alloc o2).alloc o3).cell? ⟨mb, j, none⟩ = some (.int .i64 (m j)) := fun _ _ _ => alloc_cell (alloc_cell (alloc_cell (hm j hjm) _) _) _
  obtain rfl : q = some ⟨mb, 0, none⟩ := hq (by omega)
  rw [decide_eq_true hno] at HC
  have hjm2 : (j : Int) < (ml : Int) := by omega
  clear hno
  unfold spV rcV
  rw [hs, hnow]
  clear hR hm hlt hat
  show Calls Tryz.prog 9 _ w fun e w' => e = .returned (.agg #[.int .i64 _, .int .i64 _, .int .i64 _]) ∧ _
  unfold inc at *
  generalize s.tries j = t at *
  go_enter Tryz.func9, Tryz.ntmps9
  go_wp2_with (go_at_call 23; refine (HI.out _ _ _).mono ?_; rintro e w' ⟨rfl, rfl⟩)
  go_quiet ((go_at_call 24; refine Calls.quiet_of_same (HC.out _ _ _ _)))
  go_wp2
  refine bodyPost_ret (v := .agg #[.int .i64 4, .int .i64 j, .int .i64 (m j)]) ?_ rfl ⟨rfl, ?_⟩
  · simp [results, Tryz.results9, go_sem]
  · exact (((below_drewN ((((Below.refl _ w).alloc (Nat.le_refl _) _).alloc (by simp) _).alloc (by simp <;> omega) _) _).setCell (p := ⟨w.heap.size + 1 + 1, 0, none⟩) (by simp <;> omega) _).setCell (p := ⟨w.heap.size + 1 + 1, 1, none⟩) (by simp <;> omega) _).setCell (p := ⟨w.heap.size + 1 + 1, 2, none⟩) (by simp <;> omega) _
set_option maxRecDepth 10000 in
set_option maxHeartbeats 8000000 in
theorem next_begin1 (w : World) (n b1 b2 b3 ml mc mb j : Nat) (q : Option Addr) (m : Nat → Int) (mi : Int) (s : Sp) (hn : n ≤ 1000) (hml : ml ≤ 1000) (hR : SpIn w n b1 b2 b3 s) (hq : 0 < ml → q = some ⟨mb, 0, none⟩) (hm : ∀ k, k < ml → w.cell? ⟨mb, k, none⟩ = some (.int .i64 (m k)))
    (hj : j < n) (hlt : ∀ k, k < j → s.done k = true) (hat : s.done j = false) (hs : s.sealed = false) (hnow : s.now = -1) (hjm : ml ≤ j) :
    Calls Tryz.prog 9 #[spV n b1 b2 b3 s, .agg #[.slice q ml mc, .int .i64 mi]] w fun e w' => e = .returned (rcV ⟨1, j, inc (s.tries j)⟩) ∧ Below w.heap.size w w' := by
  have HI : Hid (∀ o1 o2 o3, Calls Tryz.prog 23 #[.slice (some ⟨b2, 0, none⟩) n n, .bool false] (((w.alloc o1).alloc o2).alloc o3) fun e w' => e = .returned (.int .i64 j) ∧ w' = (((w.alloc o1).alloc o2).alloc o3)) := fun o1 o2 o3 => by
    have := indexb_walk (((w.alloc o1).alloc o2).alloc o3) b2 n j s.done hn (Nat.le_of_lt hj) hlt (fun _ => hat) (fun k hk => alloc_cell (alloc_cell (alloc_cell (hR.done.cell hk) _) _) _)
    rw [if_pos hj] at this
    exact this
  have HC : Hid (∀ o1 o2 o3 i, Calls Tryz.prog 24 #[.slice (some ⟨b3, 0, none⟩) n n, .int .i64 (m j)] ((((w.alloc o1).alloc o2).alloc o3).drewN i) fun e w' => e = .returned (.bool (!decide (∀ k, k < n → s.taken k ≠ m j))) ∧ w' = ((((w.alloc o1).alloc o2).alloc o3).drewN i)) := fun o1 o2 o3 i =>
    containsi_walk ((((w.alloc o1).alloc o2).alloc o3).drewN i) b3 n (m j) s.taken hn (fun k hk => alloc_cell (alloc_cell (alloc_cell (hR.taken.cell hk) _) _) _)
  have ct : ∀ o1 o2 o3 i o4, (((((w.alloc o1).alloc o2).alloc o3).drewN i).alloc o4).cell? ⟨b1, j, none⟩ = some (.int .i64 (s.tries j)) := fun o1 o2 o3 i _ => alloc_cell (w := (((w.alloc o1).alloc o2).alloc o3).drewN i) (alloc_cell (alloc_cell (alloc_cell (hR.tries.cell hj) _) _) _) _
  have hjm2 : decide (j < ml) = false := decide_eq_false (by omega)
  clear HC
  unfold spV rcV
  rw [hs, hnow]
  clear hR hm hlt hat
  show Calls Tryz.prog 9 _ w fun e w' => e = .returned (.agg #[.int .i64 _, .int .i64 _, .int .i64 _]) ∧ _
  unfold inc at *
  generalize s.tries j = t at *
  go_enter Tryz.func9, Tryz.ntmps9
  go_wp2_with (go_at_call 23; refine (HI.out _ _ _).mono ?_; rintro e w' ⟨rfl, rfl⟩)
  go_quiet (fail)
  go_wp2
  refine bodyPost_ret (v := .agg #[.int .i64 1, .int .i64 j, .int .i64 (wrap64 (t + 1))]) ?_ rfl ⟨rfl, ?_⟩
  · simp [results, Tryz.results9, go_sem]
  · exact ((((below_drewN ((((Below.refl _ w).alloc (Nat.le_refl _) _).alloc (by simp) _).alloc (by simp <;> omega) _) _).setCell (p := ⟨w.heap.size + 1 + 1, 0, none⟩) (by simp <;> omega) _).setCell (p := ⟨w.heap.size + 1 + 1, 1, none⟩) (by simp <;> omega) _).setCell (p := ⟨w.heap.size + 1 + 1, 2, none⟩) (by simp <;> omega) _).alloc (by simp <;> omega) _
set_option maxRecDepth 10000 in
set_option maxHeartbeats 8000000 in
theorem next_begin2 (w : World) (n b1 b2 b3 ml mc mb j : Nat) (q : Option Addr) (m : Nat → Int) (mi : Int) (s : Sp) (hn : n ≤ 1000) (hml : ml ≤ 1000) (hR : SpIn w n b1 b2 b3 s) (hq : 0 < ml → q = some ⟨mb, 0, none⟩) (hm : ∀ k, k < ml → w.cell? ⟨mb, k, none⟩ = some (.int .i64 (m k)))
    (hj : j < n) (hlt : ∀ k, k < j → s.done k = true) (hat : s.done j = false) (hs : s.sealed = false) (hnow : s.now = -1) (hjm : j < ml) (hmj : m j < 0) :
    Calls Tryz.prog 9 #[spV n b1 b2 b3 s, .agg #[.slice q ml mc, .int .i64 mi]] w fun e w' => e = .returned (rcV ⟨1, j, inc (s.tries j)⟩) ∧ Below w.heap.size w w' := by
  have HI : Hid (∀ o1 o2 o3, Calls Tryz.prog 23 #[.slice (some ⟨b2, 0, none⟩) n n, .bool false] (((w.alloc o1).alloc o2).alloc o3) fun e w' => e = .returned (.int .i64 j) ∧ w' = (((w.alloc o1).alloc o2).alloc o3)) := fun o1 o2 o3 => by
    have := indexb_walk (((w.alloc o1).alloc o2).alloc o3) b2 n j s.done hn (Nat.le_of_lt hj) hlt (fun _ => hat) (fun k hk => alloc_cell (alloc_cell (alloc_cell (hR.done.cell hk) _) _) _)
    rw [if_pos hj] at this
    exact this
  have HC : Hid (∀ o1 o2 o3 i, Calls Tryz.prog 24 #[.slice (some ⟨b3, 0, none⟩) n n, .int .i64 (m j)] ((((w.alloc o1).alloc o2).alloc o3).drewN i) fun e w' => e = .returned (.bool (!decide (∀ k, k < n → s.taken k ≠ m j))) ∧ w' = ((((w.alloc o1).alloc o2).alloc o3).drewN i)) := fun o1 o2 o3 i =>
    containsi_walk ((((w.alloc o1).alloc o2).alloc o3).drewN i) b3 n (m j) s.taken hn (fun k hk => alloc_cell (alloc_cell (alloc_cell (hR.taken.cell hk) _) _) _)
  have ct : ∀ o1 o2 o3 i o4, (((((w.alloc o1).alloc o2).alloc o3).drewN i).alloc o4).cell? ⟨b1, j, none⟩ = some (.int .i64 (s.tries j)) := fun o1 o2 o3 i _ => alloc_cell (w := (((w.alloc o1).alloc o2).alloc o3).drewN i) (alloc_cell (alloc_cell (alloc_cell (hR.tries.cell hj) _) _) _) _
  have cm : ∀ o1 o2 o3, (((w.alloc o1).alloc o2).alloc o3).cell? ⟨mb, j, none⟩ = some (.int .i64 (m j)) := fun _ _ _ => alloc_cell (alloc_cell (alloc_cell (hm j hjm) _) _) _
  obtain rfl : q = some ⟨mb, 0, none⟩ := hq (by omega)
  have hjm2 : (j : Int) < (ml : Int) := by omega
  have hmj2 : decide (0 ≤ m j) = false := decide_eq_false (by omega)
  clear HC
  unfold spV rcV
  rw [hs, hnow]
  clear hR hm hlt hat
  show Calls Tryz.prog 9 _ w fun e w' => e = .returned (.agg #[.int .i64 _, .int .i64 _, .int .i64 _]) ∧ _
  unfold inc at *
  generalize s.tries j = t at *
  go_enter Tryz.func9, Tryz.ntmps9
  go_wp2_with (go_at_call 23; refine (HI.out _ _ _).mono ?_; rintro e w' ⟨rfl, rfl⟩)
  go_quiet (fail)
  go_wp2
  refine bodyPost_ret (v := .agg #[.int .i64 1, .int .i64 j, .int .i64 (wrap64 (t + 1))]) ?_ rfl ⟨rfl, ?_⟩
  · simp [results, Tryz.results9, go_sem]
  · exact ((((below_drewN ((((Below.refl _ w).alloc (Nat.le_refl _) _).alloc (by simp) _).alloc (by simp <;> omega) _) _).setCell (p := ⟨w.heap.size + 1 + 1, 0, none⟩) (by simp <;> omega) _).setCell (p := ⟨w.heap.size + 1 + 1, 1, none⟩) (by simp <;> omega) _).setCell (p := ⟨w.heap.size + 1 + 1, 2, none⟩) (by simp <;> omega) _).alloc (by simp <;> omega) _
set_option maxRecDepth 10000 in
set_option maxHeartbeats 8000000 in
theorem next_begin3 (w : World) (n b1 b2 b3 ml mc mb j : Nat) (q : Option Addr) (m : Nat → Int) (mi : Int) (s : Sp) (hn : n ≤ 1000) (hml : ml ≤ 1000) (hR : SpIn w n b1 b2 b3 s) (hq : 0 < ml → q = some ⟨mb, 0, none⟩) (hm : ∀ k, k < ml → w.cell? ⟨mb, k, none⟩ = some (.int .i64 (m k)))
    (hj : j < n) (hlt : ∀ k, k < j → s.done k = true) (hat : s.done j = false) (hs : s.sealed = false) (hnow : s.now = -1) (hjm : j < ml) (hmj : 0 ≤ m j) (hno : ¬ ∀ k, k < n → s.taken k ≠ m j) :
    Calls Tryz.prog 9 #[spV n b1 b2 b3 s, .agg #[.slice q ml mc, .int .i64 mi]] w fun e w' => e = .returned (rcV ⟨1, j, inc (s.tries j)⟩) ∧ Below w.heap.size w w' := by
  have HI : Hid (∀ o1 o2 o3, Calls Tryz.prog 23 #[.slice (some ⟨b2, 0, none⟩) n n, .bool false] (((w.alloc o1).alloc o2).alloc o3) fun e w' => e = .returned (.int .i64 j) ∧ w' = (((w.alloc o1).alloc o2).alloc o3)) := fun o1 o2 o3 => by
    have := indexb_walk (((w.alloc o1).alloc o2).alloc o3) b2 n j s.done hn (Nat.le_of_lt hj) hlt (fun _ => hat) (fun k hk => alloc_cell (alloc_cell (alloc_cell (hR.done.cell hk) _) _) _)
    rw [if_pos hj] at this
    exact this
  have HC : Hid (∀ o1 o2 o3 i, Calls Tryz.prog 24 #[.slice (some ⟨b3, 0, none⟩) n n, .int .i64 (m j)] ((((w.alloc o1).alloc o2).alloc o3).drewN i) fun e w' => e = .returned (.bool (!decide (∀ k, k < n → s.taken k ≠ m j))) ∧ w' = ((((w.alloc o1).alloc o2).alloc o3).drewN i)) := fun o1 o2 o3 i =>
    containsi_walk ((((w.alloc o1).alloc o2).alloc o3).drewN i) b3 n (m j) s.taken hn (fun k hk => alloc_cell (alloc_cell (alloc_cell (hR.taken.cell hk) _) _) _)
  have ct : ∀ o1 o2 o3 i o4, (((((w.alloc o1).alloc o2).alloc o3).drewN i).alloc o4).cell? ⟨b1, j, none⟩ = some (.int .i64 (s.tries j)) := fun o1 o2 o3 i _ => alloc_cell (w := (((w.alloc o1).alloc o2).alloc o3).drewN i) (alloc_cell (alloc_cell (alloc_cell (hR.tries.cell hj) _) _) _) _
  have cm : ∀ o1 o2 o3, (((w.alloc o1).alloc o2).alloc o3).cell? ⟨mb, j, none⟩ = some (.int .i64 (m j)) := fun _ _ _ => alloc_cell (alloc_cell (alloc_cell (hm j hjm) _) _) _
  obtain rfl : q = some ⟨mb, 0, none⟩ := hq (by omega)
  rw [decide_eq_false hno] at HC
  have hjm2 : (j : Int) < (ml : Int) := by omega
  clear hno
  unfold spV rcV
  rw [hs, hnow]
  clear hR hm hlt hat
  show Calls Tryz.prog 9 _ w fun e w' => e = .returned (.agg #[.int .i64 _, .int .i64 _, .int .i64 _]) ∧ _
  unfold inc at *
  generalize s.tries j = t at *
  go_enter Tryz.func9, Tryz.ntmps9
  go_wp2_with (go_at_call 23; refine (HI.out _ _ _).mono ?_; rintro e w' ⟨rfl, rfl⟩)
  go_quiet ((go_at_call 24; refine Calls.quiet_of_same (HC.out _ _ _ _)))
  go_wp2
  refine bodyPost_ret (v := .agg #[.int .i64 1, .int .i64 j, .int .i64 (wrap64 (t + 1))]) ?_ rfl ⟨rfl, ?_⟩
  · simp [results, Tryz.results9, go_sem]
  · exact ((((below_drewN ((((Below.refl _ w).alloc (Nat.le_refl _) _).alloc (by simp) _).alloc (by simp <;> omega) _) _).setCell (p := ⟨w.heap.size + 1 + 1, 0, none⟩) (by simp <;> omega) _).setCell (p := ⟨w.heap.size + 1 + 1, 1, none⟩) (by simp <;> omega) _).setCell (p := ⟨w.heap.size + 1 + 1, 2, none⟩) (by simp <;> omega) _).alloc (by simp <;> omega) _
/-- Behind j jobs, no sheet under the punch, one more job to come. -/
theorem next_clean (w : World) (n b1 b2 b3 ml mc mb j : Nat) (q : Option Addr) (m : Nat → Int) (mi : Int) (s : Sp) (hn : n ≤ 1000) (hml : ml ≤ 1000) (hR : SpIn w n b1 b2 b3 s) (hq : 0 < ml → q = some ⟨mb, 0, none⟩) (hm : ∀ k, k < ml → w.cell? ⟨mb, k, none⟩ = some (.int .i64 (m k)))
    (hj : j < n) (hc : Clean ml m n j s) :
    Calls Tryz.prog 9 #[spV n b1 b2 b3 s, .agg #[.slice q ml mc, .int .i64 mi]] w fun e w' => e = .returned (rcV (if serves ml m n j (tk ml m n j) then ⟨4, j, m j⟩ else ⟨1, j, inc (s.tries j)⟩)) ∧ Below w.heap.size w w' := by
  have hlt : ∀ k, k < j → s.done k = true := fun k hk => by rw [hc.done k (by omega)]; simp [hk]
  have hat : s.done j = false := by rw [hc.done j hj]; simp
  rw [← serves_iff hc.taken]
  by_cases h1 : j < ml
  · by_cases h2 : 0 ≤ m j
    · by_cases h3 : ∀ k, k < n → s.taken k ≠ m j
      · have hs : serves ml m n j s.taken = true := decide_eq_true ⟨h1, h2, h3⟩
        rw [if_pos hs]
        exact next_reuse w n b1 b2 b3 ml mc mb j q m mi s hn hml hR hq hm hj hlt hat hc.sealed hc.now h1 h2 h3
      · have hs : serves ml m n j s.taken = false := decide_eq_false (fun h => h3 h.2.2)
        rw [hs]
        exact next_begin3 w n b1 b2 b3 ml mc mb j q m mi s hn hml hR hq hm hj hlt hat hc.sealed hc.now h1 h2 h3
    · have hs : serves ml m n j s.taken = false := decide_eq_false (fun h => h2 h.2.1)
      rw [hs]
      exact next_begin2 w n b1 b2 b3 ml mc mb j q m mi s hn hml hR hq hm hj hlt hat hc.sealed hc.now h1 (by omega)
  · have hs : serves ml m n j s.taken = false := decide_eq_false (fun h => h1 h.1)
    rw [hs]
    exact next_begin1 w n b1 b2 b3 ml mc mb j q m mi s hn hml hR hq hm hj hlt hat hc.sealed hc.now (by omega)
end Go.Proofs.YtndjhcmgngnfbaaGreatDoor
