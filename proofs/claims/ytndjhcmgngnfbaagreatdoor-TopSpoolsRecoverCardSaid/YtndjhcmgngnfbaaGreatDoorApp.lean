/- The walks of the five methods apply. No condition but that they apply. -/
import Derived.Test.YtndjhcmgngnfbaaGreatDoorSpW
import Derived.Deep.QuietTactic
import Derived.BigQuiet
import Derived.Deep.RegionHeld3
set_option linter.unusedSimpArgs false
set_option linter.unusedVariables false
set_option linter.all false
namespace Go.Proofs.YtndjhcmgngnfbaaGreatDoor
open Go Go.RowKit Go.Deep
set_option maxRecDepth 10000 in
set_option maxHeartbeats 4000000 in
theorem began_walk (w : World) (n p b1 b2 b3 j : Nat) (s : Sp) (k : Int) (hj : j < n) (hn : n ≤ 1000) (hS : w.heap[p]? = some (spO n b1 b2 b3 s)) (hR : SpIn w n b1 b2 b3 s) (hp1 : p ≠ b1) (hp2 : p ≠ b2) (hp3 : p ≠ b3)
    (h2 : s.now = -1) (h3 : s.done j = false) :
    Calls Tryz.prog 395 #[.agg #[.int .i64 k, .int .i64 j, .int .i64 (inc (s.tries j))], .pointer (some ⟨p, 0, none⟩)] w fun e w' => e = .returned (.bool true) ∧ Stepped n p b1 b2 b3 (begun s j) w w' := by
  have hlp : p < w.heap.size := (Array.getElem?_eq_some_iff.1 hS).1
  have c0 : w.cell? ⟨p, 0, none⟩ = some (.slice (some ⟨b1, 0, none⟩) n n) := struct_cell hS rfl
  have c1 : w.cell? ⟨p, 1, none⟩ = some (.slice (some ⟨b2, 0, none⟩) n n) := struct_cell hS rfl
  have c2 : w.cell? ⟨p, 2, none⟩ = some (.slice (some ⟨b3, 0, none⟩) n n) := struct_cell hS rfl
  have c3 : w.cell? ⟨p, 3, none⟩ = some (.int .i64 s.now) := struct_cell hS rfl
  have f3 : w.frozen? ⟨p, 3, none⟩ = false := struct_free hS
  have ct : w.cell? ⟨b1, j, none⟩ = some (.int .i64 (s.tries j)) := hR.tries.cell hj
  have ft : w.frozen? ⟨b1, j, none⟩ = false := hR.tries.frozen j
  have cd : w.cell? ⟨b2, j, none⟩ = some (.bool (s.done j)) := hR.done.cell hj
  rw [h2] at c3
  rw [h3] at cd
  have H : Hid (w.heap[p]? = some (spO n b1 b2 b3 s) ∧ SpIn w n b1 b2 b3 s ∧ s.now = -1 ∧ s.done j = false) := ⟨hS, hR, h2, h3⟩
  clear hS hR h2 h3
  generalize hu : inc (s.tries j) = u
  have ca0 : ∀ o, (w.alloc o).cell? ⟨p, 0, none⟩ = some (.slice (some ⟨b1, 0, none⟩) n n) := fun o => alloc_cell c0 o
  have ca1 : ∀ o, (w.alloc o).cell? ⟨p, 1, none⟩ = some (.slice (some ⟨b2, 0, none⟩) n n) := fun o => alloc_cell c1 o
  have ca2 : ∀ o, (w.alloc o).cell? ⟨p, 2, none⟩ = some (.slice (some ⟨b3, 0, none⟩) n n) := fun o => alloc_cell c2 o
  have ca3 : ∀ o, (w.alloc o).cell? ⟨p, 3, none⟩ = some (.int .i64 (-1)) := fun o => alloc_cell c3 o
  have cat : ∀ o, (w.alloc o).cell? ⟨b1, j, none⟩ = some (.int .i64 (s.tries j)) := fun o => alloc_cell ct o
  have cad : ∀ o, (w.alloc o).cell? ⟨b2, j, none⟩ = some (.bool false) := fun o => alloc_cell cd o
  have hne : (u != wrap64 (s.tries j + 1)) = false := by rw [← hu]; simp [inc]
  have HU : Hid (inc (s.tries j) = u) := hu
  clear hu
  have fat : ∀ o, (w.alloc o).frozen? ⟨b1, j, none⟩ = false := fun o => alloc_free ct ft o
  have faz : ∀ o, (w.alloc o).frozen? ⟨p, 3, none⟩ = false := fun o => alloc_free c3 f3 o
  have e1 := far_cell b1 j w.heap.size (by have := World.block_lt_of_cell? w _ ct; exact Nat.ne_of_lt this)
  have e2 := far_cell b1 j p (fun e => hp1 e.symm)
  go_enter Tryz.func395, Tryz.ntmps395
  go_wp2
  have hi0 : (w.alloc (.cells #[.int .i64 k, .int .i64 j, .int .i64 u] 161)).cell? ⟨w.heap.size, 1, none⟩ = some (.int .i64 j) := new_cell _ _ _ rfl
  have hi1 : (w.alloc (.cells #[.int .i64 k, .int .i64 j, .int .i64 u] 161)).cell? ⟨w.heap.size, 2, none⟩ = some (.int .i64 u) := new_cell _ _ _ rfl
  go_quiet ((go_at_call 396; refine Calls.quiet_of_same (idle_calls (n := n) (b1 := b1) (b2 := b2) (b3 := b3) hj (ca0 _) (ca1 _) (ca2 _) (ca3 _) (cad _))))
  go_wp2
  go_region
  go_wp2
  refine bodyPost_ret (v := .bool true) (by simp [results, Tryz.results395, go_sem]) rfl ⟨rfl, ?_⟩
  obtain ⟨hS, hR, h2, h3⟩ := H.out
  have HU' := HU.out
  subst HU'
  refine ⟨?_, ?_, fun B h4 h5 h6 h7 h8 => ?_⟩
  · exact struct_set (c := #[.slice (some ⟨b1, 0, none⟩) n n, .slice (some ⟨b2, 0, none⟩) n n, .slice (some ⟨b3, 0, none⟩) n n, .int .i64 s.now, .bool s.sealed]) (by rw [blk_setCell_other _ _ _ _ hp1, blk_drewN, blk_alloc_lt _ _ _ hlp]; exact hS) _
  · exact ((((hR.alloc _).drewN _).setTries j _).setP hp1 hp2 hp3 _ _).congr (fun _ _ => rfl) (fun _ _ => rfl) (fun _ _ => rfl)
  · exact ((below_drewN ((Below.refl B w).alloc h8 _) _).setCell (p := ⟨b1, j, none⟩) h5 _).setCell (p := ⟨p, 3, none⟩) h4 _
set_option maxRecDepth 10000 in
set_option maxHeartbeats 4000000 in
theorem finished_walk (w : World) (n p b1 b2 b3 j : Nat) (s : Sp) (k c : Int) (hj : j < n) (hn : n ≤ 1000) (hS : w.heap[p]? = some (spO n b1 b2 b3 s)) (hR : SpIn w n b1 b2 b3 s) (hp1 : p ≠ b1) (hp2 : p ≠ b2) (hp3 : p ≠ b3)
    (h2 : s.now = j) (h3 : s.tries j = c) :
    Calls Tryz.prog 397 #[.agg #[.int .i64 k, .int .i64 j, .int .i64 c], .pointer (some ⟨p, 0, none⟩)] w fun e w' => e = .returned (.bool true) ∧ Stepped n p b1 b2 b3 (ended s j) w w' := by
  have hlp : p < w.heap.size := (Array.getElem?_eq_some_iff.1 hS).1
  have c0 : w.cell? ⟨p, 0, none⟩ = some (.slice (some ⟨b1, 0, none⟩) n n) := struct_cell hS rfl
  have c1 : w.cell? ⟨p, 1, none⟩ = some (.slice (some ⟨b2, 0, none⟩) n n) := struct_cell hS rfl
  have c2 : w.cell? ⟨p, 2, none⟩ = some (.slice (some ⟨b3, 0, none⟩) n n) := struct_cell hS rfl
  have c3 : w.cell? ⟨p, 3, none⟩ = some (.int .i64 s.now) := struct_cell hS rfl
  have f3 : w.frozen? ⟨p, 3, none⟩ = false := struct_free hS
  have ct : w.cell? ⟨b1, j, none⟩ = some (.int .i64 (s.tries j)) := hR.tries.cell hj
  have cd : w.cell? ⟨b2, j, none⟩ = some (.bool (s.done j)) := hR.done.cell hj
  have fd : w.frozen? ⟨b2, j, none⟩ = false := hR.done.frozen j
  rw [h2] at c3
  rw [h3] at ct
  have H : Hid (w.heap[p]? = some (spO n b1 b2 b3 s) ∧ SpIn w n b1 b2 b3 s ∧ s.now = j ∧ s.tries j = c) := ⟨hS, hR, h2, h3⟩
  clear hS hR h2 h3
  have ca0 : ∀ o, (w.alloc o).cell? ⟨p, 0, none⟩ = some (.slice (some ⟨b1, 0, none⟩) n n) := fun o => alloc_cell c0 o
  have ca1 : ∀ o, (w.alloc o).cell? ⟨p, 1, none⟩ = some (.slice (some ⟨b2, 0, none⟩) n n) := fun o => alloc_cell c1 o
  have ca2 : ∀ o, (w.alloc o).cell? ⟨p, 2, none⟩ = some (.slice (some ⟨b3, 0, none⟩) n n) := fun o => alloc_cell c2 o
  have ca3 : ∀ o, (w.alloc o).cell? ⟨p, 3, none⟩ = some (.int .i64 j) := fun o => alloc_cell c3 o
  have cat : ∀ o, (w.alloc o).cell? ⟨b1, j, none⟩ = some (.int .i64 c) := fun o => alloc_cell ct o
  have cad : ∀ o, (w.alloc o).cell? ⟨b2, j, none⟩ = some (.bool (s.done j)) := fun o => alloc_cell cd o
  have fad : ∀ o, (w.alloc o).frozen? ⟨b2, j, none⟩ = false := fun o => alloc_free cd fd o
  have faz : ∀ o, (w.alloc o).frozen? ⟨p, 3, none⟩ = false := fun o => alloc_free c3 f3 o
  have e1 := far_cell b2 j w.heap.size (by have := World.block_lt_of_cell? w _ cd; exact Nat.ne_of_lt this)
  have e2 := far_cell b2 j p (fun e => hp2 e.symm)
  go_enter Tryz.func397, Tryz.ntmps397
  go_wp2_with (go_at_call 398; refine (busy_calls (n := n) (b1 := b1) (b2 := b2) (b3 := b3) hj (ca0 _) (ca1 _) (ca2 _) (ca3 _) (cat _)).mono ?_; rintro e w' ⟨rfl, rfl⟩)
  go_region
  go_wp2
  refine bodyPost_ret (v := .bool true) (by simp [results, Tryz.results397, go_sem]) rfl ⟨rfl, ?_⟩
  obtain ⟨hS, hR, h2, h3⟩ := H.out
  refine ⟨?_, ?_, fun B h4 h5 h6 h7 h8 => ?_⟩
  · exact struct_set (c := #[.slice (some ⟨b1, 0, none⟩) n n, .slice (some ⟨b2, 0, none⟩) n n, .slice (some ⟨b3, 0, none⟩) n n, .int .i64 s.now, .bool s.sealed]) (by rw [blk_setCell_other _ _ _ _ hp2]; exact (blk_alloc_lt _ _ _ hlp).trans hS) _
  · exact ((((hR.alloc _).drew).setDone j _).setP hp1 hp2 hp3 _ _).congr (fun _ _ => rfl) (fun _ _ => rfl) (fun _ _ => rfl)
  · exact ((((Below.refl B w).alloc h8 _).drew).setCell (p := ⟨b2, j, none⟩) h6 _).setCell (p := ⟨p, 3, none⟩) h4 _
set_option maxRecDepth 10000 in
set_option maxHeartbeats 4000000 in
theorem spoilt_walk (w : World) (n p b1 b2 b3 j : Nat) (s : Sp) (k c : Int) (hj : j < n) (hn : n ≤ 1000) (hS : w.heap[p]? = some (spO n b1 b2 b3 s)) (hR : SpIn w n b1 b2 b3 s) (hp1 : p ≠ b1) (hp2 : p ≠ b2) (hp3 : p ≠ b3)
    (h2 : s.now = j) (h3 : s.tries j = c) :
    Calls Tryz.prog 399 #[.agg #[.int .i64 k, .int .i64 j, .int .i64 c], .pointer (some ⟨p, 0, none⟩)] w fun e w' => e = .returned (.bool true) ∧ Stepped n p b1 b2 b3 (spoiled s) w w' := by
  have hlp : p < w.heap.size := (Array.getElem?_eq_some_iff.1 hS).1
  have c0 : w.cell? ⟨p, 0, none⟩ = some (.slice (some ⟨b1, 0, none⟩) n n) := struct_cell hS rfl
  have c1 : w.cell? ⟨p, 1, none⟩ = some (.slice (some ⟨b2, 0, none⟩) n n) := struct_cell hS rfl
  have c2 : w.cell? ⟨p, 2, none⟩ = some (.slice (some ⟨b3, 0, none⟩) n n) := struct_cell hS rfl
  have c3 : w.cell? ⟨p, 3, none⟩ = some (.int .i64 s.now) := struct_cell hS rfl
  have f3 : w.frozen? ⟨p, 3, none⟩ = false := struct_free hS
  have ct : w.cell? ⟨b1, j, none⟩ = some (.int .i64 (s.tries j)) := hR.tries.cell hj
  have cd : w.cell? ⟨b2, j, none⟩ = some (.bool (s.done j)) := hR.done.cell hj
  have fd : w.frozen? ⟨b2, j, none⟩ = false := hR.done.frozen j
  rw [h2] at c3
  rw [h3] at ct
  have H : Hid (w.heap[p]? = some (spO n b1 b2 b3 s) ∧ SpIn w n b1 b2 b3 s ∧ s.now = j ∧ s.tries j = c) := ⟨hS, hR, h2, h3⟩
  clear hS hR h2 h3
  have ca0 : ∀ o, (w.alloc o).cell? ⟨p, 0, none⟩ = some (.slice (some ⟨b1, 0, none⟩) n n) := fun o => alloc_cell c0 o
  have ca1 : ∀ o, (w.alloc o).cell? ⟨p, 1, none⟩ = some (.slice (some ⟨b2, 0, none⟩) n n) := fun o => alloc_cell c1 o
  have ca2 : ∀ o, (w.alloc o).cell? ⟨p, 2, none⟩ = some (.slice (some ⟨b3, 0, none⟩) n n) := fun o => alloc_cell c2 o
  have ca3 : ∀ o, (w.alloc o).cell? ⟨p, 3, none⟩ = some (.int .i64 j) := fun o => alloc_cell c3 o
  have cat : ∀ o, (w.alloc o).cell? ⟨b1, j, none⟩ = some (.int .i64 c) := fun o => alloc_cell ct o
  have cad : ∀ o, (w.alloc o).cell? ⟨b2, j, none⟩ = some (.bool (s.done j)) := fun o => alloc_cell cd o
  have fad : ∀ o, (w.alloc o).frozen? ⟨b2, j, none⟩ = false := fun o => alloc_free cd fd o
  have faz : ∀ o, (w.alloc o).frozen? ⟨p, 3, none⟩ = false := fun o => alloc_free c3 f3 o
  have e1 := far_cell b2 j w.heap.size (by have := World.block_lt_of_cell? w _ cd; exact Nat.ne_of_lt this)
  have e2 := far_cell b2 j p (fun e => hp2 e.symm)
  go_enter Tryz.func399, Tryz.ntmps399
  go_wp2_with (go_at_call 398; refine (busy_calls (n := n) (b1 := b1) (b2 := b2) (b3 := b3) hj (ca0 _) (ca1 _) (ca2 _) (ca3 _) (cat _)).mono ?_; rintro e w' ⟨rfl, rfl⟩)
  go_wp2
  refine bodyPost_ret (v := .bool true) (by simp [results, Tryz.results399, go_sem]) rfl ⟨rfl, ?_⟩
  obtain ⟨hS, hR, h2, h3⟩ := H.out
  refine ⟨?_, ?_, fun B h4 h5 h6 h7 h8 => ?_⟩
  · exact (blk_alloc_lt _ _ _ (by simpa using hlp)).trans (struct_set (c := #[.slice (some ⟨b1, 0, none⟩) n n, .slice (some ⟨b2, 0, none⟩) n n, .slice (some ⟨b3, 0, none⟩) n n, .int .i64 s.now, .bool s.sealed]) hS _)
  · exact ((hR.setP hp1 hp2 hp3 _ _).alloc _).congr (fun _ _ => rfl) (fun _ _ => rfl) (fun _ _ => rfl)
  · exact ((Below.refl B w).setCell (p := ⟨p, 3, none⟩) h4 _).alloc (by simpa using h8) _
set_option maxRecDepth 10000 in
set_option maxHeartbeats 4000000 in
theorem reused_walk (w : World) (n p b1 b2 b3 j : Nat) (s : Sp) (k c : Int) (hj : j < n) (hn : n ≤ 1000) (hS : w.heap[p]? = some (spO n b1 b2 b3 s)) (hR : SpIn w n b1 b2 b3 s) (hp1 : p ≠ b1) (hp2 : p ≠ b2) (hp3 : p ≠ b3)
    (h2 : s.now = -1) (h3 : s.done j = false) (h4 : 0 ≤ c) (h5 : ∀ k, k < n → s.taken k ≠ c) :
    Calls Tryz.prog 400 #[.agg #[.int .i64 k, .int .i64 j, .int .i64 c], .pointer (some ⟨p, 0, none⟩)] w fun e w' => e = .returned (.bool true) ∧ Stepped n p b1 b2 b3 (reusedBy s j c) w w' := by
  have hlp : p < w.heap.size := (Array.getElem?_eq_some_iff.1 hS).1
  have hcon : Hid (∀ o m, Calls Tryz.prog 24 #[.slice (some ⟨b3, 0, none⟩) n n, .int .i64 c] ((w.alloc o).drewN m) fun e w' => e = .returned (.bool false) ∧ w' = (w.alloc o).drewN m) := fun o m => by
    have := containsi_walk ((w.alloc o).drewN m) b3 n c s.taken hn (fun k hk => alloc_cell (hR.taken.cell hk) o)
    rw [decide_eq_true h5] at this
    exact this
  have c0 : w.cell? ⟨p, 0, none⟩ = some (.slice (some ⟨b1, 0, none⟩) n n) := struct_cell hS rfl
  have c1 : w.cell? ⟨p, 1, none⟩ = some (.slice (some ⟨b2, 0, none⟩) n n) := struct_cell hS rfl
  have c2 : w.cell? ⟨p, 2, none⟩ = some (.slice (some ⟨b3, 0, none⟩) n n) := struct_cell hS rfl
  have c3 : w.cell? ⟨p, 3, none⟩ = some (.int .i64 s.now) := struct_cell hS rfl
  have f3 : w.frozen? ⟨p, 3, none⟩ = false := struct_free hS
  have ct : w.cell? ⟨b1, j, none⟩ = some (.int .i64 (s.tries j)) := hR.tries.cell hj
  have ft : w.frozen? ⟨b1, j, none⟩ = false := hR.tries.frozen j
  have cd : w.cell? ⟨b2, j, none⟩ = some (.bool (s.done j)) := hR.done.cell hj
  have fd : w.frozen? ⟨b2, j, none⟩ = false := hR.done.frozen j
  have ck : w.cell? ⟨b3, j, none⟩ = some (.int .i64 (s.taken j)) := hR.taken.cell hj
  have fk : w.frozen? ⟨b3, j, none⟩ = false := hR.taken.frozen j
  rw [h2] at c3
  rw [h3] at cd
  have H : Hid (w.heap[p]? = some (spO n b1 b2 b3 s) ∧ SpIn w n b1 b2 b3 s ∧ s.now = -1 ∧ s.done j = false ∧ ∀ k, k < n → s.taken k ≠ c) := ⟨hS, hR, h2, h3, h5⟩
  have h23 := hR.h23
  clear hS hR h2 h3 h5
  have ca0 : ∀ o, (w.alloc o).cell? ⟨p, 0, none⟩ = some (.slice (some ⟨b1, 0, none⟩) n n) := fun o => alloc_cell c0 o
  have ca1 : ∀ o, (w.alloc o).cell? ⟨p, 1, none⟩ = some (.slice (some ⟨b2, 0, none⟩) n n) := fun o => alloc_cell c1 o
  have ca2 : ∀ o, (w.alloc o).cell? ⟨p, 2, none⟩ = some (.slice (some ⟨b3, 0, none⟩) n n) := fun o => alloc_cell c2 o
  have ca3 : ∀ o, (w.alloc o).cell? ⟨p, 3, none⟩ = some (.int .i64 (-1)) := fun o => alloc_cell c3 o
  have cad : ∀ o, (w.alloc o).cell? ⟨b2, j, none⟩ = some (.bool false) := fun o => alloc_cell cd o
  have fad : ∀ o, (w.alloc o).frozen? ⟨b2, j, none⟩ = false := fun o => alloc_free cd fd o
  have cak : ∀ o, (w.alloc o).cell? ⟨b3, j, none⟩ = some (.int .i64 (s.taken j)) := fun o => alloc_cell ck o
  have fak : ∀ o, (w.alloc o).frozen? ⟨b3, j, none⟩ = false := fun o => alloc_free ck fk o
  have e1 := far_cell b2 j w.heap.size (by have := World.block_lt_of_cell? w _ cd; exact Nat.ne_of_lt this)
  have e2 := far_cell b2 j p (fun e => hp2 e.symm)
  have e3 := far_cell b2 j b3 h23
  have hne : ¬ c < 0 := by omega
  go_enter Tryz.func400, Tryz.ntmps400
  go_wp2
  have hi0 : (w.alloc (.cells #[.int .i64 k, .int .i64 j, .int .i64 c] 164)).cell? ⟨w.heap.size, 1, none⟩ = some (.int .i64 j) := new_cell _ _ _ rfl
  have hi1 : (w.alloc (.cells #[.int .i64 k, .int .i64 j, .int .i64 c] 164)).cell? ⟨w.heap.size, 2, none⟩ = some (.int .i64 c) := new_cell _ _ _ rfl
  go_quiet (first | (go_at_call 396; refine Calls.quiet_of_same (idle_calls (n := n) (b1 := b1) (b2 := b2) (b3 := b3) hj (ca0 _) (ca1 _) (ca2 _) (ca3 _) (cad _))) | (go_at_call 24; refine Calls.quiet_of_same (hcon.out _ _)))
  go_wp2
  go_region
  go_wp2
  go_region
  go_wp2
  refine bodyPost_ret (v := .bool true) (by simp [results, Tryz.results400, go_sem]) rfl ⟨rfl, ?_⟩
  obtain ⟨hS, hR, h2, h3, h5⟩ := H.out
  refine ⟨?_, ?_, fun B h4 h5 h6 h7 h8 => ?_⟩
  · exact (blk_setCell_other _ _ _ _ hp3).trans ((blk_setCell_other _ _ _ _ hp2).trans ((blk_alloc_lt _ _ _ hlp).trans hS))
  · exact ((((hR.alloc _).drewN _).setDone j _).setTaken j _).drew.congr (fun _ _ => rfl) (fun _ _ => rfl) (fun _ _ => rfl)
  · exact (((below_drewN ((Below.refl B w).alloc h8 _) _).setCell (p := ⟨b2, j, none⟩) h6 _).setCell (p := ⟨b3, j, none⟩) h7 _).drew
set_option maxRecDepth 10000 in
set_option maxHeartbeats 4000000 in
theorem sealed_walk (w : World) (n p b1 b2 b3 : Nat) (s : Sp) (k : Int) (hn : n ≤ 1000) (hS : w.heap[p]? = some (spO n b1 b2 b3 s)) (hR : SpIn w n b1 b2 b3 s) (hp1 : p ≠ b1) (hp2 : p ≠ b2) (hp3 : p ≠ b3)
    (h2 : s.now = -1) (h3 : ∀ k, k < n → s.done k = true) :
    Calls Tryz.prog 401 #[.agg #[.int .i64 k, .int .i64 0, .int .i64 0], .pointer (some ⟨p, 0, none⟩)] w fun e w' => e = .returned (.bool true) ∧ Stepped n p b1 b2 b3 (shut s) w w' := by
  have hlp : p < w.heap.size := (Array.getElem?_eq_some_iff.1 hS).1
  have hcon : Hid (∀ o, Calls Tryz.prog 402 #[.slice (some ⟨b2, 0, none⟩) n n, .bool false] (w.alloc o) fun e w' => e = .returned (.bool false) ∧ w' = (w.alloc o)) := fun o =>
    containsb_walk (w.alloc o) b2 n s.done hn h3 (fun k hk => alloc_cell (hR.done.cell hk) o)
  have c1 : w.cell? ⟨p, 1, none⟩ = some (.slice (some ⟨b2, 0, none⟩) n n) := struct_cell hS rfl
  have c3 : w.cell? ⟨p, 3, none⟩ = some (.int .i64 s.now) := struct_cell hS rfl
  have c4 : w.cell? ⟨p, 4, none⟩ = some (.bool s.sealed) := struct_cell hS rfl
  have f4 : w.frozen? ⟨p, 4, none⟩ = false := struct_free hS
  rw [h2] at c3
  have H : Hid (w.heap[p]? = some (spO n b1 b2 b3 s) ∧ SpIn w n b1 b2 b3 s ∧ s.now = -1 ∧ (∀ k, k < n → s.done k = true)) := ⟨hS, hR, h2, h3⟩
  clear hS hR h2 h3
  have ca1 : ∀ o, (w.alloc o).cell? ⟨p, 1, none⟩ = some (.slice (some ⟨b2, 0, none⟩) n n) := fun o => alloc_cell c1 o
  have ca3 : ∀ o, (w.alloc o).cell? ⟨p, 3, none⟩ = some (.int .i64 (-1)) := fun o => alloc_cell c3 o
  have ca4 : ∀ o, (w.alloc o).cell? ⟨p, 4, none⟩ = some (.bool s.sealed) := fun o => alloc_cell c4 o
  have fa4 : ∀ o, (w.alloc o).frozen? ⟨p, 4, none⟩ = false := fun o => alloc_free c4 f4 o
  go_enter Tryz.func401, Tryz.ntmps401
  go_wp2_with (go_at_call 402; refine (hcon.out _).mono ?_; rintro e w' ⟨rfl, rfl⟩)
  refine bodyPost_ret (v := .bool true) (by simp [results, Tryz.results401, go_sem]) rfl ⟨rfl, ?_⟩
  obtain ⟨hS, hR, h2, h3⟩ := H.out
  refine ⟨?_, ?_, fun B h4 h5 h6 h7 h8 => ?_⟩
  · exact (blk_alloc_lt _ _ _ (by simpa using hlp)).trans (struct_set (c := #[.slice (some ⟨b1, 0, none⟩) n n, .slice (some ⟨b2, 0, none⟩) n n, .slice (some ⟨b3, 0, none⟩) n n, .int .i64 s.now, .bool s.sealed]) hS _)
  · exact ((hR.setP hp1 hp2 hp3 _ _).alloc _).congr (fun _ _ => rfl) (fun _ _ => rfl) (fun _ _ => rfl)
  · exact ((Below.refl B w).setCell (p := ⟨p, 4, none⟩) h4 _).alloc (by simpa using h8) _
end Go.Proofs.YtndjhcmgngnfbaaGreatDoor
