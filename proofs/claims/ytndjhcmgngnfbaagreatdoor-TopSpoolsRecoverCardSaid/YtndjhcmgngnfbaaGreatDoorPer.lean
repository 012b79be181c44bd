/- The walk of perform: a record that applies. No condition but that it applies. -/
import Derived.Test.YtndjhcmgngnfbaaGreatDoorApp
set_option linter.unusedSimpArgs false
set_option linter.unusedVariables false
set_option linter.all false
namespace Go.Proofs.YtndjhcmgngnfbaaGreatDoor
open Go Go.RowKit Go.Deep
set_option maxRecDepth 10000 in
set_option maxHeartbeats 4000000 in
theorem perform_walk (w : World) (n p b1 b2 b3 : Nat) (s s' : Sp) (r : Rc) (hg : Goes n s r s') (hn : n ≤ 1000) (hS : w.heap[p]? = some (spO n b1 b2 b3 s)) (hR : SpIn w n b1 b2 b3 s) (hp1 : p ≠ b1) (hp2 : p ≠ b2) (hp3 : p ≠ b3) :
    Calls Tryz.prog 26 #[.pointer (some ⟨p, 0, none⟩), .agg #[.int .i64 r.k, .int .i64 r.a, .int .i64 r.b]] w fun e w' => e = .returned (.bool true) ∧ Stepped n p b1 b2 b3 s' w w' := by
  have hlp : p < w.heap.size := (Array.getElem?_eq_some_iff.1 hS).1
  have c4 : w.cell? ⟨p, 4, none⟩ = some (.bool s.sealed) := struct_cell hS rfl
  cases hg with
  | began j hj h1 h2 h3 =>
    rw [h1] at c4
    have ca4 : ∀ o, (w.alloc o).cell? ⟨p, 4, none⟩ = some (.bool false) := fun o => alloc_cell c4 o
    have H : Hid (∀ o, Calls Tryz.prog 395 #[.agg #[.int .i64 1, .int .i64 j, .int .i64 (inc (s.tries j))], .pointer (some ⟨p, 0, none⟩)] (w.alloc o) fun e w' => e = .returned (.bool true) ∧ Stepped n p b1 b2 b3 (begun s j) (w.alloc o) w') := fun o =>
      began_walk (w.alloc o) n p b1 b2 b3 j s 1 hj hn ((blk_alloc_lt _ _ _ hlp).trans hS) (hR.alloc o) hp1 hp2 hp3 h2 h3
    clear hS hR
    generalize inc (s.tries j) = u at *
    have hm : ∀ w, (method 704 161 (.agg #[.int .i64 1, .int .i64 j, .int .i64 u]) "sixdot/spool.apply").run Tryz.prog w = .ok (395, .agg #[.int .i64 1, .int .i64 j, .int .i64 u]) w := fun _ => by kernel_rfl
    go_enter Tryz.func26, Tryz.ntmps26
    go_wp2_with (go_at_call 395; refine (H.out _).mono ?_; rintro e w' ⟨rfl, hst⟩)
    refine bodyPost_ret (v := .bool true) (by simp [results, Tryz.results26, go_sem]) rfl ⟨rfl, hst.struct, hst.rows, fun B h4 h5 h6 h7 h8 => ?_⟩
    exact ((Below.refl B w).alloc h8 _).trans (hst.below B h4 h5 h6 h7 (by simp; omega))
  | finished j c hj h1 h2 h3 =>
    rw [h1] at c4
    have ca4 : ∀ o, (w.alloc o).cell? ⟨p, 4, none⟩ = some (.bool false) := fun o => alloc_cell c4 o
    have H : Hid (∀ o, Calls Tryz.prog 397 #[.agg #[.int .i64 2, .int .i64 j, .int .i64 c], .pointer (some ⟨p, 0, none⟩)] (w.alloc o) fun e w' => e = .returned (.bool true) ∧ Stepped n p b1 b2 b3 (ended s j) (w.alloc o) w') := fun o =>
      finished_walk (w.alloc o) n p b1 b2 b3 j s 2 c hj hn ((blk_alloc_lt _ _ _ hlp).trans hS) (hR.alloc o) hp1 hp2 hp3 h2 h3
    clear hS hR
    have hm : ∀ w, (method 704 162 (.agg #[.int .i64 2, .int .i64 j, .int .i64 c]) "sixdot/spool.apply").run Tryz.prog w = .ok (397, .agg #[.int .i64 2, .int .i64 j, .int .i64 c]) w := fun _ => by kernel_rfl
    go_enter Tryz.func26, Tryz.ntmps26
    go_wp2_with (go_at_call 397; refine (H.out _).mono ?_; rintro e w' ⟨rfl, hst⟩)
    refine bodyPost_ret (v := .bool true) (by simp [results, Tryz.results26, go_sem]) rfl ⟨rfl, hst.struct, hst.rows, fun B h4 h5 h6 h7 h8 => ?_⟩
    exact ((Below.refl B w).alloc h8 _).trans (hst.below B h4 h5 h6 h7 (by simp; omega))
  | spoilt j c hj h1 h2 h3 =>
    rw [h1] at c4
    have ca4 : ∀ o, (w.alloc o).cell? ⟨p, 4, none⟩ = some (.bool false) := fun o => alloc_cell c4 o
    have H : Hid (∀ o, Calls Tryz.prog 399 #[.agg #[.int .i64 3, .int .i64 j, .int .i64 c], .pointer (some ⟨p, 0, none⟩)] (w.alloc o) fun e w' => e = .returned (.bool true) ∧ Stepped n p b1 b2 b3 (spoiled s) (w.alloc o) w') := fun o =>
      spoilt_walk (w.alloc o) n p b1 b2 b3 j s 3 c hj hn ((blk_alloc_lt _ _ _ hlp).trans hS) (hR.alloc o) hp1 hp2 hp3 h2 h3
    clear hS hR
    have hm : ∀ w, (method 704 163 (.agg #[.int .i64 3, .int .i64 j, .int .i64 c]) "sixdot/spool.apply").run Tryz.prog w = .ok (399, .agg #[.int .i64 3, .int .i64 j, .int .i64 c]) w := fun _ => by kernel_rfl
    go_enter Tryz.func26, Tryz.ntmps26
    go_wp2_with (go_at_call 399; refine (H.out _).mono ?_; rintro e w' ⟨rfl, hst⟩)
    refine bodyPost_ret (v := .bool true) (by simp [results, Tryz.results26, go_sem]) rfl ⟨rfl, hst.struct, hst.rows, fun B h4 h5 h6 h7 h8 => ?_⟩
    exact ((Below.refl B w).alloc h8 _).trans (hst.below B h4 h5 h6 h7 (by simp; omega))
  | reused j c hj h1 h2 h3 h4 h5 =>
    rw [h1] at c4
    have ca4 : ∀ o, (w.alloc o).cell? ⟨p, 4, none⟩ = some (.bool false) := fun o => alloc_cell c4 o
    have H : Hid (∀ o, Calls Tryz.prog 400 #[.agg #[.int .i64 4, .int .i64 j, .int .i64 c], .pointer (some ⟨p, 0, none⟩)] (w.alloc o) fun e w' => e = .returned (.bool true) ∧ Stepped n p b1 b2 b3 (reusedBy s j c) (w.alloc o) w') := fun o =>
      reused_walk (w.alloc o) n p b1 b2 b3 j s 4 c hj hn ((blk_alloc_lt _ _ _ hlp).trans hS) (hR.alloc o) hp1 hp2 hp3 h2 h3 h4 h5
    clear hS hR
    clear h5
    have hm : ∀ w, (method 704 164 (.agg #[.int .i64 4, .int .i64 j, .int .i64 c]) "sixdot/spool.apply").run Tryz.prog w = .ok (400, .agg #[.int .i64 4, .int .i64 j, .int .i64 c]) w := fun _ => by kernel_rfl
    go_enter Tryz.func26, Tryz.ntmps26
    go_wp2_with (go_at_call 400; refine (H.out _).mono ?_; rintro e w' ⟨rfl, hst⟩)
    refine bodyPost_ret (v := .bool true) (by simp [results, Tryz.results26, go_sem]) rfl ⟨rfl, hst.struct, hst.rows, fun B h4 h5 h6 h7 h8 => ?_⟩
    exact ((Below.refl B w).alloc h8 _).trans (hst.below B h4 h5 h6 h7 (by simp; omega))
  | sealed h1 h2 h3 =>
    rw [h1] at c4
    have ca4 : ∀ o, (w.alloc o).cell? ⟨p, 4, none⟩ = some (.bool false) := fun o => alloc_cell c4 o
    have H : Hid (∀ o, Calls Tryz.prog 401 #[.agg #[.int .i64 5, .int .i64 0, .int .i64 0], .pointer (some ⟨p, 0, none⟩)] (w.alloc o) fun e w' => e = .returned (.bool true) ∧ Stepped n p b1 b2 b3 (shut s) (w.alloc o) w') := fun o =>
      sealed_walk (w.alloc o) n p b1 b2 b3 s 5 hn ((blk_alloc_lt _ _ _ hlp).trans hS) (hR.alloc o) hp1 hp2 hp3 h2 h3
    clear hS hR
    clear h3
    have hm : ∀ w, (method 704 165 (.agg #[.int .i64 5, .int .i64 0, .int .i64 0]) "sixdot/spool.apply").run Tryz.prog w = .ok (401, .agg #[.int .i64 5, .int .i64 0, .int .i64 0]) w := fun _ => by kernel_rfl
    go_enter Tryz.func26, Tryz.ntmps26
    go_wp2_with (go_at_call 401; refine (H.out _).mono ?_; rintro e w' ⟨rfl, hst⟩)
    refine bodyPost_ret (v := .bool true) (by simp [results, Tryz.results26, go_sem]) rfl ⟨rfl, hst.struct, hst.rows, fun B h4 h5 h6 h7 h8 => ?_⟩
    exact ((Below.refl B w).alloc h8 _).trans (hst.below B h4 h5 h6 h7 (by simp; omega))
end Go.Proofs.YtndjhcmgngnfbaaGreatDoor
