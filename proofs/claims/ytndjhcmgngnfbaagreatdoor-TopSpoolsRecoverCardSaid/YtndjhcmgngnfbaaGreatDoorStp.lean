/- The walk of Step: a record that applies. No condition but that it applies. -/
import Derived.Test.YtndjhcmgngnfbaaGreatDoorCpy
import Derived.Test.YtndjhcmgngnfbaaGreatDoorPer
set_option linter.unusedSimpArgs false
set_option linter.unusedVariables false
set_option linter.all false
namespace Go.Proofs.YtndjhcmgngnfbaaGreatDoor
open Go Go.RowKit Go.Deep
theorem allocs3 (w : World) (o1 o2 o3 : Obj) : (((w.alloc o1).alloc o2).alloc o3).heap[w.heap.size]? = some o1 ∧ (((w.alloc o1).alloc o2).alloc o3).heap[w.heap.size + 1]? = some o2 ∧ (((w.alloc o1).alloc o2).alloc o3).heap[w.heap.size + 1 + 1]? = some o3 ∧ Below w.heap.size w (((w.alloc o1).alloc o2).alloc o3) ∧ (((w.alloc o1).alloc o2).alloc o3).heap.size = w.heap.size + 1 + 1 + 1 := by
  refine ⟨?_, ?_, ?_, ?_, by simp⟩
  · rw [blk_alloc_lt _ _ _ (by simp <;> omega), blk_alloc_lt _ _ _ (by simp)]
    exact blk_alloc_new _ _
  · rw [blk_alloc_lt _ _ _ (by simp)]
    have := blk_alloc_new (w.alloc o1) o2
    rw [World.size_alloc] at this
    exact this
  · have := blk_alloc_new ((w.alloc o1).alloc o2) o3
    rw [World.size_alloc, World.size_alloc] at this
    exact this
  · exact (((Below.refl _ w).alloc (Nat.le_refl _) _).alloc (by simp) _).alloc (by simp <;> omega) _
def zeroSp : Array Value := #[.slice none 0 0, .slice none 0 0, .slice none 0 0, .int .i64 0, .bool false]
theorem zero_cells {W : World} {N : Nat} (h : W.heap[N]? = some (.cells #[.slice none 0 0, .slice none 0 0, .slice none 0 0, .int .i64 0, .bool false] 34 (0, 0))) :
    W.cell? ⟨N, 0, none⟩ = some (.slice none 0 0) ∧ W.cell? ⟨N, 1, none⟩ = some (.slice none 0 0) ∧ W.cell? ⟨N, 2, none⟩ = some (.slice none 0 0) ∧ W.cell? ⟨N, 3, none⟩ = some (.int .i64 0) ∧ W.cell? ⟨N, 4, none⟩ = some (.bool false) ∧
    W.frozen? ⟨N, 0, none⟩ = false ∧ W.frozen? ⟨N, 1, none⟩ = false ∧ W.frozen? ⟨N, 2, none⟩ = false ∧ W.frozen? ⟨N, 3, none⟩ = false ∧ W.frozen? ⟨N, 4, none⟩ = false :=
  ⟨struct_cell h rfl, struct_cell h rfl, struct_cell h rfl, struct_cell h rfl, struct_cell h rfl, struct_free h, struct_free h, struct_free h, struct_free h, struct_free h⟩
theorem sp_cells {W : World} {p n b1 b2 b3 : Nat} {s : Sp} (h : W.heap[p]? = some (spO n b1 b2 b3 s)) :
    W.cell? ⟨p, 0, none⟩ = some (.slice (some ⟨b1, 0, none⟩) n n) ∧ W.cell? ⟨p, 1, none⟩ = some (.slice (some ⟨b2, 0, none⟩) n n) ∧ W.cell? ⟨p, 2, none⟩ = some (.slice (some ⟨b3, 0, none⟩) n n) ∧ W.cell? ⟨p, 3, none⟩ = some (.int .i64 s.now) ∧ W.cell? ⟨p, 4, none⟩ = some (.bool s.sealed) :=
  ⟨struct_cell h rfl, struct_cell h rfl, struct_cell h rfl, struct_cell h rfl, struct_cell h rfl⟩
theorem rc_cells {W : World} {p : Nat} {k a b : Int} {t : TypeId} (h : W.heap[p]? = some (.cells #[.int .i64 k, .int .i64 a, .int .i64 b] t (0, 0))) :
    W.cell? ⟨p, 0, none⟩ = some (.int .i64 k) ∧ W.cell? ⟨p, 1, none⟩ = some (.int .i64 a) ∧ W.cell? ⟨p, 2, none⟩ = some (.int .i64 b) :=
  ⟨struct_cell h rfl, struct_cell h rfl, struct_cell h rfl⟩
set_option maxRecDepth 10000 in
set_option maxHeartbeats 4000000 in
theorem step_walk (w : World) (n b1 b2 b3 : Nat) (s s' : Sp) (r : Rc) (hg : Goes n s r s') (hn : n ≤ 1000) (hR : SpIn w n b1 b2 b3 s) :
    Calls Tryz.prog 10 #[spV n b1 b2 b3 s, .agg #[.int .i64 r.k, .int .i64 r.a, .int .i64 r.b]] w fun e w' => ∃ d1 d2 d3, e = .returned (.tuple #[spV n d1 d2 d3 s', .int .i64 0]) ∧ SpIn w' n d1 d2 d3 s' ∧ w.heap.size ≤ d1 ∧ w.heap.size ≤ d2 ∧ w.heap.size ≤ d3 ∧ Below w.heap.size w w' := by
  have HC : Hid (∀ o1 o2 o3, Calls Tryz.prog 25 #[spV n b1 b2 b3 s] (((w.alloc o1).alloc o2).alloc o3) fun e w' => ∃ d1 d2 d3, e = .returned (spV n d1 d2 d3 s) ∧ SpIn w' n d1 d2 d3 s ∧ w.heap.size + 1 + 1 + 1 ≤ d1 ∧ w.heap.size + 1 + 1 + 1 ≤ d2 ∧ w.heap.size + 1 + 1 + 1 ≤ d3 ∧
      w.heap.size + 1 + 1 + 1 ≤ w'.heap.size ∧ Below w.heap.size w w' ∧ w'.heap[w.heap.size + 1]? = some o2 ∧ w'.heap[w.heap.size + 1 + 1]? = some o3) := fun o1 o2 o3 => by
    have := copied_walk (((w.alloc o1).alloc o2).alloc o3) n b1 b2 b3 s hn (((hR.alloc _).alloc _).alloc _)
    obtain ⟨_, h2, h3, h4, h5⟩ := allocs3 w o1 o2 o3
    rw [h5] at this
    refine this.mono ?_
    rintro e w' ⟨d1, d2, d3, rfl, g1, g2, g3, g4, g5⟩
    exact ⟨d1, d2, d3, rfl, g1, g2, g3, g4, by have := g5.size; omega, h4.trans (g5.mono (by omega)), (g5.block _ (by omega)).trans h2, (g5.block _ (by omega)).trans h3⟩
  have HG : Hid (Goes n s r s') := hg
  clear hg hR
  unfold spV at HC ⊢
  go_enter Tryz.func10, Tryz.ntmps10
  go_wp2_with (first
    | (go_at_call 25; refine (HC.out _ _ _).mono ?_; rintro e w1 ⟨d1, d2, d3, rfl, hS1, hd1, hd2, hd3, hs1, hB1, hr1, hz1⟩; obtain ⟨q1, q2, q3⟩ := rc_cells hr1; have q4 := fun o => alloc_cell q1 o; have q5 := fun o => alloc_cell q2 o; have q6 := fun o => alloc_cell q3 o)
    | (go_at_call 26; refine (perform_walk _ n w1.heap.size d1 d2 d3 s s' r HG.out hn (blk_alloc_new _ _) (hS1.alloc _) (by have := hS1.lt1; omega) (by have := hS1.lt2; omega) (by have := hS1.lt3; omega)).mono ?_; rintro e w2 ⟨rfl, hst⟩; have hB2 := hst.below (w.heap.size + 1 + 1 + 1) (by omega) (by omega) (by omega) (by omega) (by simp; omega); have hz2 := (hB2.block (w.heap.size + 1 + 1) (by omega)).trans ((blk_alloc_lt _ _ _ (by omega)).trans hz1); obtain ⟨z1, z2, z3, z4, z5, z6, z7, z8, z9, z10⟩ := zero_cells hz2; obtain ⟨p1, p2, p3, p4, p5⟩ := sp_cells hst.struct)
    )
  refine bodyPost_ret (v := .tuple #[.agg #[.slice (some ⟨d1, 0, none⟩) n n, .slice (some ⟨d2, 0, none⟩) n n, .slice (some ⟨d3, 0, none⟩) n n, .int .i64 s'.now, .bool s'.sealed], .int .i64 0]) ?_ rfl ⟨d1, d2, d3, rfl, ?_, by omega, by omega, by omega, ?_⟩
  · simp [results, Tryz.results10, go_sem, z1, z2, z3, z4, z5]
  · exact ((((hst.rows.setP (by omega) (by omega) (by omega) _ _).setP (by omega) (by omega) (by omega) _ _).setP (by omega) (by omega) (by omega) _ _).setP (by omega) (by omega) (by omega) _ _).setP (by omega) (by omega) (by omega) _ _
  · have hB : Below w.heap.size w w2 := (hB1.alloc hB1.size _).trans (hB2.mono (by omega))
    exact ((((hB.setCell (p := ⟨w.heap.size + 1 + 1, 0, none⟩) (by simp <;> omega) _).setCell (p := ⟨w.heap.size + 1 + 1, 1, none⟩) (by simp <;> omega) _).setCell (p := ⟨w.heap.size + 1 + 1, 2, none⟩) (by simp <;> omega) _).setCell (p := ⟨w.heap.size + 1 + 1, 3, none⟩) (by simp <;> omega) _).setCell (p := ⟨w.heap.size + 1 + 1, 4, none⟩) (by simp <;> omega) _
end Go.Proofs.YtndjhcmgngnfbaaGreatDoor
