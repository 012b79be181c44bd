/- A list of steps as a path of states. No condition. -/
import Derived.Test.YtndjhcmgngnfbaaGreatDoorSplA
import Derived.Test.YtndjhcmgngnfbaaGreatDoorStp
set_option linter.unusedSimpArgs false
set_option linter.unusedVariables false
set_option linter.all false
section
namespace Go.Proofs.YtndjhcmgngnfbaaGreatDoor
/-- The states of a list of steps, by their numbers. -/
theorem Runs.path {n : Nat} {s u : Sp} {l : List Rc} (h : Runs n s l u) : ∃ f : Nat → Sp, f 0 = s ∧ f l.length = u ∧ ∀ k (hk : k < l.length), Goes n (f k) l[k] (f (k + 1)) := by
  induction h with
  | nil s => exact ⟨fun _ => s, rfl, rfl, fun k hk => absurd hk (Nat.not_lt_zero k)⟩
  | cons g _ ih =>
    rename_i s t u r l h
    obtain ⟨f, h1, h2, h3⟩ := ih
    refine ⟨fun k => match k with | 0 => s | k + 1 => f k, rfl, by simpa using h2, fun k hk => ?_⟩
    cases k with
    | zero => simpa [h1] using g
    | succ k => simpa using h3 k (by simpa using hk)
end Go.Proofs.YtndjhcmgngnfbaaGreatDoor
end
/- The walk of Replay: a list of records that apply one after the other. No condition but that they do. -/
section
namespace Go.Proofs.YtndjhcmgngnfbaaGreatDoor
open Go Go.RowKit Go.Deep
def NewSays (n : Nat) : Prop := ∀ w : World, Calls Tryz.prog 7 #[.int .i64 n] w fun e w' => ∃ d1 d2 d3, e = .returned (spV n d1 d2 d3 fresh) ∧ SpIn w' n d1 d2 d3 fresh ∧ w.heap.size ≤ d1 ∧ w.heap.size ≤ d2 ∧ w.heap.size ≤ d3 ∧ Below w.heap.size w w'
set_option maxRecDepth 10000 in
set_option maxHeartbeats 4000000 in
theorem replay_walk (w : World) (n m cap lb : Nat) (q : Option Addr) (hq : 0 < m → q = some ⟨lb, 0, none⟩) (f : Nat → Sp) (L : Nat → Rc) (hn : n ≤ 1000) (hm : m ≤ 1000) (hnew : NewSays n) (hf : f 0 = fresh) (hp : ∀ k, k < m → Goes n (f k) (L k) (f (k + 1))) (hlb : 0 < m → lb < w.heap.size)
    (hc : ∀ k, k < m → w.cell? ⟨lb, k * 3, none⟩ = some (.int .i64 (L k).k) ∧ w.cell? ⟨lb, k * 3 + 1, none⟩ = some (.int .i64 (L k).a) ∧ w.cell? ⟨lb, k * 3 + 2, none⟩ = some (.int .i64 (L k).b)) :
    Calls Tryz.prog 13 #[.int .i64 n, .slice q m cap] w fun e w' => ∃ d1 d2 d3, e = .returned (.tuple #[spV n d1 d2 d3 (f m), .int .i64 m]) ∧ SpIn w' n d1 d2 d3 (f m) ∧ w.heap.size ≤ d1 ∧ w.heap.size ≤ d2 ∧ w.heap.size ≤ d3 ∧ Below w.heap.size w w' := by
  have HC : Hid (∀ o, Calls Tryz.prog 7 #[.int .i64 n] (w.alloc o) fun e w' => ∃ d1 d2 d3, e = .returned (spV n d1 d2 d3 fresh) ∧ SpIn w' n d1 d2 d3 fresh ∧ w.heap.size + 1 ≤ d1 ∧ w.heap.size + 1 ≤ d2 ∧ w.heap.size + 1 ≤ d3 ∧
      w.heap.size + 1 ≤ w'.heap.size ∧ Below w.heap.size w w' ∧ w'.heap[w.heap.size]? = some o) := fun o => by
    refine (hnew (w.alloc o)).mono ?_
    rintro e w' ⟨d1, d2, d3, rfl, g1, g2, g3, g4, g5⟩
    rw [World.size_alloc] at g2 g3 g4 g5
    exact ⟨d1, d2, d3, rfl, g1, g2, g3, g4, by have := g5.size; simpa using this, ((Below.refl _ w).alloc (Nat.le_refl _) o).trans (g5.mono (by omega)), (g5.block _ (by omega)).trans (blk_alloc_new _ _)⟩
  have HP : Hid ((∀ k, k < m → Goes n (f k) (L k) (f (k + 1))) ∧ f 0 = fresh ∧ ∀ k, k < m → w.cell? ⟨lb, k * 3, none⟩ = some (.int .i64 (L k).k) ∧ w.cell? ⟨lb, k * 3 + 1, none⟩ = some (.int .i64 (L k).a) ∧ w.cell? ⟨lb, k * 3 + 2, none⟩ = some (.int .i64 (L k).b)) := ⟨hp, hf, hc⟩
  have HQ : Hid ((0 < m → q = some ⟨lb, 0, none⟩) ∧ (0 < m → lb < w.heap.size)) := ⟨hq, hlb⟩
  clear hp hf hc hnew hq hlb
  unfold spV at HC ⊢
  go_enter Tryz.func13, Tryz.ntmps13
  go_wp2_with (go_at_call 7; refine (HC.out _).mono ?_; rintro e w1 ⟨d1, d2, d3, rfl, hS1, hd1, hd2, hd3, hs1, hB1, hz1⟩)
  have hA : (w1.alloc (Obj.cells #[.slice (some ⟨d1, 0, none⟩) n n, .slice (some ⟨d2, 0, none⟩) n n, .slice (some ⟨d3, 0, none⟩) n n, .int .i64 fresh.now, .bool fresh.sealed] 34)).heap[w1.heap.size]? = some (spO n d1 d2 d3 fresh) := blk_alloc_new _ _
  go_loopw [13] (fun i wr => ∃ k : Nat, k ≤ m ∧ i = .int .i64 k ∧ wr.heap[w1.heap.size]? = some (spO n d1 d2 d3 (f k)) ∧ SpIn wr n d1 d2 d3 (f k) ∧ Below w.heap.size w wr ∧ w1.heap.size < wr.heap.size ∧ wr.heap[w.heap.size]? = some (.cells #[.slice none 0 0, .slice none 0 0, .slice none 0 0, .int .i64 0, .bool false] 34 (0, 0))) (fun i _ => m - (intOf i).toNat)
  case atStart => exact ⟨0, Nat.zero_le _, rfl, by rw [HP.out.2.1]; exact hA, by rw [HP.out.2.1]; exact hS1.alloc _, hB1.alloc (by omega) _, by simp, (blk_alloc_lt _ _ _ (by omega)).trans hz1⟩
  case round =>
    obtain ⟨k, hk, rfl, h1, h2, h3, h4, h5⟩ := hrel
    rcases Nat.lt_or_ge k m with hkm | hkm
    · obtain ⟨g1, g2, g3⟩ := HP.out.2.2 k hkm
      obtain rfl : q = some ⟨lb, 0, none⟩ := HQ.out.1 (by omega)
      have hlb := HQ.out.2 (by omega)
      have c1 : wr.cell? ⟨lb, k * 3, none⟩ = some (.int .i64 (L k).k) := (h3.cell (p := ⟨lb, k * 3, none⟩) hlb).trans g1
      have c2 : wr.cell? ⟨lb, k * 3 + 1, none⟩ = some (.int .i64 (L k).a) := (h3.cell (p := ⟨lb, k * 3 + 1, none⟩) hlb).trans g2
      have c3 : wr.cell? ⟨lb, k * 3 + 2, none⟩ = some (.int .i64 (L k).b) := (h3.cell (p := ⟨lb, k * 3 + 2, none⟩) hlb).trans g3
      have HH : Hid (wr.heap[w1.heap.size]? = some (spO n d1 d2 d3 (f k)) ∧ SpIn wr n d1 d2 d3 (f k) ∧ Below w.heap.size w wr ∧ w1.heap.size < wr.heap.size ∧ wr.heap[w.heap.size]? = some (.cells #[.slice none 0 0, .slice none 0 0, .slice none 0 0, .int .i64 0, .bool false] 34 (0, 0))) := ⟨h1, h2, h3, h4, h5⟩
      clear g1 g2 g3 h1 h2 h3 h5
      go_wp2_with (go_at_call 26; refine (perform_walk _ n w1.heap.size d1 d2 d3 (f k) (f (k + 1)) (L k) (HP.out.1 k hkm) hn ((blk_alloc_lt _ _ _ h4).trans HH.out.1) (HH.out.2.1.alloc _) (by have := hS1.lt1; omega) (by have := hS1.lt2; omega) (by have := hS1.lt3; omega)).mono ?_; rintro e w2 ⟨rfl, hst⟩)
      have hB2 := hst.below (w.heap.size + 1) (by omega) (by omega) (by omega) (by omega) (by simp; omega)
      go_wp2
      go_roundw
      case rel =>
        obtain ⟨h1, h2, h3, h4, h5⟩ := HH.out
        exact ⟨k + 1, by omega, by push_cast; rfl, hst.struct, hst.rows, (h3.alloc h3.size _).trans (hB2.mono (by omega)), by have := hB2.size; simp at this; omega, (hB2.block _ (by omega)).trans ((blk_alloc_lt _ _ _ (by omega)).trans h5)⟩
      case measure => simp [intOf]; omega
    · obtain rfl : k = m := by omega
      obtain ⟨z1, z2, z3, z4, z5, z6, z7, z8, z9, z10⟩ := zero_cells h5
      obtain ⟨p1, p2, p3, p4, p5⟩ := sp_cells h1
      have HH : Hid (SpIn wr n d1 d2 d3 (f k) ∧ Below w.heap.size w wr) := ⟨h2, h3⟩
      clear h1 h2 h3 h5
      go_wp2
      have S := HH.out.1
      have L1 := hS1.lt1
      have L2 := hS1.lt2
      have L3 := hS1.lt3
      refine bodyPost_ret (v := .tuple #[.agg #[.slice (some ⟨d1, 0, none⟩) n n, .slice (some ⟨d2, 0, none⟩) n n, .slice (some ⟨d3, 0, none⟩) n n, .int .i64 (f k).now, .bool (f k).sealed], .int .i64 k]) ?_ rfl ⟨d1, d2, d3, rfl, ?_, by omega, by omega, by omega, ?_⟩
      · simp [results, Tryz.results13, go_sem, z1, z2, z3, z4, z5]
      · exact ((((S.setP (by omega) (by omega) (by omega) _ _).setP (by omega) (by omega) (by omega) _ _).setP (by omega) (by omega) (by omega) _ _).setP (by omega) (by omega) (by omega) _ _).setP (by omega) (by omega) (by omega) _ _
      · exact ((((HH.out.2.setCell (p := ⟨w.heap.size, 0, none⟩) (Nat.le_refl _) _).setCell (p := ⟨w.heap.size, 1, none⟩) (Nat.le_refl _) _).setCell (p := ⟨w.heap.size, 2, none⟩) (Nat.le_refl _) _).setCell (p := ⟨w.heap.size, 3, none⟩) (Nat.le_refl _) _).setCell (p := ⟨w.heap.size, 4, none⟩) (Nat.le_refl _) _
end Go.Proofs.YtndjhcmgngnfbaaGreatDoor
end
