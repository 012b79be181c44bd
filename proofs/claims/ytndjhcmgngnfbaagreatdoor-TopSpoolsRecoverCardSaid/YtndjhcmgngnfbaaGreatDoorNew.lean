/- The walk of New. No condition but that there are no more than a thousand jobs. -/
import Derived.Test.YtndjhcmgngnfbaaGreatDoorStp
import Derived.Deep.CutRange
set_option linter.unusedSimpArgs false
set_option linter.unusedVariables false
set_option linter.all false
namespace Go.Proofs.YtndjhcmgngnfbaaGreatDoor
open Go Go.RowKit Go.Deep
theorem rowIs_made' {W : World} {z : Value} {n b : Nat} {t : TypeId} (h : b = W.heap.size) : (W.alloc (.cells (madeCells #[z] n) t)).rowIs b t n (fun _ => z) := by
  subst h; exact World.rowIs_made W z n t
theorem blk_at {W : World} {o : Obj} {p : Nat} (h : p = W.heap.size) : (W.alloc o).heap[p]? = some o := by
  subst h; exact blk_alloc_new _ _
theorem blk_drew {W : World} {x : Option Obj} {p : Nat} (h : W.heap[p]? = x) : W.drew.heap[p]? = x := h
structure NewIn (w : World) (n : Nat) (v : Value) (W : World) : Prop where
  ex : ∃ p b1 b2 b3, v = .pointer (some ⟨p, 0, none⟩) ∧ W.heap[p]? = some (.cells #[.slice (some ⟨b1, 0, none⟩) n n, .slice (some ⟨b2, 0, none⟩) n n, .slice (some ⟨b3, 0, none⟩) n n, .int .i64 (-1), .bool false] 34 (0, 0)) ∧
    W.rowIs b1 3 n (fun _ => .int .i64 0) ∧ W.rowIs b2 4 n (fun _ => .bool false) ∧ W.rowIs b3 3 n (fun _ => .int .i64 0) ∧ (b1 ≠ b2 ∧ b1 ≠ b3 ∧ b2 ≠ b3 ∧ p ≠ b1 ∧ p ≠ b2 ∧ p ≠ b3) ∧ (w.heap.size < p ∧ w.heap.size < b1 ∧ w.heap.size < b2 ∧ w.heap.size < b3) ∧
    W.heap[w.heap.size]? = some (.cells #[.slice none 0 0, .slice none 0 0, .slice none 0 0, .int .i64 0, .bool false] 34 (0, 0)) ∧ Below w.heap.size w W
set_option maxRecDepth 10000 in
set_option maxHeartbeats 8000000 in
theorem new_walk (w : World) (n : Nat) (hn : n ≤ 1000) :
    Calls Tryz.prog 7 #[.int .i64 n] w fun e w' => ∃ d1 d2 d3, e = .returned (spV n d1 d2 d3 fresh) ∧ SpIn w' n d1 d2 d3 fresh ∧ w.heap.size ≤ d1 ∧ w.heap.size ≤ d2 ∧ w.heap.size ≤ d3 ∧ Below w.heap.size w w' := by
  have hm3 := fun w => run_make_row' (P := Tryz.prog) 28 3 (.int .i64 0) 8 Tryz.underlying28 info3 rfl .i64 .i64 n (by omega) (by omega) w
  have hm4 := fun w => run_make_row' (P := Tryz.prog) 32 4 (.bool false) 1 Tryz.underlying32 info4 rfl .i64 .i64 n (by omega) (by omega) w
  unfold spV
  go_enter Tryz.func7, Tryz.ntmps7
  go_upto_region 2 with fail
  go_cut [3] from 7 to 13 (fun v W => NewIn w n v W)
  case first =>
    go_region
    all_goals
      (go_wp2_with fail
       go_meet
       refine ⟨?_⟩
       iterate 4 apply Exists.intro
       refine ⟨rfl, ?_, ?_, ?_, ?_, ?_, ?_, ?_, ?_⟩
       · refine blk_drew ?_
         repeat (first | (apply blk_at; simp only [World.size_alloc]; done) | refine (blk_alloc_lt _ _ _ (by simp <;> omega)).trans ?_)
       · refine World.rowIs.drew ?_
         repeat (first | (apply rowIs_made'; simp only [World.size_alloc]; done) | refine World.rowIs.alloc ?_ _)
       · refine World.rowIs.drew ?_
         repeat (first | (apply rowIs_made'; simp only [World.size_alloc]; done) | refine World.rowIs.alloc ?_ _)
       · refine World.rowIs.drew ?_
         repeat (first | (apply rowIs_made'; simp only [World.size_alloc]; done) | refine World.rowIs.alloc ?_ _)
       · exact ⟨by omega, by omega, by omega, by omega, by omega, by omega⟩
       · exact ⟨by omega, by omega, by omega, by omega⟩
       · refine blk_drew ?_
         repeat (first | (apply blk_at; simp only [World.size_alloc]; done) | refine (blk_alloc_lt _ _ _ (by simp <;> omega)).trans ?_)
       · exact ((((((Below.refl _ w).alloc (Nat.le_refl _) _).alloc (by simp) _).alloc (by simp <;> omega) _).alloc (by simp <;> omega) _).alloc (by simp <;> omega) _).drew)
  case rest =>
    obtain ⟨p, b1, b2, b3, rfl, hp, r1, r2, r3, hne, hlt, hz, hB⟩ := hcut
    have f3 : ∀ i, wc.frozen? ⟨b3, i, none⟩ = false := fun i => r3.frozen i
    have HN : Hid (wc.heap[p]? = some (.cells #[.slice (some ⟨b1, 0, none⟩) n n, .slice (some ⟨b2, 0, none⟩) n n, .slice (some ⟨b3, 0, none⟩) n n, .int .i64 (-1), .bool false] 34 (0, 0)) ∧ wc.rowIs b1 3 n (fun _ => .int .i64 0) ∧ wc.rowIs b2 4 n (fun _ => .bool false) ∧ wc.rowIs b3 3 n (fun _ => .int .i64 0) ∧ wc.heap[w.heap.size]? = some (.cells #[.slice none 0 0, .slice none 0 0, .slice none 0 0, .int .i64 0, .bool false] 34 (0, 0)) ∧ Below w.heap.size w wc) := ⟨hp, r1, r2, r3, hz, hB⟩
    obtain ⟨n1, n2, n3, n4, n5, n6⟩ := hne
    obtain ⟨l1, l2, l3, l4⟩ := hlt
    have p2 : wc.cell? ⟨p, 2, none⟩ = some (.slice (some ⟨b3, 0, none⟩) n n) := struct_cell hp rfl
    clear hp r1 r2 r3 hz hB f3
    go_wp2
    go_loopw [17] (fun i wr => ∃ k : Nat, k ≤ n ∧ i = .int .i64 k ∧ Only b3 wc wr ∧ wr.rowIs b3 3 n (fun j => .int .i64 (if j < k then -1 else 0))) (fun i _ => n - (intOf i).toNat)
    case atStart => exact ⟨0, Nat.zero_le _, rfl, ⟨rfl, rfl, rfl, rfl, fun _ _ => rfl⟩, HN.out.2.2.2.1.congr fun j _ => by simp⟩
    case round =>
      obtain ⟨k, hk, rfl, ho, hr⟩ := hrel
      have q2 : wr.cell? ⟨p, 2, none⟩ = some (.slice (some ⟨b3, 0, none⟩) n n) := (ho.cell (a := ⟨p, 2, none⟩) n6).trans p2
      have HR : Hid (Only b3 wc wr ∧ wr.rowIs b3 3 n (fun j => .int .i64 (if j < k then -1 else 0))) := ⟨ho, hr⟩
      have hck : k < n → wr.cell? ⟨b3, k, none⟩ = some (.int .i64 0) := fun h => by have := hr.cell h; simpa using this
      have hfk : wr.frozen? ⟨b3, k, none⟩ = false := hr.frozen k
      clear ho hr
      rcases Nat.lt_or_ge k n with hkn | hkn
      · have hck := hck hkn
        go_wp2
        go_roundw
        case rel =>
          refine ⟨k + 1, by omega, by push_cast; rfl, ⟨HR.out.1.os, HR.out.1.tape, HR.out.1.output, by simpa using HR.out.1.size, fun q hq => (blk_setCell_other _ _ _ _ hq).trans (HR.out.1.block q hq)⟩, (HR.out.2.set k _).congr fun j hj => ?_⟩
          by_cases e : j = k
          · subst e; simp
          · rw [if_neg e]
            by_cases h2 : j < k
            · rw [if_pos h2, if_pos (by omega)]
            · rw [if_neg h2, if_neg (by omega)]
        case measure => simp [intOf]; omega
      · obtain rfl : k = n := by omega
        clear hck
        have C := HN.out
        have hB : Below w.heap.size w wr := HR.out.1.below C.2.2.2.2.2 (by omega)
        have hp' := (HR.out.1.block p n6).trans C.1
        have hz' := (HR.out.1.block w.heap.size (by omega)).trans C.2.2.2.2.1
        obtain ⟨z1, z2, z3, z4, z5, z6, z7, z8, z9, z10⟩ := zero_cells hz'
        have p0 : wr.cell? ⟨p, 0, none⟩ = some (.slice (some ⟨b1, 0, none⟩) k k) := struct_cell hp' rfl
        have p1 : wr.cell? ⟨p, 1, none⟩ = some (.slice (some ⟨b2, 0, none⟩) k k) := struct_cell hp' rfl
        have p3 : wr.cell? ⟨p, 3, none⟩ = some (.int .i64 (-1)) := struct_cell hp' rfl
        have p4 : wr.cell? ⟨p, 4, none⟩ = some (.bool false) := struct_cell hp' rfl
        have S : SpIn wr k b1 b2 b3 fresh := ⟨(C.2.1.of_block (HR.out.1.block _ n2)), C.2.2.1.of_block (HR.out.1.block _ n3), HR.out.2.congr fun j hj => by rw [if_pos hj]; rfl, n1, n2, n3⟩
        clear hp' hz' C
        go_wp2
        refine bodyPost_ret (v := .agg #[.slice (some ⟨b1, 0, none⟩) k k, .slice (some ⟨b2, 0, none⟩) k k, .slice (some ⟨b3, 0, none⟩) k k, .int .i64 (-1), .bool false]) ?_ rfl ⟨b1, b2, b3, rfl, ?_, by omega, by omega, by omega, ?_⟩
        · simp [results, Tryz.results7, go_sem, z1, z2, z3, z4, z5]
        · exact ((((S.setP (by omega) (by omega) (by omega) _ _).setP (by omega) (by omega) (by omega) _ _).setP (by omega) (by omega) (by omega) _ _).setP (by omega) (by omega) (by omega) _ _).setP (by omega) (by omega) (by omega) _ _
        · exact ((((hB.setCell (p := ⟨w.heap.size, 0, none⟩) (Nat.le_refl _) _).setCell (p := ⟨w.heap.size, 1, none⟩) (Nat.le_refl _) _).setCell (p := ⟨w.heap.size, 2, none⟩) (Nat.le_refl _) _).setCell (p := ⟨w.heap.size, 3, none⟩) (Nat.le_refl _) _).setCell (p := ⟨w.heap.size, 4, none⟩) (Nat.le_refl _) _
end Go.Proofs.YtndjhcmgngnfbaaGreatDoor
