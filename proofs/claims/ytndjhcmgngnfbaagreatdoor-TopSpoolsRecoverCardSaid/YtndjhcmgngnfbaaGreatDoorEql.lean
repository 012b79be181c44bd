/- The walk of slices.Equal at lists of bytes that are equal. No condition but that they are no longer than a thousand. -/
import Derived.Test.YtndjhcmgngnfbaaGreatDoorSpW
import Derived.Test.YtndjhcmgngnfbaaGreatDoorStp
import Derived.Deep.RegionHeld3
import Derived.Deep.CutRange
set_option linter.unusedSimpArgs false
set_option linter.unusedVariables false
set_option linter.all false
section
namespace Go.Proofs.YtndjhcmgngnfbaaGreatDoor
open Go Go.RowKit
set_option maxRecDepth 10000 in
set_option maxHeartbeats 2000000 in
theorem equal_walk (w : World) (b1 o1 c1 b2 o2 c2 n : Nat) (f : Nat → Int) (hn : n ≤ 1000)
    (h1 : ∀ k, k < n → w.cell? ⟨b1, o1 + k, none⟩ = some (.int .u8 (f k))) (h2 : ∀ k, k < n → w.cell? ⟨b2, o2 + k, none⟩ = some (.int .u8 (f k))) :
    Calls Tryz.prog 89 #[.slice (some ⟨b1, o1, none⟩) n c1, .slice (some ⟨b2, o2, none⟩) n c2] w fun e w' => e = .returned (.bool true) ∧ Below w.heap.size w w' := by
  go_enter Tryz.func89, Tryz.ntmps89
  go_wp2
  go_loopw [13] (fun i wr => ∃ k : Nat, k ≤ n ∧ i = .int .i64 k ∧ ∃ m, wr = { w with drawn := m }) (fun i _ => n - (intOf i).toNat)
  case atStart => exact ⟨0, Nat.zero_le _, rfl, w.drawn, rfl⟩
  case round =>
    obtain ⟨k, hk, rfl, m, rfl⟩ := hrel
    rcases Nat.lt_or_ge k n with h | h
    · have x1 : ({ w with drawn := m } : World).cell? ⟨b1, o1 + k, none⟩ = some (.int .u8 (f k)) := h1 k h
      have x2 : ({ w with drawn := m } : World).cell? ⟨b2, o2 + k, none⟩ = some (.int .u8 (f k)) := h2 k h
      clear h1 h2
      generalize hw : ({ w with drawn := m } : World) = w0 at *
      go_wp2
      go_region
      all_goals
        (go_wp2
         go_roundw
         case rel => exact ⟨k + 1, by omega, by push_cast; rfl, m + 1, by subst hw; rfl⟩
         case measure => simp [intOf]; omega)
    · obtain rfl : k = n := by omega
      clear h1 h2
      go_wp2
      go_ret
      exact ⟨rfl, ⟨rfl, rfl, rfl, Nat.le_refl _, fun _ _ => rfl⟩⟩
end Go.Proofs.YtndjhcmgngnfbaaGreatDoor
end
/- The walk of decode at the encoding of a record. No condition but that it is one. -/
section
namespace Go.Proofs.YtndjhcmgngnfbaaGreatDoor
open Go Go.RowKit Go.Deep
theorem allocs2 (w : World) (o1 o2 : Obj) : ((w.alloc o1).alloc o2).drew.heap[w.heap.size]? = some o1 ∧ ((w.alloc o1).alloc o2).drew.heap[w.heap.size + 1]? = some o2 ∧ Below w.heap.size w ((w.alloc o1).alloc o2) ∧ ((w.alloc o1).alloc o2).heap.size = w.heap.size + 1 + 1 := by
  refine ⟨?_, ?_, ?_, by simp⟩
  · show ((w.alloc o1).alloc o2).heap[w.heap.size]? = _
    rw [blk_alloc_lt _ _ _ (by simp)]
    exact blk_alloc_new _ _
  · have := blk_alloc_new (w.alloc o1) o2
    rw [World.size_alloc] at this
    exact this
  · exact ((Below.refl _ w).alloc (Nat.le_refl _) _).alloc (by simp) _
theorem eleven_get (a0 a1 a2 a3 a4 a5 a6 a7 a8 a9 a10 : Int) (j : Nat) (hj : j < 11) : (#[Value.int .u8 a0, .int .u8 a1, .int .u8 a2, .int .u8 a3, .int .u8 a4, .int .u8 a5, .int .u8 a6, .int .u8 a7, .int .u8 a8, .int .u8 a9, .int .u8 a10] : Array Value)[j]? = some (.int .u8 ([a0, a1, a2, a3, a4, a5, a6, a7, a8, a9, a10].getD j 0)) := by
  match j, hj with
  | 0, _ => rfl
  | 1, _ => rfl
  | 2, _ => rfl
  | 3, _ => rfl
  | 4, _ => rfl
  | 5, _ => rfl
  | 6, _ => rfl
  | 7, _ => rfl
  | 8, _ => rfl
  | 9, _ => rfl
  | 10, _ => rfl
set_option maxRecDepth 10000 in
set_option maxHeartbeats 4000000 in
theorem decode_walk (w : World) (i k a b e1 e2 e3 e4 e5 e6 e7 e8 e9 e10 : Int) (B o cap : Nat) (hcap : 11 ≤ cap) (hcm : cap ≤ 1000000000) (ho : o ≤ 1000000000) (hB : B < w.heap.size) (hk : 1 ≤ k ∧ k ≤ 5) (ha : number4 [e1, e2, e3, e4] = a) (hb : number4 [e5, e6, e7, e8] = b) (ha2 : a ≤ 5) (hb2 : b ≤ 5)
   (hc : ∀ j, j < 11 → w.cell? ⟨B, o + j, none⟩ = some (.int .u8 ([k, e1, e2, e3, e4, e5, e6, e7, e8, e9, e10].getD j 0)))
   (henc : ∀ w, Calls Tryz.prog 27 #[.int .i64 i, .agg #[.int .i64 k, .int .i64 a, .int .i64 b]] w fun e w' => e = .returned (.agg #[.int .u8 k, .int .u8 e1, .int .u8 e2, .int .u8 e3, .int .u8 e4, .int .u8 e5, .int .u8 e6, .int .u8 e7, .int .u8 e8, .int .u8 e9, .int .u8 e10]) ∧ Below w.heap.size w w') :
   Calls Tryz.prog 53 #[.int .i64 i, .slice (some ⟨B, o, none⟩) 11 cap] w fun e w' => e = .returned (.tuple #[.agg #[.int .i64 k, .int .i64 a, .int .i64 b], .bool true]) ∧ Below w.heap.size w w' := by
  obtain ⟨hk1, hk2⟩ := hk
  have hkw : IntKind.i64.wrap k = k := by rw [IntKind.wrap_i64]; omega
  have i5 : (5 : Int) ≤ (cap : Int) := by omega
  have i9 : (9 : Int) ≤ (cap : Int) := by omega
  have n1 : ¬ cap = 1 := by omega
  have n5 : ¬ cap = 5 := by omega
  have q0 : w.cell? ⟨B, o, none⟩ = some (.int .u8 k) := hc 0 (by omega)
  have NA : Hid (∀ W c, Below w.heap.size w W → Calls Tryz.prog 88 #[.slice (some ⟨B, o + 1, none⟩) 4 c] W fun e w' => e = .returned (.int .i64 a) ∧ w' = W) := fun W c hW => by
    have := number_walk W B (o + 1) 4 c [e1, e2, e3, e4] rfl (by omega) (fun j hj => by
      rw [hW.cell (p := ⟨B, o + 1 + j, none⟩) hB, show o + 1 + j = o + (1 + j) by omega, hc (1 + j) (by omega)]
      match j, hj with
      | 0, _ => rfl
      | 1, _ => rfl
      | 2, _ => rfl
      | 3, _ => rfl)
    rw [ha] at this
    exact this
  have NB : Hid (∀ W c, Below w.heap.size w W → Calls Tryz.prog 88 #[.slice (some ⟨B, o + 5, none⟩) 4 c] W fun e w' => e = .returned (.int .i64 b) ∧ w' = W) := fun W c hW => by
    have := number_walk W B (o + 5) 4 c [e5, e6, e7, e8] rfl (by omega) (fun j hj => by
      rw [hW.cell (p := ⟨B, o + 5 + j, none⟩) hB, show o + 5 + j = o + (5 + j) by omega, hc (5 + j) (by omega)]
      match j, hj with
      | 0, _ => rfl
      | 1, _ => rfl
      | 2, _ => rfl
      | 3, _ => rfl)
    rw [hb] at this
    exact this
  have HC : Hid (∀ j, j < 11 → w.cell? ⟨B, o + j, none⟩ = some (.int .u8 ([k, e1, e2, e3, e4, e5, e6, e7, e8, e9, e10].getD j 0))) := hc
  have HE : Hid (∀ w, Calls Tryz.prog 27 #[.int .i64 i, .agg #[.int .i64 k, .int .i64 a, .int .i64 b]] w fun e w' => e = .returned (.agg #[.int .u8 k, .int .u8 e1, .int .u8 e2, .int .u8 e3, .int .u8 e4, .int .u8 e5, .int .u8 e6, .int .u8 e7, .int .u8 e8, .int .u8 e9, .int .u8 e10]) ∧ Below w.heap.size w w') := henc
  clear hc henc ha hb
  go_enter Tryz.func53, Tryz.ntmps53
  go_upto_region 1 with fail
  go_cut [6] from 8 to 18 (fun s6 wx => s6 = .pointer (some ⟨w.heap.size + 1, 0, none⟩) ∧ wx = ((w.alloc (Obj.cells #[.int .i64 0, .int .i64 0, .int .i64 0] 38)).alloc (Obj.cells #[.int .i64 k, .int .i64 a, .int .i64 b] 38)).drew)
  case first =>
    have q1 : ∀ o1, (w.alloc o1).cell? ⟨B, o, none⟩ = some (.int .u8 k) := fun o1 => alloc_cell q0 o1
    have q2 : ∀ o1 o2, ((w.alloc o1).alloc o2).cell? ⟨B, o, none⟩ = some (.int .u8 k) := fun o1 o2 => alloc_cell (q1 o1) o2
    go_region_held3 (fun w' => w'.cell? ⟨B, o, none⟩ = some (.int .u8 k)) (first | exact q1 _ | exact q2 _ _) (first | (go_at_call 88; with_reducible refine (NA.out _ _ ((Below.refl _ w).alloc (Nat.le_refl _) _).drew).mono ?_; rintro e w' ⟨rfl, rfl⟩) | (go_at_call 88; with_reducible refine (NA.out _ _ (((Below.refl _ w).alloc (Nat.le_refl _) _).alloc (by simp) _).drew).mono ?_; rintro e w' ⟨rfl, rfl⟩) | (go_at_call 88; with_reducible refine (NB.out _ _ ((Below.refl _ w).alloc (Nat.le_refl _) _).drew).mono ?_; rintro e w' ⟨rfl, rfl⟩) | (go_at_call 88; with_reducible refine (NB.out _ _ (((Below.refl _ w).alloc (Nat.le_refl _) _).alloc (by simp) _).drew).mono ?_; rintro e w' ⟨rfl, rfl⟩))
    all_goals (go_wp2_with fail; go_meet; exact ⟨rfl, rfl⟩)
  case rest =>
  obtain ⟨rfl, rfl⟩ := hcut
  have A := allocs2 w (Obj.cells #[.int .i64 0, .int .i64 0, .int .i64 0] 38) (Obj.cells #[.int .i64 k, .int .i64 a, .int .i64 b] 38)
  have HA : Hid _ := A
  clear A
  go_wp2_with (first
    | (go_at_call 27; refine (HE.out _).mono ?_; rintro e w1 ⟨rfl, hb1⟩; have hb1 : Below (w.heap.size + 1 + 1) _ w1 := hb1.mono (by simp); have hz1 := (hb1.block w.heap.size (by omega)).trans HA.out.1; have hr1 := (hb1.block (w.heap.size + 1) (by omega)).trans HA.out.2.1; have hB1 := HA.out.2.2.1.drew.trans (hb1.mono (by omega)); have hs1 : w.heap.size + 1 + 1 ≤ w1.heap.size := by (have := hb1.size; simp at this; exact this))
    | (go_at_call 89; refine (equal_walk _ _ 0 _ B o _ 11 (fun j => [k, e1, e2, e3, e4, e5, e6, e7, e8, e9, e10].getD j 0) (by omega) (fun j hj => by rw [Nat.zero_add]; exact new_cell w1 _ 99 (eleven_get _ _ _ _ _ _ _ _ _ _ _ j hj)) (fun j hj => ((hB1.alloc hB1.size _).cell (p := ⟨B, o + j, none⟩) hB).trans (HC.out j hj))).mono ?_; rintro e w2 ⟨rfl, hb2⟩; have hb2 : Below (w.heap.size + 1 + 1) _ w2 := hb2.mono (by simp; omega); have hz2 := (hb2.block w.heap.size (by omega)).trans ((blk_alloc_lt _ _ _ (by omega)).trans hz1); have hr2 := (hb2.block (w.heap.size + 1) (by omega)).trans ((blk_alloc_lt _ _ _ (by omega)).trans hr1); have hB2 := (hB1.alloc hB1.size _).trans (hb2.mono (by omega)); obtain ⟨z1, z2, z3⟩ := rc_cells hz2; obtain ⟨r1, r2, r3⟩ := rc_cells hr2; have f1 := struct_free (i := 0) hz2; have f2 := struct_free (i := 1) hz2; have f3 := struct_free (i := 2) hz2)
    )
  refine bodyPost_ret (v := .tuple #[.agg #[.int .i64 k, .int .i64 a, .int .i64 b], .bool true]) ?_ rfl ⟨rfl, ?_⟩
  · simp [results, Tryz.results53, go_sem, z1, z2, z3]
  · exact ((hB2.setCell (p := ⟨w.heap.size, 0, none⟩) (Nat.le_refl _) _).setCell (p := ⟨w.heap.size, 1, none⟩) (Nat.le_refl _) _).setCell (p := ⟨w.heap.size, 2, none⟩) (Nat.le_refl _) _
end Go.Proofs.YtndjhcmgngnfbaaGreatDoor
end
