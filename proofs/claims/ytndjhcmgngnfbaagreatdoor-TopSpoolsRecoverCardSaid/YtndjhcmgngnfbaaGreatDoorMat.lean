/- The walks of Jobs and Matching. No condition. -/
import Derived.Test.YtndjhcmgngnfbaaGreatDoorStp
import Derived.Test.YtndjhcmgngnfbaaGreatDoorWa
import Derived.RangeFuncBox
import Derived.Deep.RegionLaw
import Derived.Deep.CutRange
import Derived.Deep.AppendLies
set_option linter.unusedSimpArgs false
set_option linter.unusedVariables false
set_option linter.all false
namespace Go.Proofs.YtndjhcmgngnfbaaGreatDoor
open Go Go.RowKit Go.Deep
theorem jobs_walk (w : World) (nv : Int) (v1 v2 : Value) (c1 : v1.cells = #[v1]) (c2 : v2.cells = #[v2]) (h0 : 0 ≤ nv) (h1 : nv ≤ 255) :
    Calls Tryz.prog 5 #[.agg #[.int .u8 nv, v1, v2]] w fun e w' => e = .returned (.int .i64 (nv % 6)) ∧ Below w.heap.size w w' := by
  go_enter Tryz.func5, Tryz.ntmps5
  go_wp2
  go_ret
  exact ⟨rfl, (Below.refl _ w).alloc (Nat.le_refl _) _⟩
/-- The matching's numbers. -/
def mOf (f : Nat → Int) (k : Nat) : Int := f k % 6 - 1
def mList (f : Nat → Int) (k : Nat) : List Int := (List.range k).map (mOf f)
theorem mList_succ (f : Nat → Int) (k : Nat) : mList f (k + 1) = mList f k ++ [mOf f k] := by simp [mList, List.range_succ]
theorem mList_length (f : Nat → Int) (k : Nat) : (mList f k).length = k := by simp [mList]
structure MIn (w : World) (k : Nat) (v : Value) (f : Nat → Int) (wr : World) : Prop where
  out : wr.heap[w.heap.size + 1 + 1]? = some (.cells #[v, .int .i64 0] 30 (0, 0))
  row : wr.ownsRow w.heap.size 3 1 v k ((mList f k).map (Value.int .i64))
  res : wr.heap[w.heap.size + 1]? = some (.cells #[.slice none 0 0, .int .i64 0] 30 (0, 0))
  below : Below w.heap.size w wr
  size : w.heap.size + 1 + 1 < wr.heap.size
theorem MIn.not_own {w wr : World} {k : Nat} {v : Value} {f : Nat → Int} (h : MIn w k v f wr) : some (w.heap.size + 1 + 1) ≠ v.ownBlock ∧ some (w.heap.size + 1) ≠ v.ownBlock := by
  rcases h.row.2 with ⟨rfl, _⟩ | ⟨g, cap, cur, rfl, _, hgb, _⟩
  · exact ⟨by simp [Value.ownBlock], by simp [Value.ownBlock]⟩
  · refine ⟨fun e' => ?_, fun e' => ?_⟩
    · obtain rfl : w.heap.size + 1 + 1 = g := by simpa [Value.ownBlock] using e'
      have := h.out.symm.trans hgb
      simp at this
    · obtain rfl : w.heap.size + 1 = g := by simpa [Value.ownBlock] using e'
      have := h.res.symm.trans hgb
      simp at this
theorem grownBy_setCell_any (W : World) (b i : Nat) (v : Value) : W.grownBy (W.setCell ⟨b, i, none⟩ v) (some b) :=
  ⟨rfl, rfl, rfl, by simp [World.setCell], fun k _ hk => Below.heap_setCell _ _ _ k (fun e => hk (by rw [e]))⟩
theorem MIn.step {w wr w1 : World} {k g cap : Nat} {v : Value} {f : Nat → Int} {o : Obj} {bx : Array Value} (h : MIn w k v f wr) (hx : wr.heap[w.heap.size]? = some (.cells bx 24 (0, 0)))
    (hown : w1.ownsRow w.heap.size 3 1 (.slice (some ⟨g, 0, none⟩) (k + 1) cap) (k + 1) ((mList f k).map (Value.int .i64) ++ [.int .i64 (f k % 6 - 1)])) (hgrow : (wr.alloc o).drew.grownBy w1 v.ownBlock) :
    MIn w (k + 1) (.slice (some ⟨g, 0, none⟩) (k + 1) cap) f (w1.setCell ⟨w.heap.size + 1 + 1, 0, none⟩ (.slice (some ⟨g, 0, none⟩) (k + 1) cap)) ∧ (w1.setCell ⟨w.heap.size + 1 + 1, 0, none⟩ (.slice (some ⟨g, 0, none⟩) (k + 1) cap)).heap[w.heap.size]? = wr.heap[w.heap.size]? := by
  have hn := h.not_own
  have hs := h.size
  have hB : Below w.heap.size w (wr.alloc o).drew := (h.below.alloc h.below.size o).drew
  have hvb : ∀ q, v.ownBlock = some q → w.heap.size ≤ q := fun q e => (h.row.lt q e).1
  have hN : some w.heap.size ≠ v.ownBlock := by
    intro e
    rcases h.row.2 with ⟨rfl, _⟩ | ⟨g', cap', cur, rfl, _, hgb, _⟩
    · simp [Value.ownBlock] at e
    · obtain rfl : w.heap.size = g' := by simpa [Value.ownBlock] using e
      have := hx.symm.trans hgb
      simp at this
  have g0 : w1.heap[w.heap.size + 1 + 1]? = some (.cells #[v, .int .i64 0] 30 (0, 0)) := (hgrow.block (w.heap.size + 1 + 1) (by show _ < (wr.alloc o).heap.size; simp; omega) hn.1).trans ((blk_alloc_lt _ _ _ hs).trans h.out)
  have g1 : w1.heap[w.heap.size + 1]? = some (.cells #[.slice none 0 0, .int .i64 0] 30 (0, 0)) := (hgrow.block (w.heap.size + 1) (by show _ < (wr.alloc o).heap.size; simp; omega) hn.2).trans ((blk_alloc_lt _ _ _ (by omega)).trans h.res)
  have g2 : w1.heap[w.heap.size]? = wr.heap[w.heap.size]? := (hgrow.block w.heap.size (by show _ < (wr.alloc o).heap.size; simp; omega) hN).trans (blk_alloc_lt _ _ _ (by omega))
  have hB1 : Below w.heap.size w w1 := hB.grown hgrow hB.size hvb
  have hg : g ≠ w.heap.size + 1 + 1 := by
    rintro rfl
    rcases hown.2 with ⟨e, _⟩ | ⟨g', cap', cur, e, _, hgb, _⟩
    · cases e
    · cases e
      rw [g0] at hgb
      simp at hgb
  refine ⟨⟨struct_set (c := #[v, .int .i64 0]) g0 _, ?_, (blk_setCell_other _ _ _ _ (by simp)).trans g1, hB1.setCell (p := ⟨w.heap.size + 1 + 1, 0, none⟩) (by simp <;> omega) _, ?_⟩, (blk_setCell_other _ _ _ _ (by simp <;> omega)).trans g2⟩
  · rw [mList_succ, List.map_append]
    exact hown.kept (grownBy_setCell' w1 (w.heap.size + 1 + 1) _) (.inr (by simp [Value.ownBlock]; exact hg))
  · have := hgrow.size
    have e : (wr.alloc o).drew.heap.size = wr.heap.size + 1 := by show (wr.alloc o).heap.size = _; simp
    simp [World.setCell]
    omega
set_option maxRecDepth 10000 in
set_option maxHeartbeats 4000000 in
theorem matching_walk (w : World) (nv : Int) (q : Option Addr) (fl fc fb fo ll lc : Nat) (ql : Option Addr) (f : Nat → Int) (hfl : fl ≤ 9223372036854775807) (hq : 0 < fl → q = some ⟨fb, fo, none⟩) (hfb : 0 < fl → fb < w.heap.size)
    (hf : ∀ k, k < fl → w.cell? ⟨fb, fo + k, none⟩ = some (.int .u8 (f k))) (hf2 : ∀ k, k < fl → 0 ≤ f k ∧ f k ≤ 255) :
    Calls Tryz.prog 6 #[.agg #[.int .u8 nv, .slice q fl fc, .slice ql ll lc]] w fun e w' => ∃ v, e = .returned (.agg #[v, .int .i64 0]) ∧ w'.ownsRow w.heap.size 3 1 v (min fl 6) ((mList f (min fl 6)).map (Value.int .i64)) ∧ Below w.heap.size w w' := by
  obtain ⟨i0, hi, hz0, hz1, hz2⟩ := info_parts info3
  have HF : Hid ((0 < fl → q = some ⟨fb, fo, none⟩) ∧ (0 < fl → fb < w.heap.size) ∧ (∀ k, k < fl → w.cell? ⟨fb, fo + k, none⟩ = some (.int .u8 (f k))) ∧ (∀ k, k < fl → 0 ≤ f k ∧ f k ≤ 255)) := ⟨hq, hfb, hf, hf2⟩
  clear hq hfb hf hf2
  go_enter Tryz.func6, Tryz.ntmps6
  go_wp2
  obtain ⟨_, a1, a2, a3, a4⟩ := allocs3 w (Obj.cells #[.int .u8 nv, .slice q fl fc, .slice ql ll lc] 24) (Obj.cells #[.slice none 0 0, .int .i64 0] 30) (Obj.cells #[.slice none 0 0, .int .i64 0] 30)
  have a0 := (allocs3 w (Obj.cells #[.int .u8 nv, .slice q fl fc, .slice ql ll lc] 24) (Obj.cells #[.slice none 0 0, .int .i64 0] 30) (Obj.cells #[.slice none 0 0, .int .i64 0] 30)).1
  go_loopw [4] (fun i wr => ∃ k v, k ≤ min fl 6 ∧ i = .int .i64 (k : Nat) ∧ MIn w k v f wr ∧ wr.heap[w.heap.size]? = some (.cells #[.int .u8 nv, .slice q fl fc, .slice ql ll lc] 24 (0, 0))) (fun i _ => 6 - (intOf i).toNat)
  case atStart => exact ⟨0, .slice none 0 0, Nat.zero_le _, rfl, ⟨a2, World.ownsRow_nil _ _ _ _, a1, a3, by rw [a4]; omega⟩, a0⟩
  case round =>
    clear a0 a1 a2 a3 a4
    obtain ⟨k, v, hk, rfl, hM, hx⟩ := hrel
    have x1 : wr.cell? ⟨w.heap.size, 1, none⟩ = some (.slice q fl fc) := struct_cell hx rfl
    have o0 : wr.cell? ⟨w.heap.size + 1 + 1, 0, none⟩ = some v := struct_cell hM.out rfl
    have o1 : wr.cell? ⟨w.heap.size + 1 + 1, 1, none⟩ = some (.int .i64 0) := struct_cell hM.out rfl
    rcases Nat.lt_or_ge k (min fl 6) with hkl | hkl
    · obtain rfl := HF.out.1 (by omega)
      obtain ⟨y1, y2⟩ := HF.out.2.2.2 k (by omega)
      have xk : wr.cell? ⟨fb, fo + k, none⟩ = some (.int .u8 (f k)) := (hM.below.cell (p := ⟨fb, fo + k, none⟩) (HF.out.2.1 (by omega))).trans (HF.out.2.2.1 k (by omega))
      have ht : (f k).tmod 6 = f k % 6 := by rw [Int.tmod_eq_emod_of_nonneg y1]
      have hw1 : IntKind.i64.wrap (f k % 6) = f k % 6 := by rw [IntKind.wrap_i64]; omega
      have hw2 : IntKind.i64.wrap (f k % 6 - 1) = f k % 6 - 1 := by rw [IntKind.wrap_i64]; omega
      have x1' : ∀ o, (wr.alloc o).cell? ⟨w.heap.size, 1, none⟩ = some (.slice (some ⟨fb, fo, none⟩) fl fc) := fun o => alloc_cell x1 o
      have o0' : ∀ o, (wr.alloc o).cell? ⟨w.heap.size + 1 + 1, 0, none⟩ = some v := fun o => alloc_cell o0 o
      have xk' : ∀ o, (wr.alloc o).cell? ⟨fb, fo + k, none⟩ = some (.int .u8 (f k)) := fun o => alloc_cell xk o
      have hk1 : k < fl := by omega
      have hk2 : k < 6 := by omega
      go_wp2
      go_region_law (refine step_append_lies _ rfl (.tmp 18) (.tmp 27) 28 rfl w.heap.size 3 i0 (.int .i64 0) 1 8 Tryz.underlying28 hi hz0 hz1 hz2 rfl (by decide) v k _ rfl (hM.row.alloc _) ⟨wr.heap.size, 0, none⟩ 1 1 [.int .i64 (f k % 6 - 1)] rfl rfl (fun j u hj => cells_of_new wr _ 3 j u hj) (by simp [Value.oneCell']) (by decide) (by unfold maxLen; omega) (by omega) (by have := hM.below.size; simp; omega) _ rfl ?_; intro g cap w1 hown hgrow hat hlt; have hn := hM.not_own; have g0 := (hgrow.block (w.heap.size + 1 + 1) (by have := hM.size; simp; omega) hn.1).trans ((blk_alloc_lt _ _ _ hM.size).trans hM.out); have g1 : w1.cell? ⟨w.heap.size + 1 + 1, 0, none⟩ = some v := struct_cell g0 rfl; have g2 : w1.frozen? ⟨w.heap.size + 1 + 1, 0, none⟩ = false := struct_free g0)
      all_goals
        (have hs := hM.step hx hown hgrow
         go_wp2
         go_roundw
         case rel => exact ⟨k + 1, _, by omega, by push_cast; rfl, hs.1, hs.2.trans hx⟩
         case measure => simp [intOf]; omega)
    · have hk6 : k = min fl 6 := by omega
      have r0 : wr.cell? ⟨w.heap.size + 1, 0, none⟩ = some (.slice none 0 0) := struct_cell hM.res rfl
      have r1 : wr.cell? ⟨w.heap.size + 1, 1, none⟩ = some (.int .i64 0) := struct_cell hM.res rfl
      have r2 : wr.frozen? ⟨w.heap.size + 1, 0, none⟩ = false := struct_free hM.res
      have r3 : wr.frozen? ⟨w.heap.size + 1, 1, none⟩ = false := struct_free hM.res
      have hn := hM.not_own
      have HM : Hid (MIn w k v f wr) := hM
      clear hM hx
      obtain ⟨p, l, c, rfl⟩ : ∃ p l c, v = .slice p l c := by
        rcases HM.out.row.2 with ⟨h1, h2⟩ | ⟨g, cp, cur, h1, _⟩
        · exact ⟨none, 0, 0, h1⟩
        · exact ⟨_, _, _, h1⟩
      rcases Nat.lt_or_ge fl 6 with h6 | h6
      · obtain rfl : k = fl := by omega
        clear hk hkl hk6
        go_wp2
        refine bodyPost_ret (v := .agg #[.slice p l c, .int .i64 0]) ?_ rfl ⟨_, rfl, ?_, ?_⟩
        · simp [results, Tryz.results6, go_sem, r0, r1]
        · try rw [show min k 6 = k by omega]
          exact (HM.out.row.kept (grownBy_setCell_any _ _ _ _) (.inr hn.2.symm)).kept (grownBy_setCell_any _ _ _ _) (.inr hn.2.symm)
        · exact (HM.out.below.setCell (p := ⟨w.heap.size + 1, 0, none⟩) (by simp) _).setCell (p := ⟨w.heap.size + 1, 1, none⟩) (by simp) _
      · obtain rfl : k = 6 := by omega
        clear hk hkl hk6
        go_wp2
        all_goals
          (refine bodyPost_ret (v := .agg #[.slice p l c, .int .i64 0]) ?_ rfl ⟨_, rfl, ?_, ?_⟩
           · simp [results, Tryz.results6, go_sem, r0, r1]
           · try rw [show min fl 6 = 6 by omega]
             exact (HM.out.row.kept (grownBy_setCell_any _ _ _ _) (.inr hn.2.symm)).kept (grownBy_setCell_any _ _ _ _) (.inr hn.2.symm)
           · exact (HM.out.below.setCell (p := ⟨w.heap.size + 1, 0, none⟩) (by simp) _).setCell (p := ⟨w.heap.size + 1, 1, none⟩) (by simp) _)
end Go.Proofs.YtndjhcmgngnfbaaGreatDoor
