/- The walk of the iterator over a journal's records. No condition but that the journal is one. -/
import Derived.RangeFuncNested
import Derived.RangeFuncBound
import Derived.RangeFuncCalls
import Derived.RangeFuncLeaves
import Derived.RangeFuncBox
import Derived.Shelf.Abstract
import Derived.WalkKit
import Derived.OwnWalkIn
import Derived.TacticsInMore
import Derived.LoopNIn
import Derived.LoopIn
import Derived.Maps.AppendAt
import Derived.Test.YtndjhcmgngnfbaaGreatDoorEql
set_option linter.unusedSimpArgs false
set_option linter.unusedVariables false
set_option linter.all false
namespace Go.Proofs.YtndjhcmgngnfbaaGreatDoor
open Go Go.RowKit Go.Deep Go.Shelf Go.Proofs
attribute [local go_sem] Oper.semAt_some
theorem below_grown {w w' : World} (h : Below w.heap.size w w') : w.grownBy w' none := ⟨h.os, h.tape, h.output, h.size, fun k hk _ => h.block k hk⟩
/-- What a round keeps: all blocks below n₀, and the box of the journal. -/
def Kept (n₀ Bn : Nat) (W W' : World) : Prop := Below n₀ W W' ∧ W'.heap[Bn]? = W.heap[Bn]?
def rcE (r : Rc) : Array Value := #[.agg #[.int .i64 r.k, .int .i64 r.a, .int .i64 r.b]]
/-- What decode says of the first records of a journal. -/
def DecSays (n₀ lb cap : Nat) (W0 : World) (L : List Rc) : Prop := ∀ k (hk : k < L.length) (W : World), Below n₀ W0 W → Calls Tryz.prog 53 #[.int .i64 k, .slice (some ⟨lb, k * 11, none⟩) ((k + 1) * 11 - k * 11) (cap - k * 11)] W fun e w' => e = .returned (.tuple #[.agg #[.int .i64 L[k].k, .int .i64 L[k].a, .int .i64 L[k].b], .bool true]) ∧ Below W.heap.size W w'
set_option maxRecDepth 100000 in
set_option maxHeartbeats 2000000 in
theorem right1_in (n : Nat) (hn : 1 ≤ n) (l Bn n₀ lb c cap : Nat) (L : List Rc) (W0 : World) (hd : DecSays n₀ lb cap W0 L) (hc : L.length = c / 11) (hcc : c ≤ cap) (hcap : cap ≤ 100000) (J Jx : List Rc → World → Prop) 
    (hY : ∀ pre x W, J pre W → pre.length < L.length → YieldAt Fence.wide (n - 1) Tryz.prog l (rcE x) W fun e W' =>
      (e = .returned (.bool true) ∧ J (pre ++ [x]) W' ∧ Kept n₀ Bn W W') ∨ (e = .returned (.bool false) ∧ Jx (pre ++ [x]) W'))
    (W : World) (hJ : AbidesFrom W.heap.size J) (hBn : W.heap[Bn]? = some (.cells #[.slice (some ⟨lb, 0, none⟩) c cap] 22 (0, 0))) (hB : Below n₀ W0 W) (hn₀ : n₀ ≤ W.heap.size) (h0 : J [] W) :
    CallsIn Fence.wide n Tryz.prog 52 #[.func (.yield l) #[] #[], .pointer (some ⟨Bn, 0, none⟩)] W fun e W' => (∃ v, e = .returned v) ∧
      ((∃ ys, ys = L ∧ J ys W') ∨ (∃ pre, pre <+: L ∧ Jx pre W')) := by
  refine callsIn_of_wp Tryz.func52 rfl trivial ?_ rfl
  simp only [Tryz.ntmps52, List.size_toArray, List.length_cons, List.length_nil, Nat.reduceAdd, Nat.reduceSub, Array.replicate_succ, Array.replicate_zero, List.push_toArray, List.append_toArray, List.nil_append, List.cons_append]
  gi_wp2
  gi_loopw [3] (fun i wr => ∃ k : Nat, k ≤ L.length ∧ i = .int .i64 k ∧ J (L.take k) wr ∧ wr.heap[Bn]? = some (.cells #[.slice (some ⟨lb, 0, none⟩) c cap] 22 (0, 0)) ∧ Below n₀ W0 wr ∧ W.heap.size ≤ wr.heap.size)
    (fun i wr => L.length - (intOf i).toNat)
  case atStart => exact ⟨0, Nat.zero_le _, rfl, by simpa using h0, hBn, hB, Nat.le_refl _⟩
  case round =>
    obtain ⟨k, hk, rfl, hJk, hBk, hBl, hsz⟩ := hrel
    have cb : wr.cell? ⟨Bn, 0, none⟩ = some (.slice (some ⟨lb, 0, none⟩) c cap) := struct_cell hBk rfl
    rcases Nat.lt_or_ge k L.length with hkl | hkl
    · have a1 : k * 11 + 11 ≤ c := by omega
      have HD : Hid (∀ (W : World), Below n₀ W0 W → Calls Tryz.prog 53 #[.int .i64 k, .slice (some ⟨lb, k * 11, none⟩) ((k + 1) * 11 - k * 11) (cap - k * 11)] W fun e w' => e = .returned (.tuple #[.agg #[.int .i64 L[k].k, .int .i64 L[k].a, .int .i64 L[k].b], .bool true]) ∧ Below W.heap.size W w') := hd k hkl
      have HT : Hid (L.take k ++ [L[k]] = L.take (k + 1)) := by rw [List.take_succ_eq_append_getElem hkl]; rfl
      have HH : Hid (J (L.take k) wr ∧ wr.heap[Bn]? = some (.cells #[.slice (some ⟨lb, 0, none⟩) c cap] 22 (0, 0)) ∧ Below n₀ W0 wr ∧ W.heap.size ≤ wr.heap.size ∧ k < L.length) := ⟨hJk, hBk, hBl, hsz, hkl⟩
      have hBlt : Bn < wr.heap.size := (Array.getElem?_eq_some_iff.1 hBk).1
      clear hd hBk hJk hBl
      generalize L[k] = x at *
      gi_wp2_with (first
        | (refine ⟨trivial, ?_⟩; gi_at_call 53; refine (callsIn_wide.2 (HD.out _ HH.out.2.2.1)).mono ?_; rintro e w2 ⟨rfl, hb2⟩; obtain ⟨fn, tmps, assign, body, hy, hR⟩ := hY (L.take k) x (w2.alloc (Obj.cells #[.int .i64 x.k, .int .i64 x.a, .int .i64 x.b] 38)) (hJ _ _ _ none (hJ _ _ _ none HH.out.1 (below_grown hb2) (fun _ e => by cases e)) (World.grownBy_alloc _ _ _) (fun _ e => by cases e)) (by have := HH.out.2.2.2.2; simp; omega); dsimp only [rcE] at hy))
      refine hR.mono ?_
      rintro e W3 (⟨rfl, hJ3, hk3⟩ | ⟨rfl, hJx3⟩)
      · gi_wp2
        go_roundw
        case rel =>
          obtain ⟨h1, h2, h3, h4, h5⟩ := HH.out
          rw [HT.out] at hJ3
          have s2 := hb2.size
          have g1 : (w2.alloc (Obj.cells #[.int .i64 x.k, .int .i64 x.a, .int .i64 x.b] 38)).heap[Bn]? = some (.cells #[.slice (some ⟨lb, 0, none⟩) c cap] 22 (0, 0)) := (blk_alloc_lt _ _ _ (by omega)).trans ((hb2.block _ hBlt).trans h2)
          have g2 : Below n₀ W0 (w2.alloc (Obj.cells #[.int .i64 x.k, .int .i64 x.a, .int .i64 x.b] 38)) := (h3.trans (hb2.mono (by omega))).alloc (by omega) _
          exact ⟨k + 1, h5, by push_cast; rfl, hJ3, hk3.2.trans g1, g2.trans hk3.1, by have := hk3.1.size; simp at this; omega⟩
        case measure => simp [intOf]; omega
      · gi_wp2
        refine bodyPost_ret (results_none rfl _ _ _) rfl ?_
        exact ⟨⟨_, rfl⟩, .inr ⟨L.take k ++ [x], by rw [HT.out]; exact List.take_prefix _ _, hJx3⟩⟩
    · obtain rfl : k = L.length := by omega
      have a2 : ¬ (11 : Int) ≤ (c : Int) - (L.length : Int) * 11 := by omega
      gi_wp2
      go_end0
      exact ⟨⟨_, rfl⟩, .inl (by first | exact ⟨L, rfl, by simpa using hJk⟩ | simpa using hJk)⟩
end Go.Proofs.YtndjhcmgngnfbaaGreatDoor
