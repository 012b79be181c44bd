/- A law: copy of a whole row onto a row of the call's own. No condition. -/
import Derived.Test.YtndjhcmgngnfbaaGreatDoorSpW
import Derived.Laws.CopyOwn
set_option linter.unusedSimpArgs false
set_option linter.unusedVariables false
set_option linter.all false
section
namespace Go.Proofs.YtndjhcmgngnfbaaGreatDoor
open Go Go.RowKit
/-- w' is w but for block g. -/
structure Only (g : Nat) (w w' : World) : Prop where
  os : w'.os = w.os
  tape : w'.tape = w.tape
  output : w'.output = w.output
  size : w'.heap.size = w.heap.size
  block : ∀ q, q ≠ g → w'.heap[q]? = w.heap[q]?
theorem Only.below {g B : Nat} {a w w' : World} (h : Only g w w') (hb : Below B a w) (hg : B ≤ g) : Below B a w' :=
  hb.trans ⟨h.os, h.tape, h.output, by rw [h.size]; exact Nat.le_refl _, fun k hk => h.block k (by omega)⟩
theorem Only.cell {g : Nat} {w w' : World} (h : Only g w w') {a : Addr} (ha : a.block ≠ g) : w'.cell? a = w.cell? a := World.cell?_of_block (h.block _ ha)
theorem Only.free {g : Nat} {w w' : World} (h : Only g w w') {a : Addr} (ha : a.block ≠ g) : w'.frozen? a = w.frozen? a := World.frozen?_of_block (h.block _ ha)
theorem wpList_copy_rows {P : Program} {w : World} {ops : Array Oper} {rest : List Oper} {o : Oper} {a : Act} {Q : Exit → Act → World → Prop} (hgd : o.guard = none) (d s : Operand) (T : TypeId)
    (ho : o.op = .call { callee := .builtin .copy, args := #[d, s], argTypes := #[T, T] }) (elem : TypeId) (hu : P.underlying T = some (.slice elem)) (hsz : (P.info? elem).map (·.size) = some 1)
    (g b n c c' : Nat) (hd : a.eval d = .slice (some ⟨g, 0, none⟩) n c) (hs : a.eval s = .slice (some ⟨b, 0, none⟩) n c') (t : TypeId) (z f : Nat → Value) (hg : w.rowIs g t n z) (hf : ∀ k, k < n → w.cell? ⟨b, k, none⟩ = some (f k)) (h1 : ∀ k, (f k).oneCell' = true)
    (h : ∀ w', w'.rowIs g t n f → Only g w w' → wpList P ops Q rest (a.put o.dst (goInt n)) w') : wpList P ops Q (o :: rest) a w := by
  obtain ⟨cur, hg1, hg2, hg3⟩ := hg
  have hlen : ((List.range n).map f).length = n := by simp
  refine wpList_copy_own hgd d s T T ho elem hu hsz g 0 n c ⟨b, 0, none⟩ n c' hd hs cur t hg1 ((List.range n).map f) (by simp) ?_ (by simp [hg2]) (by intro v hv; simp at hv; obtain ⟨k, _, rfl⟩ := hv; exact h1 k) ?_
  · intro j v hj
    obtain ⟨hj1, hj2⟩ := List.getElem?_eq_some_iff.1 hj
    simp at hj1 hj2
    have e : (⟨b, 0, none⟩ : Addr).add j = ⟨b, j, none⟩ := by simp [Addr.add]; intro h; omega
    rw [e, hf j hj1, hj2]
  · rw [hlen]
    refine h _ ⟨_, setRow_heap w g _ _ t _ hg1, ?_, ?_⟩ ⟨rfl, rfl, rfl, by simp [World.setRow], fun q hq => setRow_other w g q _ hq⟩
    · simp [hg2]
    · intro i hi
      have e : cur.toList.drop n = [] := List.drop_eq_nil_of_le (by simp [hg2])
      simp [e, hi]
end Go.Proofs.YtndjhcmgngnfbaaGreatDoor
end
/- The walk of copied. No condition but that there are no more than a thousand jobs. -/
section
namespace Go.Proofs.YtndjhcmgngnfbaaGreatDoor
open Go Go.RowKit Go.Deep
theorem info3 : (Tryz.prog.info? 3).map (fun i => (i.zero, i.size, i.bytes)) = some (some (.int .i64 0), 1, 8) := by kernel_rfl
theorem info4 : (Tryz.prog.info? 4).map (fun i => (i.zero, i.size, i.bytes)) = some (some (.bool false), 1, 1) := by kernel_rfl
theorem size3 : (Tryz.prog.info? 3).map (·.size) = some 1 := by kernel_rfl
theorem size4 : (Tryz.prog.info? 4).map (·.size) = some 1 := by kernel_rfl
/-- The three structs that copied makes. -/
structure CopyIn (N n b1 b2 b3 : Nat) (now : Int) (sealed : Bool) (W : World) : Prop where
  src : W.heap[N]? = some (.cells #[.slice (some ⟨b1, 0, none⟩) n n, .slice (some ⟨b2, 0, none⟩) n n, .slice (some ⟨b3, 0, none⟩) n n, .int .i64 now, .bool sealed] 34 (0, 0))
  res : W.heap[N + 1]? = some (.cells #[.slice none 0 0, .slice none 0 0, .slice none 0 0, .int .i64 0, .bool false] 34 (0, 0))
  dst : W.heap[N + 1 + 1]? = some (.cells #[.slice (some ⟨N + 1 + 1 + 1, 0, none⟩) n n, .slice (some ⟨N + 1 + 1 + 1 + 1, 0, none⟩) n n, .slice (some ⟨N + 1 + 1 + 1 + 1 + 1, 0, none⟩) n n, .int .i64 now, .bool sealed] 34 (0, 0))
theorem CopyIn.only {N n b1 b2 b3 g : Nat} {now : Int} {sealed : Bool} {W W' : World} (h : CopyIn N n b1 b2 b3 now sealed W) (ho : Only g W W') (hg : N + 1 + 1 < g) : CopyIn N n b1 b2 b3 now sealed W' :=
  ⟨(ho.block _ (by omega)).trans h.src, (ho.block _ (by omega)).trans h.res, (ho.block _ (by omega)).trans h.dst⟩
abbrev copyW (w : World) (n b1 b2 b3 : Nat) (now : Int) (sealed : Bool) : World :=
  (((((w.alloc (Obj.cells #[.slice (some ⟨b1, 0, none⟩) n n, .slice (some ⟨b2, 0, none⟩) n n, .slice (some ⟨b3, 0, none⟩) n n, .int .i64 now, .bool sealed] 34)).alloc
    (Obj.cells #[.slice none 0 0, .slice none 0 0, .slice none 0 0, .int .i64 0, .bool false] 34)).alloc
    (Obj.cells #[.slice (some ⟨w.heap.size + 1 + 1 + 1, 0, none⟩) n n, .slice (some ⟨w.heap.size + 1 + 1 + 1 + 1, 0, none⟩) n n, .slice (some ⟨w.heap.size + 1 + 1 + 1 + 1 + 1, 0, none⟩) n n, .int .i64 now, .bool sealed] 34)).alloc
    (Obj.cells (madeCells #[.int .i64 0] n) 3)).alloc (Obj.cells (madeCells #[.bool false] n) 4)).alloc (Obj.cells (madeCells #[.int .i64 0] n) 3)
theorem copyW_in (w : World) (n b1 b2 b3 : Nat) (now : Int) (sealed : Bool) : CopyIn w.heap.size n b1 b2 b3 now sealed (copyW w n b1 b2 b3 now sealed) ∧ Below w.heap.size w (copyW w n b1 b2 b3 now sealed) ∧
    (copyW w n b1 b2 b3 now sealed).rowIs (w.heap.size + 1 + 1 + 1) 3 n (fun _ => .int .i64 0) ∧ (copyW w n b1 b2 b3 now sealed).rowIs (w.heap.size + 1 + 1 + 1 + 1) 4 n (fun _ => .bool false) ∧ (copyW w n b1 b2 b3 now sealed).rowIs (w.heap.size + 1 + 1 + 1 + 1 + 1) 3 n (fun _ => .int .i64 0) := by
  unfold copyW
  refine ⟨⟨?_, ?_, ?_⟩, ?_, ?_, ?_, ?_⟩
  · rw [blk_alloc_lt _ _ _ (by simp <;> omega), blk_alloc_lt _ _ _ (by simp <;> omega), blk_alloc_lt _ _ _ (by simp <;> omega), blk_alloc_lt _ _ _ (by simp <;> omega), blk_alloc_lt _ _ _ (by simp)]
    exact blk_alloc_new _ _
  · rw [blk_alloc_lt _ _ _ (by simp <;> omega), blk_alloc_lt _ _ _ (by simp <;> omega), blk_alloc_lt _ _ _ (by simp <;> omega), blk_alloc_lt _ _ _ (by simp)]
    have := blk_alloc_new (w.alloc (Obj.cells #[.slice (some ⟨b1, 0, none⟩) n n, .slice (some ⟨b2, 0, none⟩) n n, .slice (some ⟨b3, 0, none⟩) n n, .int .i64 now, .bool sealed] 34)) (Obj.cells #[.slice none 0 0, .slice none 0 0, .slice none 0 0, .int .i64 0, .bool false] 34)
    rw [World.size_alloc] at this
    exact this
  · rw [blk_alloc_lt _ _ _ (by simp <;> omega), blk_alloc_lt _ _ _ (by simp <;> omega), blk_alloc_lt _ _ _ (by simp)]
    have := blk_alloc_new ((w.alloc (Obj.cells #[.slice (some ⟨b1, 0, none⟩) n n, .slice (some ⟨b2, 0, none⟩) n n, .slice (some ⟨b3, 0, none⟩) n n, .int .i64 now, .bool sealed] 34)).alloc (Obj.cells #[.slice none 0 0, .slice none 0 0, .slice none 0 0, .int .i64 0, .bool false] 34)) (Obj.cells #[.slice (some ⟨w.heap.size + 1 + 1 + 1, 0, none⟩) n n, .slice (some ⟨w.heap.size + 1 + 1 + 1 + 1, 0, none⟩) n n, .slice (some ⟨w.heap.size + 1 + 1 + 1 + 1 + 1, 0, none⟩) n n, .int .i64 now, .bool sealed] 34)
    rw [World.size_alloc, World.size_alloc] at this
    exact this
  · exact ((((((Below.refl _ w).alloc (Nat.le_refl _) _).alloc (by simp) _).alloc (by simp <;> omega) _).alloc (by simp <;> omega) _).alloc (by simp <;> omega) _).alloc (by simp <;> omega) _
  · refine World.rowIs.alloc (World.rowIs.alloc ?_ _) _
    have := World.rowIs_made (((w.alloc (Obj.cells #[.slice (some ⟨b1, 0, none⟩) n n, .slice (some ⟨b2, 0, none⟩) n n, .slice (some ⟨b3, 0, none⟩) n n, .int .i64 now, .bool sealed] 34)).alloc (Obj.cells #[.slice none 0 0, .slice none 0 0, .slice none 0 0, .int .i64 0, .bool false] 34)).alloc (Obj.cells #[.slice (some ⟨w.heap.size + 1 + 1 + 1, 0, none⟩) n n, .slice (some ⟨w.heap.size + 1 + 1 + 1 + 1, 0, none⟩) n n, .slice (some ⟨w.heap.size + 1 + 1 + 1 + 1 + 1, 0, none⟩) n n, .int .i64 now, .bool sealed] 34)) (.int .i64 0) n 3
    rw [World.size_alloc, World.size_alloc, World.size_alloc] at this
    exact this
  · refine World.rowIs.alloc ?_ _
    have := World.rowIs_made ((((w.alloc (Obj.cells #[.slice (some ⟨b1, 0, none⟩) n n, .slice (some ⟨b2, 0, none⟩) n n, .slice (some ⟨b3, 0, none⟩) n n, .int .i64 now, .bool sealed] 34)).alloc (Obj.cells #[.slice none 0 0, .slice none 0 0, .slice none 0 0, .int .i64 0, .bool false] 34)).alloc (Obj.cells #[.slice (some ⟨w.heap.size + 1 + 1 + 1, 0, none⟩) n n, .slice (some ⟨w.heap.size + 1 + 1 + 1 + 1, 0, none⟩) n n, .slice (some ⟨w.heap.size + 1 + 1 + 1 + 1 + 1, 0, none⟩) n n, .int .i64 now, .bool sealed] 34)).alloc (Obj.cells (madeCells #[.int .i64 0] n) 3)) (.bool false) n 4
    rw [World.size_alloc, World.size_alloc, World.size_alloc, World.size_alloc] at this
    exact this
  · have := World.rowIs_made (((((w.alloc (Obj.cells #[.slice (some ⟨b1, 0, none⟩) n n, .slice (some ⟨b2, 0, none⟩) n n, .slice (some ⟨b3, 0, none⟩) n n, .int .i64 now, .bool sealed] 34)).alloc (Obj.cells #[.slice none 0 0, .slice none 0 0, .slice none 0 0, .int .i64 0, .bool false] 34)).alloc (Obj.cells #[.slice (some ⟨w.heap.size + 1 + 1 + 1, 0, none⟩) n n, .slice (some ⟨w.heap.size + 1 + 1 + 1 + 1, 0, none⟩) n n, .slice (some ⟨w.heap.size + 1 + 1 + 1 + 1 + 1, 0, none⟩) n n, .int .i64 now, .bool sealed] 34)).alloc (Obj.cells (madeCells #[.int .i64 0] n) 3)).alloc (Obj.cells (madeCells #[.bool false] n) 4)) (.int .i64 0) n 3
    rw [World.size_alloc, World.size_alloc, World.size_alloc, World.size_alloc, World.size_alloc] at this
    exact this
theorem CopyIn.cells {N n b1 b2 b3 : Nat} {now : Int} {sealed : Bool} {W : World} (h : CopyIn N n b1 b2 b3 now sealed W) :
    W.cell? ⟨N, 1, none⟩ = some (.slice (some ⟨b2, 0, none⟩) n n) ∧ W.cell? ⟨N, 2, none⟩ = some (.slice (some ⟨b3, 0, none⟩) n n) ∧
    W.cell? ⟨N + 1 + 1, 0, none⟩ = some (.slice (some ⟨N + 1 + 1 + 1, 0, none⟩) n n) ∧ W.cell? ⟨N + 1 + 1, 1, none⟩ = some (.slice (some ⟨N + 1 + 1 + 1 + 1, 0, none⟩) n n) ∧ W.cell? ⟨N + 1 + 1, 2, none⟩ = some (.slice (some ⟨N + 1 + 1 + 1 + 1 + 1, 0, none⟩) n n) ∧
    W.cell? ⟨N + 1 + 1, 3, none⟩ = some (.int .i64 now) ∧ W.cell? ⟨N + 1 + 1, 4, none⟩ = some (.bool sealed) ∧
    W.cell? ⟨N + 1, 0, none⟩ = some (.slice none 0 0) ∧ W.cell? ⟨N + 1, 1, none⟩ = some (.slice none 0 0) ∧ W.cell? ⟨N + 1, 2, none⟩ = some (.slice none 0 0) ∧ W.cell? ⟨N + 1, 3, none⟩ = some (.int .i64 0) ∧ W.cell? ⟨N + 1, 4, none⟩ = some (.bool false) ∧
    W.frozen? ⟨N + 1, 0, none⟩ = false ∧ W.frozen? ⟨N + 1, 1, none⟩ = false ∧ W.frozen? ⟨N + 1, 2, none⟩ = false ∧ W.frozen? ⟨N + 1, 3, none⟩ = false ∧ W.frozen? ⟨N + 1, 4, none⟩ = false :=
  ⟨struct_cell h.src rfl, struct_cell h.src rfl, struct_cell h.dst rfl, struct_cell h.dst rfl, struct_cell h.dst rfl, struct_cell h.dst rfl, struct_cell h.dst rfl, struct_cell h.res rfl, struct_cell h.res rfl, struct_cell h.res rfl, struct_cell h.res rfl, struct_cell h.res rfl,
    struct_free h.res, struct_free h.res, struct_free h.res, struct_free h.res, struct_free h.res⟩
set_option maxRecDepth 10000 in
set_option maxHeartbeats 4000000 in
theorem copied_walk (w : World) (n b1 b2 b3 : Nat) (s : Sp) (hn : n ≤ 1000) (hR : SpIn w n b1 b2 b3 s) :
    Calls Tryz.prog 25 #[spV n b1 b2 b3 s] w fun e w' => ∃ d1 d2 d3, e = .returned (spV n d1 d2 d3 s) ∧ SpIn w' n d1 d2 d3 s ∧ w.heap.size ≤ d1 ∧ w.heap.size ≤ d2 ∧ w.heap.size ≤ d3 ∧ Below w.heap.size w w' := by
  have hm3 := fun w => run_make_row' (P := Tryz.prog) 28 3 (.int .i64 0) 8 Tryz.underlying28 info3 rfl .i64 .i64 n (by omega) (by omega) w
  have hm4 := fun w => run_make_row' (P := Tryz.prog) 32 4 (.bool false) 1 Tryz.underlying32 info4 rfl .i64 .i64 n (by omega) (by omega) w
  have H : Hid (SpIn w n b1 b2 b3 s) := hR
  have L1 := hR.lt1
  have L2 := hR.lt2
  have L3 := hR.lt3
  clear hR
  unfold spV
  generalize s.now = now at *
  generalize s.sealed = sealed at *
  have HW : Hid _ := copyW_in w n b1 b2 b3 now sealed
  go_enter Tryz.func25, Tryz.ntmps25
  go_wp2_with (first
    | (with_reducible show wpList _ _ _ _ _ _; refine wpList_copy_rows rfl (.tmp 21) (.tmp 23) 28 rfl 3 Tryz.underlying28 size3 (w.heap.size + 1 + 1 + 1) b1 n n n rfl rfl 3 (fun _ => .int .i64 0) (fun k => .int .i64 (s.tries k)) HW.out.2.2.1 (fun k hk => ((HW.out.2.1.cell (p := ⟨b1, k, none⟩) L1).trans (H.out.tries.cell hk))) (fun _ => rfl) ?_; intro w5 r5 o5; have C5 := HW.out.1.only o5 (by omega); have B5 := o5.below HW.out.2.1 (by omega); obtain ⟨x1, x2, x3, x4, x5, x6, x7, x8, x9, x10, x11, x12, x13, x14, x15, x16, x17⟩ := C5.cells)
    | (with_reducible show wpList _ _ _ _ _ _; refine wpList_copy_rows rfl (.tmp 26) (.tmp 28) 32 rfl 4 Tryz.underlying32 size4 (w.heap.size + 1 + 1 + 1 + 1) b2 n n n rfl rfl 4 (fun _ => .bool false) (fun k => .bool (s.done k)) (HW.out.2.2.2.1.of_block (o5.block _ (by omega))) (fun k hk => ((B5.cell (p := ⟨b2, k, none⟩) L2).trans (H.out.done.cell hk))) (fun _ => rfl) ?_; intro w6 r6 o6; have C6 := C5.only o6 (by omega); have B6 := o6.below B5 (by omega); obtain ⟨y1, y2, y3, y4, y5, y6, y7, y8, y9, y10, y11, y12, y13, y14, y15, y16, y17⟩ := C6.cells)
    | (with_reducible show wpList _ _ _ _ _ _; refine wpList_copy_rows rfl (.tmp 31) (.tmp 33) 28 rfl 3 Tryz.underlying28 size3 (w.heap.size + 1 + 1 + 1 + 1 + 1) b3 n n n rfl rfl 3 (fun _ => .int .i64 0) (fun k => .int .i64 (s.taken k)) ((HW.out.2.2.2.2.of_block (o5.block _ (by omega))).of_block (o6.block _ (by omega))) (fun k hk => ((B6.cell (p := ⟨b3, k, none⟩) L3).trans (H.out.taken.cell hk))) (fun _ => rfl) ?_; intro w7 r7 o7; have C7 := C6.only o7 (by omega); have B7 := o7.below B6 (by omega); obtain ⟨z1, z2, z3, z4, z5, z6, z7, z8, z9, z10, z11, z12, z13, z14, z15, z16, z17⟩ := C7.cells)
    )
  have R5 : w7.rowIs (w.heap.size + 1 + 1 + 1) 3 n (fun k => .int .i64 (s.tries k)) := (r5.of_block (o6.block _ (by omega))).of_block (o7.block _ (by omega))
  have R6 : w7.rowIs (w.heap.size + 1 + 1 + 1 + 1) 4 n (fun k => .bool (s.done k)) := r6.of_block (o7.block _ (by omega))
  refine bodyPost_ret (v := .agg #[.slice (some ⟨w.heap.size + 1 + 1 + 1, 0, none⟩) n n, .slice (some ⟨w.heap.size + 1 + 1 + 1 + 1, 0, none⟩) n n, .slice (some ⟨w.heap.size + 1 + 1 + 1 + 1 + 1, 0, none⟩) n n, .int .i64 now, .bool sealed]) ?_ rfl ⟨_, _, _, rfl, ⟨?_, ?_, ?_, by omega, by omega, by omega⟩, by omega, by omega, by omega, ?_⟩
  · simp [results, Tryz.results25, go_sem, z8, z9, z10, z11, z12]
  · exact ((((R5.setOther (a := ⟨w.heap.size + 1, 0, none⟩) (by simp <;> omega) _).setOther (a := ⟨w.heap.size + 1, 1, none⟩) (by simp <;> omega) _).setOther (a := ⟨w.heap.size + 1, 2, none⟩) (by simp <;> omega) _).setOther (a := ⟨w.heap.size + 1, 3, none⟩) (by simp <;> omega) _).setOther (a := ⟨w.heap.size + 1, 4, none⟩) (by simp <;> omega) _
  · exact ((((R6.setOther (a := ⟨w.heap.size + 1, 0, none⟩) (by simp <;> omega) _).setOther (a := ⟨w.heap.size + 1, 1, none⟩) (by simp <;> omega) _).setOther (a := ⟨w.heap.size + 1, 2, none⟩) (by simp <;> omega) _).setOther (a := ⟨w.heap.size + 1, 3, none⟩) (by simp <;> omega) _).setOther (a := ⟨w.heap.size + 1, 4, none⟩) (by simp <;> omega) _
  · exact ((((r7.setOther (a := ⟨w.heap.size + 1, 0, none⟩) (by simp <;> omega) _).setOther (a := ⟨w.heap.size + 1, 1, none⟩) (by simp <;> omega) _).setOther (a := ⟨w.heap.size + 1, 2, none⟩) (by simp <;> omega) _).setOther (a := ⟨w.heap.size + 1, 3, none⟩) (by simp <;> omega) _).setOther (a := ⟨w.heap.size + 1, 4, none⟩) (by simp <;> omega) _
  · exact ((((B7.setCell (p := ⟨w.heap.size + 1, 0, none⟩) (by simp <;> omega) _).setCell (p := ⟨w.heap.size + 1, 1, none⟩) (by simp <;> omega) _).setCell (p := ⟨w.heap.size + 1, 2, none⟩) (by simp <;> omega) _).setCell (p := ⟨w.heap.size + 1, 3, none⟩) (by simp <;> omega) _).setCell (p := ⟨w.heap.size + 1, 4, none⟩) (by simp <;> omega) _
end Go.Proofs.YtndjhcmgngnfbaaGreatDoor
end
