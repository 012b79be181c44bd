/- The walk of Read: the first records of a journal. No condition but that they are records. -/
import Derived.Test.YtndjhcmgngnfbaaGreatDoorRgt
import Derived.Test.YtndjhcmgngnfbaaGreatDoorWa
import Derived.Sort.QuietTacIn
import Derived.Sort.BigQuietIn
import Derived.Stop.RegionWithIn
set_option linter.unusedSimpArgs false
set_option linter.unusedVariables false
set_option linter.all false
namespace Go.Proofs.YtndjhcmgngnfbaaGreatDoor
open Go Go.RowKit Go.Deep Go.Shelf Go.Proofs
attribute [local go_sem] Oper.semAt_some
theorem info38 : (Tryz.prog.info? 38).map (fun i => (i.zero, i.size, i.bytes)) = some (some (.agg #[.int .i64 0, .int .i64 0, .int .i64 0]), 3, 24) := by kernel_rfl
def rcCells (L : List Rc) : List Value := L.flatMap fun r => [.int .i64 r.k, .int .i64 r.a, .int .i64 r.b]
theorem rcCells_snoc (L : List Rc) (r : Rc) : rcCells (L ++ [r]) = rcCells L ++ [.int .i64 r.k, .int .i64 r.a, .int .i64 r.b] := by simp [rcCells]
theorem rcCells_length (L : List Rc) : (rcCells L).length = L.length * 3 := by
  induction L with
  | nil => rfl
  | cons r L ih => simp only [rcCells, List.flatMap_cons, List.length_append, List.length_cons, List.length_nil] at ih ⊢; omega
theorem right_in (n : Nat) (q : Option Addr) (c cap : Nat) (w : World) :
    CallsIn Fence.wide n Tryz.prog 28 #[.slice q c cap] w fun e w' => e = .returned (.func (.func 52) #[] #[.pointer (some ⟨w.heap.size, 0, none⟩)]) ∧ w' = w.alloc (.cells #[.slice q c cap] 22) := by
  refine callsIn_of_wp Tryz.func28 rfl trivial ?_ rfl
  simp only [Tryz.ntmps28, List.size_toArray, List.length_cons, List.length_nil, Nat.reduceAdd, Nat.reduceSub, Array.replicate_succ, Array.replicate_zero, List.push_toArray, List.append_toArray, List.nil_append, List.cons_append]
  gi_wp2
  go_ret
  exact ⟨rfl, rfl⟩
theorem cells_own {β : Type} (B : Nat) (c : Array Value) (t : TypeId) : Own (fun (_ : β) W => W.heap[B]? = some (.cells c t (0, 0))) := fun s X Y row hs hg hrow =>
  (hg.block B (Array.getElem?_eq_some_iff.1 hs).1 (fun e' => by obtain ⟨o, ho, hc⟩ := hrow B e'.symm; rw [hs] at ho; cases ho; cases hc)).trans hs
theorem kept_t {n₀ Bn : Nat} {A B C : World} (h : Kept n₀ Bn A B) (k : Kept n₀ Bn B C) : Kept n₀ Bn A C := ⟨h.1.trans k.1, k.2.trans h.2⟩
set_option maxRecDepth 100000 in
set_option maxHeartbeats 4000000 in
theorem read_in (w : World) (lb c cap : Nat) (L : List Rc) (hlb : lb < w.heap.size) (hd : DecSays w.heap.size lb cap w L) (hcl : L.length = c / 11) (hcc : c ≤ cap) (hcap : cap ≤ 100000) :
    CallsIn Fence.wide 6 Tryz.prog 12 #[.slice (some ⟨lb, 0, none⟩) c cap] w fun e w' => ∃ v, e = .returned (.tuple #[v, .int .i64 (L.length * 11 : Nat)]) ∧ w'.ownsRow w.heap.size 38 3 v L.length (rcCells L) ∧ Below w.heap.size w w' := by
  obtain ⟨i0, hi, hz0, hz1, hz2⟩ := info_parts info38
  refine callsIn_of_wp_marks Tryz.func12 rfl trivial ?_ rfl
  simp only [Tryz.ntmps12, List.size_toArray, List.length_cons, List.length_nil, Nat.reduceAdd, Nat.reduceSub, Array.replicate_succ, Array.replicate_zero, List.push_toArray, List.append_toArray, List.nil_append, List.cons_append]
  gi_wp2_with (refine ⟨trivial, ?_⟩; gi_at_call 28; refine (right_in _ _ _ _ _).mono ?_; rintro e w' ⟨rfl, rfl⟩)
  have bL := (Boxed.new w 44 (.slice none 0 0)).alloc (.cells #[.slice (some ⟨lb, 0, none⟩) c cap] 22)
  have bJ := Boxed.new (w.alloc (.cells #[.slice none 0 0] 44)) 22 (.slice (some ⟨lb, 0, none⟩) c cap)
  rw [World.size_alloc] at bJ
  have hB0 : Below w.heap.size w ((w.alloc (.cells #[.slice none 0 0] 44)).alloc (.cells #[.slice (some ⟨lb, 0, none⟩) c cap] 22)) := ((Below.refl _ w).alloc (Nat.le_refl _) _).alloc (by simp) _
  have hsz : ((w.alloc (.cells #[.slice none 0 0] 44)).alloc (.cells #[.slice (some ⟨lb, 0, none⟩) c cap] 22)).heap.size = w.heap.size + 1 + 1 := by simp
  obtain ⟨W0, hW0⟩ : ∃ W0, ((w.alloc (.cells #[.slice none 0 0] 44)).alloc (.cells #[.slice (some ⟨lb, 0, none⟩) c cap] 22)) = W0 := ⟨_, rfl⟩
  rw [hW0] at bL bJ hB0 hsz ⊢
  clear hW0
  have hbJ : W0.heap[w.heap.size + 1]? = some (.cells #[.slice (some ⟨lb, 0, none⟩) c cap] 22 (0, 0)) := bJ
  refine wpIn_rangeFunc_ownH (F := Fence.wide) (n := 6) (α := Rc) rfl (by omega) (gf := 52) (lb := #[.pointer (some ⟨w.heap.size + 1, 0, none⟩)]) rfl trivial (enters_of Tryz.func52 (by kernel_rfl) rfl)
    (encs := rcE) (Kp := Kept w.heap.size (w.heap.size + 1)) (S := fun ys => ys = L) (Sp := fun pre => pre <+: L) (N := L.length) (w0 := W0)
    (fun l J Jx W hW hJ hJx hY h0 => right1_in 5 (by omega) l (w.heap.size + 1) w.heap.size lb c cap L w hd hcl hcc hcap J Jx hY W hJ ((hW.block _ (by omega)).trans hbJ) (hB0.trans (hW.mono (by omega))) (by have := hW.size; omega) h0)
    kept_t (fun W l o o' hl ho _ _ => ⟨(Below.refl _ W).grown (grownBy_putObj' W l o') (by have := (Array.getElem?_eq_some_iff.1 ho).1; omega) (fun k e => by cases e; omega), (grownBy_putObj' W l o').block _ (by have := (Array.getElem?_eq_some_iff.1 ho).1; omega) (fun e => by cases e; omega)⟩) (Below.refl _ _) (fun _ => rfl)
    (fun pre W => (∃ v, Boxed W w.heap.size 44 v ∧ W.ownsRow w.heap.size 38 3 v pre.length (rcCells pre) ∧ True) ∧ (Below w.heap.size w W ∧ Boxed W (w.heap.size + 1) 22 (.slice (some ⟨lb, 0, none⟩) c cap)))
    (fun _ _ _ => False)
    (OwnFrom.and (Own.from (holdsRow_own w.heap.size w.heap.size 44 38 3 (fun pre => pre.length) (fun pre => rcCells pre) (fun pre v => True)) _) (OwnFrom.and (ownFrom_below (Nat.le_refl _) (by omega)) (Own.from (boxed_own _ _ (fun _ => _)) _)))
    (fun _ _ _ _ _ hs _ _ => hs)
    ⟨⟨_, bL, World.ownsRow_nil _ _ _ _, trivial⟩, hB0, bJ⟩
    (fun x a' W => ∃ Bx, w.heap.size + 1 < Bx ∧ W.heap[Bx]? = some (.cells #[.int .i64 x.k, .int .i64 x.a, .int .i64 x.b] 38 (0, 0)) ∧ a' = { tmps := #[.slice (some ⟨lb, 0, none⟩) c cap, undef, .slice none 0 0, .int .i64 0, .pointer (some ⟨w.heap.size, 0, none⟩), .pointer (some ⟨Bx, 0, none⟩), .slice (some ⟨lb, 0, none⟩) c cap, .func (.func 52) #[] #[.pointer (some ⟨w.heap.size + 1, 0, none⟩)], .agg #[.int .i64 x.k, .int .i64 x.a, .int .i64 x.b], undef, undef, undef, undef, undef, undef, undef, undef], defers := [] })
    (fun x a' _ X Y row hs hg hr => by obtain ⟨Bx, h1, h2, h3⟩ := hs; exact ⟨Bx, h1, cells_own Bx _ 38 () X Y row h2 hg (fun r e => (hr r e).2), h3⟩)
    ?assign ?body ?done ?stop
  case assign =>
    rintro l pre x W K ⟨⟨v, hv, hrow, _⟩, hB1, hj⟩ hK
    have hjl := hj.lt
    dsimp only [rcE]
    gi_wp2
    exact hK _ _ ((KeepsOthers.alloc _ _).from _) ⟨(Below.refl _ W).alloc hB1.size _, (hj.alloc _).trans hj.symm⟩ ⟨⟨v, hv.alloc _, hrow.alloc _, trivial⟩, hB1.alloc hB1.size _, hj.alloc _⟩ ⟨W.heap.size, hjl, blk_alloc_new _ _, rfl⟩
  case body =>
    rintro l pre x a' W hl ⟨r, hr⟩ ⟨⟨v, hv, hrow, _⟩, hB1, hj⟩ ⟨Bx, hBx, hX, rfl⟩ hlt
    have cV := hv.cell
    obtain ⟨x1, x2, x3⟩ := rc_cells hX
    have hll : L.length ≤ 100000 := by omega
    gi_wp2_with (gi_at_builtin; refine wpListIn_append_own _ rfl _ _ 44 rfl w.heap.size 38 i0 (.agg #[.int .i64 0, .int .i64 0, .int .i64 0]) 3 24 Tryz.underlying44 hi hz0 hz1 hz2 rfl (by decide) _ _ _ rfl (hrow.alloc _) ⟨W.heap.size, 0, none⟩ 1 1 [.int .i64 x.k, .int .i64 x.a, .int .i64 x.b] rfl rfl (fun j u hj => cells_of_new W _ 38 j u hj) (by simp [Value.oneCell']) (by unfold maxLen; omega) (by omega) (by have := hB1.size; simp; omega) ?_; intro v' w1 hown' hgrow _; obtain ⟨g', cap', rfl⟩ := ownsRow_succ hown'; obtain ⟨hv1, hv2, hr2, hk2, hb2⟩ := hv.appended (by decide) hrow hB1.size (Nat.le_refl _) hown' hgrow; have hc1 := hv1.cell; have hf1 := hv1.frozen)
    have hj2 := ((hj.alloc _).kept hgrow (hj.not_row (by decide) hrow)).other (B' := w.heap.size) (by omega) (.slice (some ⟨g', 0, none⟩) (pre.length + 1) cap')
    exact ⟨hk2.from _, ⟨hb2, hj2.trans hj.symm⟩, ⟨_, hv2, by rw [rcCells_snoc]; simpa using hr2, trivial⟩, hB1.trans hb2, hj2⟩
  case done =>
    rintro D ys W hD rfl ⟨⟨v, hv, hrow, _⟩, hB1, hj⟩ hK
    have hc := hv.cell
    obtain ⟨q, cp, rfl⟩ : ∃ q cp, v = .slice q ys.length cp := by
      rcases hrow.2 with ⟨h1, h2⟩ | ⟨g, cp, cur, h1, _⟩
      · exact ⟨none, 0, by rw [h1, h2]⟩
      · exact ⟨_, _, h1⟩
    have hll : ys.length ≤ 100000 := by omega
    gi_wp2
    gi_region
    gi_wp2
    have hK' : W.drew.heap[D]? = some (Obj.deferred (some [])) := hK
    have hrow' : W.drew.ownsRow w.heap.size 38 3 (.slice q ys.length cp) ys.length (rcCells ys) := hrow
    refine ⟨by simp, .inl ⟨_, _, rfl, run_takeDeferred hK', ?_⟩⟩
    refine ⟨.tuple #[.slice q (c / 11) cp, .int .i64 ((c : Int) / 11 * 11)], ?_, .slice q ys.length cp, ?_, ?_, ?_⟩
    · simp [results, Tryz.f12, go_sem]
    · rw [hcl]; push_cast; rfl
    · exact ownsRow_putObj hrow' _ hK' rfl
    · exact hB1.drew.trans (belowK_b (w := w) (Nat.le_refl _) W.drew D _ _ (by omega) hK' rfl rfl)
  case stop =>
    rintro D c pre W _ _ h _
    exact h.elim
theorem read_walk (w : World) (lb c cap : Nat) (L : List Rc) (hlb : lb < w.heap.size) (hd : DecSays w.heap.size lb cap w L) (hcl : L.length = c / 11) (hcc : c ≤ cap) (hcap : cap ≤ 100000) :
    Calls Tryz.prog 12 #[.slice (some ⟨lb, 0, none⟩) c cap] w fun e w' => ∃ v, e = .returned (.tuple #[v, .int .i64 (L.length * 11 : Nat)]) ∧ w'.ownsRow w.heap.size 38 3 v L.length (rcCells L) ∧ Below w.heap.size w w' :=
  callsIn_wide.1 (read_in w lb c cap L hlb hd hcl hcc hcap)
end Go.Proofs.YtndjhcmgngnfbaaGreatDoor
