/- TopSpoolsRecover answers true at every input and leaves its arguments as they were: the row and its tied card. No condition beside the given statement's own. -/
import Derived.Test.YtndjhcmgngnfbaaGreatDoorCards
import Derived.Test.YtndjhcmgngnfbaaGreatDoorTie
import Derived.Test.YtndjhcmgngnfbaaGreatDoorTop
import Derived.Test.YtndjhcmgngnfbaaGreatDoorAmSan
import Derived.Test.YtndjhcmgngnfbaaGreatDoorFacts
import Derived.WalkKit
import Derived.ProofKit
import Derived.OpenShut
import Derived.Carry
import Derived.Lib.SmallJoins
import Derived.Deep.DeepHandedRow
import Derived.Lib.LaidTab
set_option linter.unusedSimpArgs false
set_option linter.unusedVariables false
set_option linter.all false
namespace Go.Proofs.YtndjhcmgngnfbaaGreatDoor
open Go Go.ChangeShapes Go.WideShapes Go.ChangeAt Go.RowKit
namespace TopRow
theorem own : ownKnob Tryz.prog.godebug = none := by kernel_rfl
theorem laidOut : laidOutB Tryz.prog = true := by kernel_rfl
theorem cells5 : Tryz.prog.cellsOf 5 = 1 := by kernel_rfl
theorem cells24 : Tryz.prog.cellsOf 24 = 3 := by kernel_rfl
theorem noHandles : (Rows.topSpoolsRecoverRow.laid.all fun x => x.2.handleName?.isNone) = true := by kernel_rfl
/-- An array of integers in the list: the block's cells. -/
theorem tab_one {H : Type} {enc : TypeId × Value → H} {W : World} {base : Nat} {sp : Nat → Bool} {held : Bool} {fuel : Nat} {name : String} {g : Nat} {t e : TypeId} {n : Nat} {k : IntKind} {cs : Array Value} {zs : List Int} {p : List MemPlace}
    (hg : Tryz.prog.globalNamed name = some g) (ht : Tryz.prog.underlying t = some (.array n e)) (he : Tryz.prog.underlying e = some (.int k)) (hce : Tryz.prog.cellsOf e = 1) (hct : Tryz.prog.cellsOf t = n)
    (hv : W.var? Tryz.prog name = some cs) (h : DataW.trod enc Tryz.prog W base sp held fuel t cs.toList = some (Lib.tabData k zs, p)) :
    ∃ arr t' fr, W.heap[g]? = some (.cells arr t' fr) ∧ arr.toList = AM.ints k zs := by
  have e1 := Lib.cells_of_tab ht he hce hct h
  unfold World.var? at hv
  simp only [hg, Option.bind_some] at hv
  split at hv
  · rename_i c t' fr hh
    cases hv
    exact ⟨_, _, _, hh, e1⟩
  · cases hv
def letters : List Int := [1, 3, 9, 25, 17, 11, 27, 19, 10, 26, 5, 7, 13, 29, 21, 15, 31, 23, 14, 30, 37, 39, 58, 45, 61, 53]
def digits : List Int := [26, 1, 3, 9, 25, 17, 11, 27, 19, 10]
def labels : List Int := [1, 3, 9, 25, 17, 11, 27, 19]
def pow10 : List Int := [1, 10, 100, 1000, 10000, 100000, 1000000, 10000000, 100000000, 1000000000, 10000000000, 100000000000, 1000000000000, 10000000000000, 100000000000000, 1000000000000000, 10000000000000000, 100000000000000000, 1000000000000000000, 10000000000000000000]
def bruijn32 : List Int := [0, 1, 28, 2, 29, 14, 24, 3, 30, 22, 20, 15, 25, 17, 4, 8, 31, 27, 13, 23, 21, 19, 16, 7, 26, 12, 18, 6, 11, 5, 10, 9]
def bruijn64 : List Int := [0, 1, 56, 2, 57, 49, 28, 3, 61, 58, 42, 50, 38, 29, 17, 4, 62, 47, 59, 36, 45, 43, 51, 22, 53, 39, 33, 30, 24, 18, 12, 5, 63, 55, 48, 27, 60, 41, 37, 16, 46, 35, 44, 21, 52, 32, 23, 11, 54, 26, 40, 15, 34, 20, 31, 10, 25, 14, 19, 9, 13, 8, 7, 6]
def lay (l : List Value) : Obj → Obj
  | .cells _ t frozen => .cells l.toArray t frozen
  | o => o
theorem g0 : Tryz.prog.globalNamed "math/bits.deBruijn32tab" = some 6 := by kernel_rfl
theorem g1 : Tryz.prog.globalNamed "math/bits.deBruijn64tab" = some 7 := by kernel_rfl
theorem g2 : Tryz.prog.globalNamed "internal/strconv.uint64pow10" = some 5 := by kernel_rfl
theorem g3 : Tryz.prog.globalNamed "sixdot/grid.offsets" = some 0 := by kernel_rfl
theorem g4 : Tryz.prog.globalNamed "sixdot/linear.letters" = some 3 := by kernel_rfl
theorem g5 : Tryz.prog.globalNamed "sixdot/number.digits" = some 2 := by kernel_rfl
theorem g6 : Tryz.prog.globalNamed "sixdot/number.letters" = some 1 := by kernel_rfl
theorem g7 : Tryz.prog.globalNamed "sixdot/label.digits" = some 4 := by kernel_rfl
theorem t0 : (Tryz.prog.globals[6]?).map (·.type) = some 583 := by kernel_rfl
theorem t1 : (Tryz.prog.globals[7]?).map (·.type) = some 584 := by kernel_rfl
theorem t2 : (Tryz.prog.globals[5]?).map (·.type) = some 564 := by kernel_rfl
theorem t3 : (Tryz.prog.globals[0]?).map (·.type) = some 293 := by kernel_rfl
theorem t4 : (Tryz.prog.globals[3]?).map (·.type) = some 294 := by kernel_rfl
theorem t5 : (Tryz.prog.globals[2]?).map (·.type) = some 323 := by kernel_rfl
theorem t6 : (Tryz.prog.globals[1]?).map (·.type) = some 294 := by kernel_rfl
theorem t7 : (Tryz.prog.globals[4]?).map (·.type) = some 538 := by kernel_rfl
theorem cells188 : Tryz.prog.cellsOf 188 = 1 := by kernel_rfl
theorem cells545 : Tryz.prog.cellsOf 545 = 1 := by kernel_rfl
theorem cells3 : Tryz.prog.cellsOf 3 = 1 := by kernel_rfl
theorem cells292 : Tryz.prog.cellsOf 292 = 2 := by kernel_rfl
theorem cells293 : Tryz.prog.cellsOf 293 = 12 := by kernel_rfl
theorem cells294 : Tryz.prog.cellsOf 294 = 26 := by kernel_rfl
theorem cells323 : Tryz.prog.cellsOf 323 = 10 := by kernel_rfl
theorem cells538 : Tryz.prog.cellsOf 538 = 8 := by kernel_rfl
theorem cells564 : Tryz.prog.cellsOf 564 = 20 := by kernel_rfl
theorem cells583 : Tryz.prog.cellsOf 583 = 32 := by kernel_rfl
theorem cells584 : Tryz.prog.cellsOf 584 = 64 := by kernel_rfl
/-- A pair of integers that reads as the listed pair. -/
theorem pair_at {H : Type} {enc : TypeId × Value → H} {W : World} {base : Nat} {sp : Nat → Bool} {held : Bool} {fuel : Nat} {c c' : Value} {x : DataW H × List MemPlace} {a b : Int}
    (h : DataW.trod enc Tryz.prog W base sp held fuel 292 [c, c'] = some x) (hx : x.1 = .agg [.lit (.int .i64 a), .lit (.int .i64 b)]) : c = .int .i64 a ∧ c' = .int .i64 b := by
  obtain ⟨y0, y1, n, rfl, _, h0, h1⟩ := trod_struct2 Tryz.underlying292 h
  have h0' : DataW.trod enc Tryz.prog W base sp held n 3 [c] = some y0 := by simpa [cells3] using h0
  have h1' : DataW.trod enc Tryz.prog W base sp held n 3 [c'] = some y1 := by simpa [cells3] using h1
  obtain ⟨k0, e0, rfl, _⟩ := DataW.trod_int Tryz.underlying3 h0'
  obtain ⟨k1, e1, rfl, _⟩ := DataW.trod_int Tryz.underlying3 h1'
  simp at e0 e1 hx
  exact ⟨by rw [e0, hx.1], by rw [e1, hx.2]⟩
set_option maxRecDepth 100000 in
/-- grid.offsets. -/
theorem tab_pairs {H : Type} {enc : TypeId × Value → H} {W : World} {base : Nat} {sp : Nat → Bool} {held : Bool} {fuel : Nat} {cs : Array Value} {p : List MemPlace}
    (hv : W.var? Tryz.prog "sixdot/grid.offsets" = some cs) (h : DataW.trod enc Tryz.prog W base sp held fuel 293 cs.toList = some (Rows.laid_sixdot_grid_offsets, p)) :
    ∃ arr t' fr, W.heap[0]? = some (.cells arr t' fr) ∧ arr.toList = AM.ints .i64 [0, 0, 0, 1, 0, 2, 1, 0, 1, 1, 1, 2] := by
  obtain ⟨l⟩ := cs
  have e1 : l = AM.ints .i64 [0, 0, 0, 1, 0, 2, 1, 0, 1, 1, 1, 2] := by
    obtain ⟨xs, m, rfl, hx, hl, hn, hel⟩ := DataW.trod_array Tryz.underlying293 h
    rw [cells293] at hl
    simp only [cells292] at hel
    simp only [Rows.laid_sixdot_grid_offsets, Prod.mk.injEq, DataW.agg.injEq] at hx
    match l, hl, xs, hn with
    | [c0, c1, c2, c3, c4, c5, c6, c7, c8, c9, c10, c11], _, [x0, x1, x2, x3, x4, x5], _ =>
      simp only [List.map_cons, List.map_nil, List.cons.injEq] at hx
      obtain ⟨⟨y0, y1, y2, y3, y4, y5, _⟩, _⟩ := hx
      obtain ⟨rfl, rfl⟩ := pair_at (show DataW.trod enc Tryz.prog W base sp held m 292 [c0, c1] = some x0 from hel 0 (by decide)) y0.symm
      obtain ⟨rfl, rfl⟩ := pair_at (show DataW.trod enc Tryz.prog W base sp held m 292 [c2, c3] = some x1 from hel 1 (by decide)) y1.symm
      obtain ⟨rfl, rfl⟩ := pair_at (show DataW.trod enc Tryz.prog W base sp held m 292 [c4, c5] = some x2 from hel 2 (by decide)) y2.symm
      obtain ⟨rfl, rfl⟩ := pair_at (show DataW.trod enc Tryz.prog W base sp held m 292 [c6, c7] = some x3 from hel 3 (by decide)) y3.symm
      obtain ⟨rfl, rfl⟩ := pair_at (show DataW.trod enc Tryz.prog W base sp held m 292 [c8, c9] = some x4 from hel 4 (by decide)) y4.symm
      obtain ⟨rfl, rfl⟩ := pair_at (show DataW.trod enc Tryz.prog W base sp held m 292 [c10, c11] = some x5 from hel 5 (by decide)) y5.symm
      rfl
  unfold World.var? at hv
  simp only [g3, Option.bind_some] at hv
  split at hv
  · rename_i c t' fr hh
    cases hv
    exact ⟨_, _, _, hh, e1⟩
  · cases hv
set_option maxRecDepth 100000 in
theorem tabs {W : World} (h : laidMetH Tryz.prog Rows.topSpoolsRecoverRow.laid W) : AM.TabsMet AM.gs W := by
  rw [MakeChecks.laidMetH_plain _ _ _ noHandles] at h
  obtain ⟨ps, ⟨b0, s0, cs0, f0, p0, q0, hg0, ht0, hv0, hd0, ⟨b1, s1, cs1, f1, p1, q1, hg1, ht1, hv1, hd1, ⟨b2, s2, cs2, f2, p2, q2, hg2, ht2, hv2, hd2, ⟨b3, s3, cs3, f3, p3, q3, hg3, ht3, hv3, hd3,
    ⟨b4, s4, cs4, f4, p4, q4, hg4, ht4, hv4, hd4, ⟨b5, s5, cs5, f5, p5, q5, hg5, ht5, hv5, hd5, ⟨b6, s6, cs6, f6, p6, q6, hg6, ht6, hv6, hd6, ⟨b7, s7, cs7, f7, p7, q7, hg7, ht7, hv7, hd7, _, _⟩, _⟩, _⟩, _⟩, _⟩, _⟩, _⟩, _⟩, _, _⟩ := h
  obtain rfl := Option.some.inj (g0.symm.trans hg0)
  obtain rfl := Option.some.inj (g1.symm.trans hg1)
  obtain rfl := Option.some.inj (g2.symm.trans hg2)
  obtain rfl := Option.some.inj (g3.symm.trans hg3)
  obtain rfl := Option.some.inj (g4.symm.trans hg4)
  obtain rfl := Option.some.inj (g5.symm.trans hg5)
  obtain rfl := Option.some.inj (g6.symm.trans hg6)
  obtain rfl := Option.some.inj (g7.symm.trans hg7)
  obtain rfl := Option.some.inj (t0.symm.trans ht0)
  obtain rfl := Option.some.inj (t1.symm.trans ht1)
  obtain rfl := Option.some.inj (t2.symm.trans ht2)
  obtain rfl := Option.some.inj (t3.symm.trans ht3)
  obtain rfl := Option.some.inj (t4.symm.trans ht4)
  obtain rfl := Option.some.inj (t5.symm.trans ht5)
  obtain rfl := Option.some.inj (t6.symm.trans ht6)
  obtain rfl := Option.some.inj (t7.symm.trans ht7)
  have m0 := tab_one (zs := [0, 1, 28, 2, 29, 14, 24, 3, 30, 22, 20, 15, 25, 17, 4, 8, 31, 27, 13, 23, 21, 19, 16, 7, 26, 12, 18, 6, 11, 5, 10, 9]) g0 Tryz.underlying583 Tryz.underlying5 cells5 cells583 hv0 hd0
  have m1 := tab_one (zs := [0, 1, 56, 2, 57, 49, 28, 3, 61, 58, 42, 50, 38, 29, 17, 4, 62, 47, 59, 36, 45, 43, 51, 22, 53, 39, 33, 30, 24, 18, 12, 5, 63, 55, 48, 27, 60, 41, 37, 16, 46, 35, 44, 21, 52, 32, 23, 11, 54, 26, 40, 15, 34, 20, 31, 10, 25, 14, 19, 9, 13, 8, 7, 6]) g1 Tryz.underlying584 Tryz.underlying5 cells5 cells584 hv1 hd1
  have m2 := tab_one (zs := [1, 10, 100, 1000, 10000, 100000, 1000000, 10000000, 100000000, 1000000000, 10000000000, 100000000000, 1000000000000, 10000000000000, 100000000000000, 1000000000000000, 10000000000000000, 100000000000000000, 1000000000000000000, 10000000000000000000]) g2 Tryz.underlying564 Tryz.underlying545 cells545 cells564 hv2 hd2
  have m3 := tab_pairs hv3 hd3
  have m4 := tab_one (zs := [1, 3, 9, 25, 17, 11, 27, 19, 10, 26, 5, 7, 13, 29, 21, 15, 31, 23, 14, 30, 37, 39, 58, 45, 61, 53]) g4 Tryz.underlying294 Tryz.underlying188 cells188 cells294 hv4 hd4
  have m5 := tab_one (zs := [26, 1, 3, 9, 25, 17, 11, 27, 19, 10]) g5 Tryz.underlying323 Tryz.underlying188 cells188 cells323 hv5 hd5
  have m6 := tab_one (zs := [1, 3, 9, 25, 17, 11, 27, 19, 10, 26, 5, 7, 13, 29, 21, 15, 31, 23, 14, 30, 37, 39, 58, 45, 61, 53]) g6 Tryz.underlying294 Tryz.underlying188 cells188 cells294 hv6 hd6
  have m7 := tab_one (zs := [1, 3, 9, 25, 17, 11, 27, 19]) g7 Tryz.underlying538 Tryz.underlying188 cells188 cells538 hv7 hd7
  intro x hx
  simp only [AM.gs, List.mem_cons, List.not_mem_nil, or_false] at hx
  rcases hx with rfl | rfl | rfl | rfl | rfl | rfl | rfl | rfl
  · exact m3
  · exact m6
  · exact m5
  · exact m4
  · exact m7
  · exact m2
  · exact m0
  · exact m1
theorem tabs_below {W W' : World} (h : AM.TabsMet AM.gs W) (hb : Below W.heap.size W W') : AM.TabsMet AM.gs W' := fun x hx => by
  obtain ⟨arr, t, fr, h1, h2⟩ := h x hx
  exact ⟨arr, t, fr, blk_next h1 hb, h2⟩
theorem wf_u8 {n : Int} (h : (Lit.int .u8 n).wf = true) : 0 ≤ n ∧ n ≤ 255 := by
  have h' : (decide (IntKind.u8.min ≤ n) && decide (n ≤ IntKind.u8.max)) = true := h
  have e1 : IntKind.u8.min = 0 := by decide
  have e2 : IntKind.u8.max = 255 := by decide
  rw [e1, e2] at h'
  simpa using h'
theorem wf_u16 {n : Int} (h : (Lit.int .u16 n).wf = true) : 0 ≤ n ∧ n ≤ 65535 := by
  have h' : (decide (IntKind.u16.min ≤ n) && decide (n ≤ IntKind.u16.max)) = true := h
  have e1 : IntKind.u16.min = 0 := by decide
  have e2 : IntKind.u16.max = 65535 := by decide
  rw [e1, e2] at h'
  simpa using h'
theorem addr_add (b o i : Nat) : Addr.add ⟨b, o, none⟩ i = ⟨b, o + i, none⟩ := by
  unfold Addr.add
  split
  · rename_i h; subst h; rfl
  · rfl
theorem spot_none {W : World} {a : Addr} {v : Value} (h : W.cell? a = some v) : a.spot = none := by
  obtain ⟨b, o, s⟩ := a
  cases s with
  | none => rfl
  | some x =>
    simp [World.cell?] at h
    split at h <;> simp_all
theorem cell_lt {W : World} {a : Addr} {v : Value} (h : W.cell? a = some v) : a.block < W.heap.size := by
  unfold World.cell? at h
  split at h
  · rename_i hh; exact (Array.getElem?_eq_some_iff.1 hh).1
  · cases h
/-- What the walk wants to know of a list of bytes. -/
theorem list_form {H : Type} {enc : TypeId × Value → H} {W : World} {n : Nat} {c : Value} {y : DataW H × List MemPlace} (h : DataW.trod enc Tryz.prog W 0 (fun _ => true) true n 22 [c] = some y) :
    ∃ (q : Option Addr) (fl fc fb fo : Nat) (f : Nat → Int), c = .slice q fl fc ∧ fl ≤ 9223372036854775807 ∧ (0 < fl → q = some ⟨fb, fo, none⟩) ∧ (0 < fl → fb < W.heap.size) ∧
      (∀ k, k < fl → W.cell? ⟨fb, fo + k, none⟩ = some (.int .u8 (f k))) ∧ (∀ k, k < fl → 0 ≤ f k ∧ f k ≤ 255) := by
  rcases open_ints Tryz.underlying22 Tryz.underlying5 cells5 h with ⟨hcs, _⟩ | ⟨a, len, cap, zs, hcs, _, hl, hm, hz, _, hcell, hwz⟩
  · simp at hcs
    exact ⟨none, 0, 0, 0, 0, fun _ => 0, hcs, by omega, fun h => by omega, fun h => by omega, fun k hk => by omega, fun k hk => by omega⟩
  · simp at hcs
    simp at hz
    refine ⟨some a, len, cap, a.block, a.off, fun k => zs.getD k 0, hcs, ?_, fun h => ?_, fun h => ?_, fun k hk => ?_, fun k hk => ?_⟩
    · simp [maxLen] at hm; omega
    · have := spot_none (hcell 0 (by omega))
      simp [Addr.add] at this
      rw [← this]
    · have := cell_lt (hcell 0 (by omega))
      simpa [Addr.add] using this
    · have hs := spot_none (hcell 0 (by omega))
      have := hcell k (by omega)
      simp [Addr.add] at hs
      obtain ⟨b, o, s⟩ := a
      simp only at hs
      subst hs
      rwa [addr_add] at this
    · have hk' : k < zs.length := by omega
      have := hwz (zs.getD k 0) (by rw [List.getD_eq_getElem?_getD, List.getElem?_eq_getElem hk']; simp)
      exact wf_u8 this
set_option maxRecDepth 100000 in
theorem contract (H : Type) (enc : TypeId × Value → H) (W : World) (base : Nat) (args : Array Value) (ds gs : List (DataW H)) (before : List MemPlace)
    (hval : ∀ (j : Nat) t v, Tryz.f3.params[j]? = some t → args[j]? = some v → Value.okWide Tryz.prog W .any base t v)
    (hW : DataW.Whole enc Tryz.prog Tryz.f3.params.toList Rows.topSpoolsRecoverSpec.vars false W args.toList ds gs before) (hL : laidMetH Tryz.prog Rows.topSpoolsRecoverRow.laid W) :
    Calls Tryz.prog 3 args W fun e W' => ∃ v, e = .returned v ∧ Rows.topSpoolsRecoverSpec.post enc Tryz.prog Tryz.f3 false true false false W args v W' := by
  have hW' := hW
  obtain ⟨p, q, hA0, hV, rfl, hfz, hnd⟩ := hW
  have hA : DataW.TrodAll enc Tryz.prog W 0 (fun _ => true) true Tryz.f3.params.toList args.toList ds p := hA0
  rw [Tryz.params3] at hA hval
  obtain ⟨v0, v1, d0, d1, p0, p1, rfl, rfl, rfl, h0, h1⟩ := trodAll_two hA
  obtain ⟨rfl, rfl⟩ := trodVars_none hV
  obtain ⟨cut, rfl, rfl, rfl, hc⟩ := open_int Tryz.underlying25 (hval 1 25 v1 rfl rfl) h1
  obtain ⟨c0, c1, c2, y0, y1, y2, n, rfl, _, _, k0, k1, k2⟩ := Joins.open_agg3 Tryz.underlying24 (by kernel_rfl) cells24 (hval 0 24 v0 rfl rfl) h0
  clear hA0 hA
  obtain ⟨nv, e0, _, hn⟩ := DataW.trod_int Tryz.underlying5 k0
  obtain rfl : c0 = .int .u8 nv := by simpa using e0
  obtain ⟨q, fl, fc, fb, fo, f, rfl, hfl, hq, hfb, hf, hf2⟩ := list_form k1
  obtain ⟨ql, ll, lc, _, _, _, rfl, _⟩ := list_form k2
  have hT := tabs hL
  have hlt : ∀ x ∈ p0, x.block < W.heap.size := fun x hx => hW'.lt x (by simp [hx])
  refine (top_walk W nv cut q ql fl fc fb fo ll lc f ?_ ?_ hfl hq hfb hf hf2 (fun W' hb => callsIn_wide.1 (AM.sanity34_true (tabs_below hT hb)))).mono fun e W' ⟨he, hb⟩ => ?_
  · exact wf_u8 hn
  · exact wf_u16 hc
  · subst he
    exact ⟨_, rfl, ⟨_, _, _, _, _, _, hW', trodAll_mk1 (shut_bool Tryz.underlying4 true), trodAll_mk2 (Below.trod laidOut (by kernel_rfl) (of_decide_eq_true (by kernel_rfl)) h0 hb hlt) (shut_int Tryz.underlying25 hc), rfl, hb.frame _, fun h => by cases h⟩⟩
def layAll : List Obj → List (List Value) → List Obj
  | o :: r, l :: ls => lay l o :: layAll r ls
  | r, [] => r
  | [], _ => []
/-- A world for the witness: the settled one, the tables holding what their initialisers lay. -/
noncomputable def laidWorld (os : Os) : World :=
  { World.holding Tryz.prog os ⟨#[], #[], []⟩ with heap := (layAll (World.holding Tryz.prog os ⟨#[], #[], []⟩).heap.toList (AM.gs.map (·.vs))).toArray }
theorem laid_met (os : Os) : laidMet Tryz.prog Rows.topSpoolsRecoverRow.laid ((laidWorld os).forCall (fun _ _ => 0) ⟨#[], #[.agg #[.int .u8 0, .slice none 0 0, .slice none 0 0], .int .u16 0], []⟩).memory :=
  laidMet_of_run' 8 (by kernel_rfl) (by kernel_rfl)
theorem reads (os : Os) {H : Type} (enc : TypeId × Value → H) : ∃ places, DataW.whole enc Tryz.prog ((laidWorld os).forCall (fun _ _ => 0) ⟨#[], #[.agg #[.int .u8 0, .slice none 0 0, .slice none 0 0], .int .u16 0], []⟩).memory Tryz.f3.params.toList Rows.topSpoolsRecoverSpec.vars false #[.agg #[.int .u8 0, .slice none 0 0, .slice none 0 0], .int .u16 0].toList 8 = some ([.agg [.lit (.int .u8 0), .nil, .nil], .lit (.int .u16 0)], [], places) :=
  ⟨[], by kernel_rfl⟩
set_option maxRecDepth 100000 in
theorem lifted (os : Os) (started : os.Started) (H : Type) (enc : TypeId × Value → H) (F : Stop.Interp) :
    ReturnsInHanded {} Tryz.checked os 3 .any ((OpenSpec.ofChange Rows.topSpoolsRecoverSpec).preRow enc Tryz.prog Tryz.f3 Rows.topSpoolsRecoverRow.domain false Rows.topSpoolsRecoverRow.laid) (((OpenSpec.ofChange Rows.topSpoolsRecoverSpec).at F).post enc Tryz.prog Tryz.f3 false true false false) := by
  obtain ⟨places, hx⟩ := reads os enc
  refine returnsInHanded_of_row (C := Tryz.checked) (s := OpenSpec.ofChange Rows.topSpoolsRecoverSpec) own started (by kernel_rfl) Tryz.func3
    (witness_row_at (enc := enc) (C := Tryz.checked) false (laidWorld os) #[.agg #[.int .u8 0, .slice none 0 0, .slice none 0 0], .int .u16 0] rfl (by kernel_rfl) (by kernel_rfl) (by kernel_rfl)
      (OpenSpec.preRow_of_cond 8 hx (by kernel_rfl) (fun k hk => by cases hk) (by kernel_rfl) (laid_met os))) ?_
  intro W base args ds gs before hval hW _ _ _ hL _ _
  exact contract H enc W base args ds gs before hval hW hL
theorem said : Rows.TopSpoolsRecoverSaid :=
  OpenClaim.holds_of_cond 3 Tryz.f3 rfl rfl rfl rfl rfl rfl rfl ⟨rfl, rfl, rfl, rfl, rfl⟩ rfl rfl rfl rfl rfl funcAt Tryz.func3 closed inst wrapper
    (fun os started H enc _ F => by rw [OpenClaim.pre_eq_preRow]; exact lifted os started H enc F)
end TopRow
/-- The tied card: TopSpoolsRecover returns true at every input and leaves its arguments as they were. -/
theorem topSpoolsRecover_card : Rows.TopSpoolsRecoverCardSaid :=
  Claim7.holds_tied_plain_at .later [] _ _ _ _ TopRow.said (fun _ h => by cases h) TopRow.byText (fun _ h => by cases h) topSpoolsRecover_row_tie rfl ⟨rfl, rfl⟩ TopRow.mainAt rfl TopRow.plain TopRow.goes
end Go.Proofs.YtndjhcmgngnfbaaGreatDoor
