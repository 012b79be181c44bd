/- The walk of TopSpoolsRecover. -/
import Derived.Test.YtndjhcmgngnfbaaGreatDoorEnB
import Derived.Test.YtndjhcmgngnfbaaGreatDoorNew
import Derived.Test.YtndjhcmgngnfbaaGreatDoorPth
import Derived.Test.YtndjhcmgngnfbaaGreatDoorRea
import Derived.Test.YtndjhcmgngnfbaaGreatDoorMat
import Derived.Test.YtndjhcmgngnfbaaGreatDoorNxt
import Derived.Test.YtndjhcmgngnfbaaGreatDoorSta
import Derived.Deep.RegionHeld3
import Derived.Deep.CutRange
set_option linter.unusedSimpArgs false
set_option linter.unusedVariables false
set_option linter.all false
namespace Go.Proofs.YtndjhcmgngnfbaaGreatDoor
open Go Go.RowKit Go.Deep
structure MGot (w : World) (v : Value) (p : Nat) (fl : Nat) (f : Nat → Int) (W : World) : Prop where
  struct : W.heap[p]? = some (.cells #[v, .int .i64 0] 30 (0, 0))
  row : W.ownsRow w.heap.size 3 1 v (min fl 6) ((mList f (min fl 6)).map (Value.int .i64))
  below : Below w.heap.size w W
  gt : w.heap.size ≤ p
theorem ownsRow_base {w : World} {b b' : Nat} {e : TypeId} {size : Nat} {v : Value} {n : Nat} {xs : List Value} (h : w.ownsRow b e size v n xs) (hb : b' ≤ b) : w.ownsRow b' e size v n xs := by
  refine ⟨h.1, ?_⟩
  rcases h.2 with h2 | ⟨g, cap, cur, h1, h2, h3⟩
  · exact .inl h2
  · exact .inr ⟨g, cap, cur, h1, Nat.le_trans hb h2, h3⟩
theorem mgot_new {w W : World} {fl : Nat} {f : Nat → Int} {pm : Option Addr} {cm : Nat} (hrow : W.ownsRow w.heap.size 3 1 (.slice pm (min fl 6) cm) (min fl 6) ((mList f (min fl 6)).map (Value.int .i64))) (hb : Below w.heap.size w W) :
    MGot w (.slice pm (min fl 6) cm) W.heap.size fl f (W.alloc (.cells #[.slice pm (min fl 6) cm, .int .i64 0] 30)) :=
  ⟨blk_alloc_new _ _, hrow.alloc _, hb.alloc hb.size _, hb.size⟩
theorem mgot_set {w W : World} {p fl : Nat} {f : Nat → Int} {pm : Option Addr} {cm : Nat} (hp : W.heap[p]? = some (.cells #[.slice none 0 0, .int .i64 0] 30 (0, 0))) (hge : w.heap.size ≤ p) (hrow : W.ownsRow w.heap.size 3 1 (.slice pm (min fl 6) cm) (min fl 6) ((mList f (min fl 6)).map (Value.int .i64))) (hb : Below w.heap.size w W) :
    MGot w (.slice pm (min fl 6) cm) p fl f ((W.setCell ⟨p, 0, none⟩ (.slice pm (min fl 6) cm)).setCell ⟨p, 1, none⟩ (.int .i64 0)) := by
  have hn : some p ≠ (Value.slice pm (min fl 6) cm).ownBlock := by
    intro e
    rcases hrow.2 with ⟨h1, _⟩ | ⟨g, cap, cur, h1, _, hgb, _⟩
    · rw [h1] at e; simp [Value.ownBlock] at e
    · rw [h1] at e
      obtain rfl : p = g := by simpa [Value.ownBlock] using e
      have := hp.symm.trans hgb
      simp at this
  exact ⟨struct_set (c := #[.slice pm (min fl 6) cm, .int .i64 0]) (struct_set (c := #[.slice none 0 0, .int .i64 0]) hp _) _, (hrow.kept (grownBy_setCell_any _ _ _ _) (.inr hn.symm)).kept (grownBy_setCell_any _ _ _ _) (.inr hn.symm), (hb.setCell (p := ⟨p, 0, none⟩) hge _).setCell (p := ⟨p, 1, none⟩) hge _, hge⟩
/-- The first loop's relation. -/
def Loop1 (w wr : World) (p7 p9 n ml mc : Nat) (q : Option Addr) (f : Nat → Int) (b i : Value) : Prop :=
  ∃ (k g len e1 e2 e3 : Nat) (s : Sp) (l : List Rc), i = .int .i64 k ∧ b = .slice (some ⟨g, 0, none⟩) len len ∧ len = 11 * l.length ∧ wr.ownsRow w.heap.size 5 1 (.slice (some ⟨g, 0, none⟩) len len) len ((encAll 0 l).map (Value.int .u8)) ∧
    St w wr p7 p9 n ml mc q f s e1 e2 e3 ∧ Phase1 ml (mOf f) n k s l
set_option maxRecDepth 10000 in
set_option maxHeartbeats 8000000 in
theorem top_walk (w : World) (nv cut : Int) (q ql : Option Addr) (fl fc fb fo ll lc : Nat) (f : Nat → Int) (hnv : 0 ≤ nv ∧ nv ≤ 255) (hcut : 0 ≤ cut ∧ cut ≤ 65535) (hfl : fl ≤ 9223372036854775807) (hq : 0 < fl → q = some ⟨fb, fo, none⟩) (hfb : 0 < fl → fb < w.heap.size)
    (hf : ∀ k, k < fl → w.cell? ⟨fb, fo + k, none⟩ = some (.int .u8 (f k))) (hf2 : ∀ k, k < fl → 0 ≤ f k ∧ f k ≤ 255)
    (hsan : ∀ W, Below w.heap.size w W → Calls Tryz.prog 4 #[] W fun e w' => e = .returned (.bool true) ∧ Below W.heap.size W w') :
    Calls Tryz.prog 3 #[.agg #[.int .u8 nv, .slice q fl fc, .slice ql ll lc], .int .u16 cut] w fun e w' => e = .returned (.bool true) ∧ Below w.heap.size w w' := by
  have HS : Hid (∀ W, Below w.heap.size w W → Calls Tryz.prog 4 #[] W fun e w' => e = .returned (.bool true) ∧ Below W.heap.size W w') := hsan
  have HF : Hid ((0 < fl → q = some ⟨fb, fo, none⟩) ∧ (0 < fl → fb < w.heap.size) ∧ (∀ k, k < fl → w.cell? ⟨fb, fo + k, none⟩ = some (.int .u8 (f k))) ∧ (∀ k, k < fl → 0 ≤ f k ∧ f k ≤ 255)) := ⟨hq, hfb, hf, hf2⟩
  clear hsan hq hfb hf hf2
  go_enter Tryz.func3, Tryz.ntmps3
  go_upto_region 2 with (go_at_call 4; refine (HS.out _ ((Below.refl _ w).alloc (Nat.le_refl _) _)).mono ?_; rintro e w1 ⟨rfl, hb1⟩)
  have hbw : Below w.heap.size w w1 := ((Below.refl _ w).alloc (Nat.le_refl _) _).trans (hb1.mono (by simp))
  have hbx : w1.heap[w.heap.size]? = some (.cells #[.int .u8 nv, .slice q fl fc, .slice ql ll lc] 24 (0, 0)) := (hb1.block _ (by simp)).trans (blk_alloc_new _ _)
  clear hb1
  go_cut [6, 7] from 25 to 28 (fun s6 s7 wx => s6 = .int .i64 (nv % 6) ∧ ∃ vm p, s7 = .pointer (some ⟨p, 0, none⟩) ∧ MGot w vm p fl f wx)
  case first =>
    have HJ : Hid (∀ W, Below w.heap.size w W → W.heap[w.heap.size]? = some (.cells #[.int .u8 nv, .slice q fl fc, .slice ql ll lc] 24 (0, 0)) → Calls Tryz.prog 5 #[.agg #[.int .u8 nv, .slice q fl fc, .slice ql ll lc]] W fun e w' => e = .returned (.int .i64 (nv % 6)) ∧ Below W.heap.size W w' ∧ Below w.heap.size w w' ∧ w'.heap[w.heap.size]? = some (.cells #[.int .u8 nv, .slice q fl fc, .slice ql ll lc] 24 (0, 0))) := fun W hW hx => by
      refine (jobs_walk W nv _ _ rfl rfl hnv.1 hnv.2).mono ?_
      rintro e w' ⟨rfl, hb⟩
      exact ⟨rfl, hb, hW.trans (hb.mono hW.size), (hb.block _ (Array.getElem?_eq_some_iff.1 hx).1).trans hx⟩
    have HM : Hid (∀ W, Below w.heap.size w W → W.heap[w.heap.size]? = some (.cells #[.int .u8 nv, .slice q fl fc, .slice ql ll lc] 24 (0, 0)) → Calls Tryz.prog 6 #[.agg #[.int .u8 nv, .slice q fl fc, .slice ql ll lc]] W fun e w' => ∃ pm cm, e = .returned (.agg #[.slice pm (min fl 6) cm, .int .i64 0]) ∧ w'.ownsRow w.heap.size 3 1 (.slice pm (min fl 6) cm) (min fl 6) ((mList f (min fl 6)).map (Value.int .i64)) ∧ Below W.heap.size W w' ∧ Below w.heap.size w w' ∧ w'.heap[w.heap.size]? = some (.cells #[.int .u8 nv, .slice q fl fc, .slice ql ll lc] 24 (0, 0))) := fun W hW hx => by
      refine (matching_walk W nv q fl fc fb fo ll lc ql f hfl HF.out.1 (fun h => Nat.lt_of_lt_of_le (HF.out.2.1 h) hW.size) (fun k hk => (hW.cell (p := ⟨fb, fo + k, none⟩) (HF.out.2.1 (by omega))).trans (HF.out.2.2.1 k hk)) HF.out.2.2.2).mono ?_
      rintro e w' ⟨v, rfl, hr, hb⟩
      obtain ⟨pm, cm, rfl⟩ := ownsRow_form hr
      exact ⟨pm, cm, rfl, ownsRow_base hr hW.size, hb, hW.trans (hb.mono hW.size), (hb.block _ (Array.getElem?_eq_some_iff.1 hx).1).trans hx⟩
    have hlx := (Array.getElem?_eq_some_iff.1 hbx).1
    have x0 : w1.cell? ⟨w.heap.size, 0, none⟩ = some (.int .u8 nv) := struct_cell hbx rfl
    have x1 : w1.cell? ⟨w.heap.size, 1, none⟩ = some (.slice q fl fc) := struct_cell hbx rfl
    have x2 : w1.cell? ⟨w.heap.size, 2, none⟩ = some (.slice ql ll lc) := struct_cell hbx rfl
    have x0' := fun o => alloc_cell x0 o
    have x1' := fun o => alloc_cell x1 o
    have x2' := fun o => alloc_cell x2 o
    go_region_with (first
      | (go_at_call 5; refine (HJ.out _ ?_ ?_).mono ?_; (first | exact hbw.drew | exact (hbw.alloc hbw.size _).drew); (first | exact hbx | exact (blk_alloc_lt _ _ _ hlx).trans hbx); rintro e w5 ⟨rfl, hj, hj1, hj2⟩; have hjx := (Array.getElem?_eq_some_iff.1 hj2).1; have y0 := struct_cell (i := 0) hj2 rfl; have y1 := struct_cell (i := 1) hj2 rfl; have y2 := struct_cell (i := 2) hj2 rfl; have y0' := fun o => alloc_cell y0 o; have y1' := fun o => alloc_cell y1 o; have y2' := fun o => alloc_cell y2 o; have hs5 := fun (a : Addr) h => hj.cell (p := a) h; have hf5 := fun (a : Addr) h => hj.frozen (p := a) h; try (have hz5 : w1.heap.size < w5.heap.size := Nat.lt_of_lt_of_le (by simp) (show (w1.alloc _).heap.size ≤ _ from hj.size)))
      | (go_at_call 6; refine (HM.out _ ?_ ?_).mono ?_; (first | exact hj1 | exact (hj1.alloc hj1.size _)); (first | exact hj2 | exact (blk_alloc_lt _ _ _ hjx).trans hj2); rintro e w6 ⟨pm, cm, rfl, hrow, hm, hm1, hm2⟩; have hs6 := fun (a : Addr) h => hm.cell (p := a) h; have hf6 := fun (a : Addr) h => hm.frozen (p := a) h))
    all_goals
      (go_wp2_with fail
       go_meet
       first
         | exact ⟨rfl, _, _, rfl, mgot_new hrow hm1⟩
         | exact ⟨rfl, _, _, rfl, mgot_set ((hm.block _ (by simp)).trans (blk_alloc_new w5 _)) hj1.size hrow hm1⟩
         | exact ⟨rfl, _, _, rfl, mgot_set ((hm.block _ hz5).trans ((hj.block _ (by show w1.heap.size < (w1.alloc _).heap.size; simp)).trans (blk_alloc_new w1 _))) hbw.size hrow hm1⟩)
  case rest =>
  obtain ⟨rfl, vm, p, rfl, hM⟩ := hcut
  obtain ⟨n, hnn, hn5⟩ : ∃ n : Nat, nv % 6 = n ∧ n ≤ 5 := ⟨(nv % 6).toNat, by omega, by omega⟩
  rw [hnn]
  clear hnn hnv hbx hbw
  obtain ⟨mq, mc, rfl⟩ := ownsRow_form hM.row
  have hmr : ∀ k, k < min fl 6 → -1 ≤ mOf f k ∧ mOf f k ≤ 4 := fun k hk => by have := HF.out.2.2.2 k (by omega); unfold mOf; omega
  have hml : min fl 6 ≤ 1000 := by omega
  have HM : Hid (MGot w (.slice mq (min fl 6) mc) p fl f wc) := hM
  have hMl := hM.below.size
  have hMp := hM.gt
  clear hM
  have HX : Hid ((∀ k, k < min fl 6 → -1 ≤ mOf f k ∧ mOf f k ≤ 4) ∧ min fl 6 ≤ 1000) := ⟨hmr, hml⟩
  clear hmr hml
  have HN : Hid (∀ W, Calls Tryz.prog 7 #[.int .i64 n] W fun e w' => ∃ d1 d2 d3, e = .returned (spV n d1 d2 d3 fresh) ∧ SpIn w' n d1 d2 d3 fresh ∧ W.heap.size ≤ d1 ∧ W.heap.size ≤ d2 ∧ W.heap.size ≤ d3 ∧ Below W.heap.size W w') := fun W => new_walk W n (by omega)
  unfold spV at HN
  go_wp2_with (go_at_call 7; refine (HN.out _).mono ?_; rintro e w3 ⟨d1, d2, d3, rfl, hS, hd1, hd2, hd3, hB3⟩)
  have ST : St w (w3.alloc (Obj.cells #[.slice (some ⟨d1, 0, none⟩) n n, .slice (some ⟨d2, 0, none⟩) n n, .slice (some ⟨d3, 0, none⟩) n n, .int .i64 fresh.now, .bool fresh.sealed] 34)) p w3.heap.size n (min fl 6) mc mq f fresh d1 d2 d3 := by
    have hb : Below wc.heap.size wc w3 := ((Below.refl _ wc).alloc (Nat.le_refl _) _).trans (hB3.mono (by simp))
    have hb' := hb.alloc hb.size (Obj.cells #[.slice (some ⟨d1, 0, none⟩) n n, .slice (some ⟨d2, 0, none⟩) n n, .slice (some ⟨d3, 0, none⟩) n n, .int .i64 fresh.now, .bool fresh.sealed] 34)
    exact ⟨blk_alloc_new _ _, hS.alloc _, blk_next HM.out.struct hb', own_next HM.out.row hb', HM.out.below.trans (hb'.mono hMl), by have := hb.size; omega⟩
  have JR : (w3.alloc (Obj.cells #[.slice (some ⟨d1, 0, none⟩) n n, .slice (some ⟨d2, 0, none⟩) n n, .slice (some ⟨d3, 0, none⟩) n n, .int .i64 fresh.now, .bool fresh.sealed] 34)).ownsRow w.heap.size 5 1 (.slice (some ⟨wc.heap.size, 0, none⟩) 0 0) 0 ((encAll 0 []).map (Value.int .u8)) := by
    refine ⟨rfl, .inr ⟨wc.heap.size, 0, #[], rfl, hMl, ?_, Nat.le_refl _, by simp [maxLen], rfl, rfl⟩⟩
    have h1 := hB3.size
    simp at h1
    exact (blk_alloc_lt _ _ _ (by omega)).trans ((hB3.block _ (by simp)).trans (blk_alloc_new _ _))
  clear hS hd1 hd2 hd3 hB3
  generalize hW0 : (w3.alloc (Obj.cells #[.slice (some ⟨d1, 0, none⟩) n n, .slice (some ⟨d2, 0, none⟩) n n, .slice (some ⟨d3, 0, none⟩) n n, .int .i64 fresh.now, .bool fresh.sealed] 34)) = W0 at *
  generalize w3.heap.size = p9 at *
  generalize wc.heap.size = g0 at *
  clear hW0
  go_loopw [8, 10] (fun b i wr => Loop1 w wr p p9 n (min fl 6) mc mq f b i) (fun _ i _ => 20 - (intOf i).toNat)
  case atStart => exact ⟨0, g0, 0, d1, d2, d3, fresh, [], rfl, rfl, rfl, JR, ST, phase1_start⟩
  case round =>
    clear ST JR HN
    obtain ⟨k, g, len, e1, e2, e3, s, l, rfl, rfl, hlen, hj, hst, hph⟩ := hrel
    have hl := phase1_length hn5 hph
    cases hs : s.sealed with
    | false =>
      obtain ⟨hk, hcase⟩ := phase1_next hn5 HX.out.2 HX.out.1 hph hs
      have HP : Hid (Phase1 (min fl 6) (mOf f) n k s l) := hph
      clear hph
      obtain ⟨⟨c0, c1, c2, c3, c4⟩, ⟨m0, m1⟩, ⟨z0, z1, z2, z3, z4⟩⟩ := hst.reads hs
      have HST : Hid (St w wr p p9 n (min fl 6) mc mq f s e1 e2 e3 ∧ wr.ownsRow w.heap.size 5 1 (.slice (some ⟨g, 0, none⟩) len len) len ((encAll 0 l).map (Value.int .u8)) ∧ len = 11 * l.length ∧ s.sealed = false ∧ l.length ≤ 11 ∧ n ≤ 5) := ⟨hst, hj, hlen, hs, hl, hn5⟩
      clear hst hj hlen hs
      rcases hcase with ⟨r, s', hr1, hsay, hgo, htab, hph'⟩ | hcase
      · have HG : Hid (NextSays n (min fl 6) (mOf f) s r ∧ Goes n s r s' ∧ InTab l.length r ∧ Phase1 (min fl 6) (mOf f) n (k + 1) s' (l ++ [r])) := ⟨hsay, hgo, htab, hph'⟩
        clear hsay hgo htab hph'
        go_upto_region 11 with (first
          | (go_at_call 8; refine (HST.out.1.rests HST.out.2.2.2.1).mono ?_; rintro e w4 ⟨rfl, hb4⟩; have H4 : Hid (St w w4 p p9 n (min fl 6) mc mq f s e1 e2 e3 ∧ w4.ownsRow w.heap.size 5 1 (.slice (some ⟨g, 0, none⟩) len len) len ((encAll 0 l).map (Value.int .u8))) := ⟨HST.out.1.next hb4, own_next HST.out.2.1 hb4⟩; clear hb4; obtain ⟨⟨c40, c41, c42, c43, c44⟩, ⟨m40, m41⟩, _⟩ := H4.out.1.reads HST.out.2.2.2.1)
          | (go_at_call 9; refine (H4.out.1.nexts HG.out.1 HST.out.2.2.2.1).mono ?_; rintro e w5 ⟨rfl, hb5⟩; have H5 : Hid (St w (w5.alloc (rcO r)) p p9 n (min fl 6) mc mq f s e1 e2 e3 ∧ (w5.alloc (rcO r)).ownsRow w.heap.size 5 1 (.slice (some ⟨g, 0, none⟩) len len) len ((encAll 0 l).map (Value.int .u8))) := ⟨(H4.out.1.next hb5).alloc _, (own_next H4.out.2 hb5).alloc _⟩; clear hb5; obtain ⟨⟨c50, c51, c52, c53, c54⟩, ⟨m50, m51⟩, _⟩ := H5.out.1.reads HST.out.2.2.2.1)
          | (go_at_call 10; refine (H5.out.1.steps HG.out.2.1 HST.out.2.2.2.2.2 HST.out.2.2.2.1).mono ?_; rintro e w6 ⟨f1, f2, f3, rfl, hS6, hb6⟩; have hr6 := blk_next (blk_alloc_new w5 (rcO r)) hb6; have H6 : Hid (St w w6 p p9 n (min fl 6) mc mq f s e1 e2 e3 ∧ w6.ownsRow w.heap.size 5 1 (.slice (some ⟨g, 0, none⟩) len len) len ((encAll 0 l).map (Value.int .u8)) ∧ w6.heap[w5.heap.size]? = some (rcO r) ∧ SpIn w6 n f1 f2 f3 s') := ⟨H5.out.1.next hb6, own_next H5.out.2 hb6, hr6, hS6⟩; clear hb6 hr6 hS6))
        have HV : Hid (St w (w6.alloc (spO n f1 f2 f3 s')) p p9 n (min fl 6) mc mq f s e1 e2 e3 ∧ (w6.alloc (spO n f1 f2 f3 s')).ownsRow w.heap.size 5 1 (.slice (some ⟨g, 0, none⟩) len len) len ((encAll 0 l).map (Value.int .u8)) ∧ (w6.alloc (spO n f1 f2 f3 s')).heap[w5.heap.size]? = some (rcO r) ∧ SpIn (w6.alloc (spO n f1 f2 f3 s')) n f1 f2 f3 s' ∧ (w6.alloc (spO n f1 f2 f3 s')).heap[w6.heap.size]? = some (spO n f1 f2 f3 s')) :=
          ⟨H6.out.1.alloc _, H6.out.2.1.alloc _, blk_next H6.out.2.2.1 ((Below.refl _ w6).alloc (Nat.le_refl _) _), H6.out.2.2.2.alloc _, blk_alloc_new _ _⟩
        change Code.wp _ _ _ _ (w6.alloc (spO n f1 f2 f3 s'))
        generalize w6.alloc (spO n f1 f2 f3 s') = V at *
        generalize w5.heap.size = pr at *
        generalize w6.heap.size = p12 at *
        clear H6 H5 H4
        obtain ⟨r0, r1, r2⟩ := rc_cells HV.out.2.2.1
        obtain ⟨t0, t1, t2, t3, t4⟩ := sp_cells HV.out.2.2.2.2
        have HPT := hid (put_at w V.drew g len l r HV.out.1.below.size HST.out.2.2.1 (by omega) HG.out.2.2.1 HV.out.2.1)
        go_cut [8] from 55 to 58 (fun s8 wx => ∃ g', s8 = .slice (some ⟨g', 0, none⟩) (len + 11) (len + 11) ∧ wx.ownsRow w.heap.size 5 1 (.slice (some ⟨g', 0, none⟩) (len + 11) (len + 11)) (len + 11) ((encAll 0 (l ++ [r])).map (Value.int .u8)) ∧ St w wx p p9 n (min fl 6) mc mq f s' f1 f2 f3 ∧ wx.heap[pr]? = some (rcO r))
        case first =>
          go_region_with (go_at_call 11; refine HPT.out.mono ?_; rintro e w7 ⟨g', rfl, hj7, hb7⟩; have H7 := HV.out.1.drew.next hb7; have R7 := blk_next (W := V.drew) HV.out.2.2.1 hb7; have S7 := SpIn.next (W := V.drew) HV.out.2.2.2.1.drew hb7; have T7 := blk_next (W := V.drew) HV.out.2.2.2.2 hb7; obtain ⟨⟨c70, c71, c72, c73, c74⟩, _, z70, z71, z72, z73, z74⟩ := H7.cells; obtain ⟨t70, t71, t72, t73, t74⟩ := sp_cells T7)
          all_goals
            (go_wp2_with fail
             go_meet
             exact ⟨g', rfl, put5_own H7.sp (by decide) hj7, H7.put S7, (put5_other (ne_of_types R7 H7.sp (by decide))).trans R7⟩)
        case rest =>
        obtain ⟨g', rfl, hj8, H8, hr8⟩ := hcut
        have hk1 : (r.k == 1) = false := by simp [hr1]
        have hr80 : wc.cell? ⟨pr, 0, none⟩ = some (.int .i64 r.k) := struct_cell hr8 rfl
        have HE : Hid (wc.ownsRow w.heap.size 5 1 (.slice (some ⟨g', 0, none⟩) (len + 11) (len + 11)) (len + 11) ((encAll 0 (l ++ [r])).map (Value.int .u8)) ∧ St w wc p p9 n (min fl 6) mc mq f s' f1 f2 f3) := ⟨hj8, H8⟩
        clear hj8 H8 hr8
        go_wp2
        go_roundw
        case rel => exact ⟨k + 1, g', len + 11, f1, f2, f3, s', l ++ [r], by push_cast; rfl, rfl, by rw [HST.out.2.2.1, List.length_append]; simp; omega, HE.out.1, HE.out.2, HG.out.2.2.2⟩
        case measure => simp [intOf]; omega
      · obtain ⟨r, rr, s', s'', HB, HG⟩ : ∃ (r rr : Rc) (s' s'' : Sp), Hid (r.k = 1 ∧ rr.k = 2 ∧ rr.a = r.a ∧ rr.b = r.b) ∧ Hid (NextSays n (min fl 6) (mOf f) s r ∧ Goes n s r s' ∧ InTab l.length r ∧ Goes n s' rr s'' ∧ InTab (l ++ [r]).length rr ∧ Phase1 (min fl 6) (mOf f) n (k + 1) s'' ((l ++ [r]) ++ [rr])) := by
          obtain ⟨j, s', s'', h1, h2, h3, h4, h5, h6⟩ := hcase
          exact ⟨⟨1, j, 1⟩, ⟨2, j, 1⟩, s', s'', ⟨rfl, rfl, rfl, rfl⟩, h1, h2, h3, h4, h5, h6⟩
        go_upto_region 11 with (first
          | (go_at_call 8; refine (HST.out.1.rests HST.out.2.2.2.1).mono ?_; rintro e w4 ⟨rfl, hb4⟩; have H4 : Hid (St w w4 p p9 n (min fl 6) mc mq f s e1 e2 e3 ∧ w4.ownsRow w.heap.size 5 1 (.slice (some ⟨g, 0, none⟩) len len) len ((encAll 0 l).map (Value.int .u8))) := ⟨HST.out.1.next hb4, own_next HST.out.2.1 hb4⟩; clear hb4; obtain ⟨⟨c40, c41, c42, c43, c44⟩, ⟨m40, m41⟩, _⟩ := H4.out.1.reads HST.out.2.2.2.1)
          | (go_at_call 9; refine (H4.out.1.nexts HG.out.1 HST.out.2.2.2.1).mono ?_; rintro e w5 ⟨rfl, hb5⟩; have H5 : Hid (St w (w5.alloc (rcO r)) p p9 n (min fl 6) mc mq f s e1 e2 e3 ∧ (w5.alloc (rcO r)).ownsRow w.heap.size 5 1 (.slice (some ⟨g, 0, none⟩) len len) len ((encAll 0 l).map (Value.int .u8)) ∧ w.heap.size ≤ w5.heap.size) := ⟨(H4.out.1.next hb5).alloc _, (own_next H4.out.2 hb5).alloc _, (H4.out.1.next hb5).below.size⟩; clear hb5; obtain ⟨⟨c50, c51, c52, c53, c54⟩, ⟨m50, m51⟩, _⟩ := H5.out.1.reads HST.out.2.2.2.1)
          | (go_at_call 10; refine (H5.out.1.steps HG.out.2.1 HST.out.2.2.2.2.2 HST.out.2.2.2.1).mono ?_; rintro e w6 ⟨f1, f2, f3, rfl, hS6, hb6⟩; have hr6 := blk_next (blk_alloc_new w5 (rcO r)) hb6; have H6 : Hid (St w w6 p p9 n (min fl 6) mc mq f s e1 e2 e3 ∧ w6.ownsRow w.heap.size 5 1 (.slice (some ⟨g, 0, none⟩) len len) len ((encAll 0 l).map (Value.int .u8)) ∧ w6.heap[w5.heap.size]? = some (rcO r) ∧ SpIn w6 n f1 f2 f3 s') := ⟨H5.out.1.next hb6, own_next H5.out.2.1 hb6, hr6, hS6⟩; clear hb6 hr6 hS6))
        have HV : Hid (St w (w6.alloc (spO n f1 f2 f3 s')) p p9 n (min fl 6) mc mq f s e1 e2 e3 ∧ (w6.alloc (spO n f1 f2 f3 s')).ownsRow w.heap.size 5 1 (.slice (some ⟨g, 0, none⟩) len len) len ((encAll 0 l).map (Value.int .u8)) ∧ (w6.alloc (spO n f1 f2 f3 s')).heap[w5.heap.size]? = some (rcO r) ∧ SpIn (w6.alloc (spO n f1 f2 f3 s')) n f1 f2 f3 s' ∧ (w6.alloc (spO n f1 f2 f3 s')).heap[w6.heap.size]? = some (spO n f1 f2 f3 s')) :=
          ⟨H6.out.1.alloc _, H6.out.2.1.alloc _, blk_next H6.out.2.2.1 ((Below.refl _ w6).alloc (Nat.le_refl _) _), H6.out.2.2.2.alloc _, blk_alloc_new _ _⟩
        change Code.wp _ _ _ _ (w6.alloc (spO n f1 f2 f3 s'))
        generalize w6.alloc (spO n f1 f2 f3 s') = V at *
        have hpr : w.heap.size ≤ w5.heap.size := H5.out.2.2
        generalize w5.heap.size = pr at *
        generalize w6.heap.size = p12 at *
        clear H6 H5 H4
        obtain ⟨r0, r1, r2⟩ := rc_cells HV.out.2.2.1
        obtain ⟨t0, t1, t2, t3, t4⟩ := sp_cells HV.out.2.2.2.2
        have HPT := hid (put_at w V.drew g len l r HV.out.1.below.size HST.out.2.2.1 (by omega) HG.out.2.2.1 HV.out.2.1)
        go_cut [8] from 55 to 58 (fun s8 wx => ∃ g', s8 = .slice (some ⟨g', 0, none⟩) (len + 11) (len + 11) ∧ wx.ownsRow w.heap.size 5 1 (.slice (some ⟨g', 0, none⟩) (len + 11) (len + 11)) (len + 11) ((encAll 0 (l ++ [r])).map (Value.int .u8)) ∧ St w wx p p9 n (min fl 6) mc mq f s' f1 f2 f3 ∧ wx.heap[pr]? = some (rcO r))
        case first =>
          go_region_with (go_at_call 11; refine HPT.out.mono ?_; rintro e w7 ⟨g', rfl, hj7, hb7⟩; have H7 := HV.out.1.drew.next hb7; have R7 := blk_next (W := V.drew) HV.out.2.2.1 hb7; have S7 := SpIn.next (W := V.drew) HV.out.2.2.2.1.drew hb7; have T7 := blk_next (W := V.drew) HV.out.2.2.2.2 hb7; obtain ⟨⟨c70, c71, c72, c73, c74⟩, _, z70, z71, z72, z73, z74⟩ := H7.cells; obtain ⟨t70, t71, t72, t73, t74⟩ := sp_cells T7)
          all_goals
            (go_wp2_with fail
             go_meet
             exact ⟨g', rfl, put5_own H7.sp (by decide) hj7, H7.put S7, (put5_other (ne_of_types R7 H7.sp (by decide))).trans R7⟩)
        case rest =>
        obtain ⟨g', rfl, hj8, H8, hr8⟩ := hcut
        have hne : pr ≠ p9 := ne_of_types hr8 H8.sp (by decide)
        have q0 : wc.cell? ⟨pr, 0, none⟩ = some (.int .i64 1) := by have := struct_cell (i := 0) hr8 (v := .int .i64 r.k) rfl; rw [HB.out.1] at this; exact this
        have q1 : wc.cell? ⟨pr, 1, none⟩ = some (.int .i64 r.a) := struct_cell hr8 rfl
        have q2 : wc.cell? ⟨pr, 2, none⟩ = some (.int .i64 r.b) := struct_cell hr8 rfl
        have q3 : wc.frozen? ⟨pr, 0, none⟩ = false := struct_free hr8
        have hX : (wc.setCell ⟨pr, 0, none⟩ (.int .i64 2)).heap[pr]? = some (.cells #[.int .i64 2, .int .i64 r.a, .int .i64 r.b] 38 (0, 0)) := struct_set hr8 _
        have HX9 : Hid (St w (wc.setCell ⟨pr, 0, none⟩ (.int .i64 2)) p p9 n (min fl 6) mc mq f s' f1 f2 f3 ∧ (wc.setCell ⟨pr, 0, none⟩ (.int .i64 2)).ownsRow w.heap.size 5 1 (.slice (some ⟨g', 0, none⟩) (len + 11) (len + 11)) (len + 11) ((encAll 0 (l ++ [r])).map (Value.int .u8)) ∧ (wc.setCell ⟨pr, 0, none⟩ (.int .i64 2)).heap[pr]? = some (.cells #[.int .i64 2, .int .i64 r.a, .int .i64 r.b] 38 (0, 0))) := ⟨H8.setRc hr8 hpr _ _, own_set hr8 (by decide) hj8 _ _, hX⟩
        obtain ⟨⟨c80, c81, c82, c83, c84⟩, _, _⟩ := HX9.out.1.cells
        obtain ⟨r80, r81, r82⟩ := rc_cells hX
        have HS2 : Hid (Calls Tryz.prog 10 #[.agg #[.slice (some ⟨f1, 0, none⟩) n n, .slice (some ⟨f2, 0, none⟩) n n, .slice (some ⟨f3, 0, none⟩) n n, .int .i64 s'.now, .bool s'.sealed], .agg #[.int .i64 2, .int .i64 r.a, .int .i64 r.b]] (wc.setCell ⟨pr, 0, none⟩ (.int .i64 2)) fun e w' =>
            ∃ h1 h2 h3, e = .returned (.tuple #[.agg #[.slice (some ⟨h1, 0, none⟩) n n, .slice (some ⟨h2, 0, none⟩) n n, .slice (some ⟨h3, 0, none⟩) n n, .int .i64 s''.now, .bool s''.sealed], .int .i64 0]) ∧ SpIn w' n h1 h2 h3 s'' ∧ Below (wc.setCell ⟨pr, 0, none⟩ (.int .i64 2)).heap.size (wc.setCell ⟨pr, 0, none⟩ (.int .i64 2)) w') := by
          have := HX9.out.1.steps HG.out.2.2.2.1 HST.out.2.2.2.2.2 rfl
          rw [HB.out.2.1, HB.out.2.2.1, HB.out.2.2.2] at this
          exact this
        have far9 : ∀ (W : World) (v : Value) (i j : Nat), (W.setCell ⟨p9, j, none⟩ v).cell? ⟨pr, i, none⟩ = W.cell? ⟨pr, i, none⟩ := fun W v i j => far_cell p9 j pr hne.symm W v i
        clear hj8 H8 hr8 hX
        go_wp2_with (first
          | (go_at_call 10; refine Calls.mono HS2.out ?_; rintro e w9 ⟨h1, h2, h3, rfl, hS9, hb9⟩; have H9 : Hid (St w w9 p p9 n (min fl 6) mc mq f s' f1 f2 f3 ∧ w9.ownsRow w.heap.size 5 1 (.slice (some ⟨g', 0, none⟩) (len + 11) (len + 11)) (len + 11) ((encAll 0 (l ++ [r])).map (Value.int .u8)) ∧ w9.heap[pr]? = some (.cells #[.int .i64 2, .int .i64 r.a, .int .i64 r.b] 38 (0, 0)) ∧ SpIn w9 n h1 h2 h3 s'') := ⟨HX9.out.1.next hb9, own_next HX9.out.2.1 hb9, blk_next HX9.out.2.2 hb9, hS9⟩; clear hb9 hS9; obtain ⟨⟨c90, c91, c92, c93, c94⟩, _, z90, z91, z92, z93, z94⟩ := H9.out.1.cells; obtain ⟨r90, r91, r92⟩ := rc_cells H9.out.2.2.1; have HP2 : Hid (Calls Tryz.prog 11 #[.slice (some ⟨g', 0, none⟩) (len + 11) (len + 11), .agg #[.int .i64 2, .int .i64 r.a, .int .i64 r.b]] (put5 w9 p9 n h1 h2 h3 s'') fun e w' => ∃ g'', e = .returned (.slice (some ⟨g'', 0, none⟩) (len + 11 + 11) (len + 11 + 11)) ∧
      w'.ownsRow w.heap.size 5 1 (.slice (some ⟨g'', 0, none⟩) (len + 11 + 11) (len + 11 + 11)) (len + 11 + 11) ((encAll 0 ((l ++ [r]) ++ [rr])).map (Value.int .u8)) ∧ Below (put5 w9 p9 n h1 h2 h3 s'').heap.size (put5 w9 p9 n h1 h2 h3 s'') w') := (by have := put_at w (put5 w9 p9 n h1 h2 h3 s'') g' (len + 11) (l ++ [r]) rr (put5_below H9.out.1.below H9.out.1.lo).size (by rw [HST.out.2.2.1, List.length_append]; simp; omega) (by have := HST.out.2.2.2.2.1; simp; omega) HG.out.2.2.2.2.1 (put5_own H9.out.1.sp (by decide) H9.out.2.1); rw [HB.out.2.1, HB.out.2.2.1, HB.out.2.2.2] at this; exact this))
          | (go_at_call 11; refine Calls.mono HP2.out ?_; rintro e w10 ⟨g'', rfl, hj10, hb10⟩; have H10 : Hid (St w w10 p p9 n (min fl 6) mc mq f s'' h1 h2 h3 ∧ w10.ownsRow w.heap.size 5 1 (.slice (some ⟨g'', 0, none⟩) (len + 11 + 11) (len + 11 + 11)) (len + 11 + 11) ((encAll 0 ((l ++ [r]) ++ [rr])).map (Value.int .u8))) := ⟨(H9.out.1.put H9.out.2.2.2).next hb10, hj10⟩; clear hb10 hj10))
        go_roundw
        case rel => exact ⟨k + 1, g'', len + 11 + 11, h1, h2, h3, s'', (l ++ [r]) ++ [rr], by push_cast; rfl, rfl, by rw [HST.out.2.2.1, List.length_append, List.length_append]; simp; omega, H10.out.2, H10.out.1, HG.out.2.2.2.2.2⟩
        case measure => simp [intOf]; omega
    | true =>
      obtain ⟨rfl, hsh, rfl⟩ := phase1_at_end hph hs
      obtain ⟨c, hcl, hct⟩ : ∃ c : Nat, c ≤ len ∧ cut.tmod ((len : Int) + 1) = c := by
        refine ⟨cut.toNat % (len + 1), by have := Nat.mod_lt cut.toNat (show 0 < len + 1 by omega); omega, ?_⟩
        rw [Int.tmod_eq_emod_of_nonneg hcut.1]
        have : cut = (cut.toNat : Int) := by omega
        rw [this]
        push_cast
        rfl
      obtain ⟨⟨c0, c1, c2, c3, c4⟩, _, _⟩ := hst.reads hs
      have HT : Hid (St w wr p p9 n (min fl 6) mc mq f s e1 e2 e3 ∧ wr.ownsRow w.heap.size 5 1 (.slice (some ⟨g, 0, none⟩) len len) len ((encAll 0 (all (min fl 6) (mOf f) n)).map (Value.int .u8)) ∧ len = 11 * (all (min fl 6) (mOf f) n).length ∧ s.sealed = true ∧ Shut (min fl 6) (mOf f) n s ∧ (all (min fl 6) (mOf f) n).length ≤ 11) := ⟨hst, hj, hlen, hs, hsh, hl⟩
      have hlen2 : len ≤ 121 := by omega
      clear hst hj hlen hs hsh hl hph
      go_upto_region 16 with (go_at_call 8; refine Calls.mono (HT.out.1.rests HT.out.2.2.2.1) ?_; rintro e w4 ⟨rfl, hb4⟩)
      have H4 : Hid (St w w4 p p9 n (min fl 6) mc mq f s e1 e2 e3 ∧ w4.ownsRow w.heap.size 5 1 (.slice (some ⟨g, 0, none⟩) len len) len ((encAll 0 (all (min fl 6) (mOf f) n)).map (Value.int .u8))) := ⟨HT.out.1.next hb4, own_next HT.out.2.1 hb4⟩
      clear hb4 c0 c1 c2 c3 c4
      obtain ⟨hcut1, hcut2⟩ := hcut
      obtain ⟨mL, hmL⟩ : ∃ mL, mL = c / 11 := ⟨_, rfl⟩
      have hmL1 : mL * 11 ≤ len := by omega
      have HR := hid (read_at w w4 g len c mL hn5 HX.out.1 HT.out.2.2.1 HT.out.2.2.2.2.2 hcl hmL H4.out.1.below.size H4.out.2)
      have hmL2 : mL ≤ (all (min fl 6) (mOf f) n).length := by have := HT.out.2.2.1; omega
      have HL : Hid (mL ≤ (all (min fl 6) (mOf f) n).length ∧ mL = c / 11) := ⟨hmL2, hmL⟩
      clear hmL hmL2
      go_upto_region 18 with (first
        | (go_at_call 12; refine Calls.mono HR.out ?_; rintro e w5 ⟨lq, lc', rfl, ho5, hb5⟩; have H5 : Hid (St w w5 p p9 n (min fl 6) mc mq f s e1 e2 e3 ∧ w5.ownsRow w4.heap.size 38 3 (.slice lq mL lc') mL (rcCells ((all (min fl 6) (mOf f) n).take mL))) := ⟨H4.out.1.next hb5, ho5⟩; clear ho5 hb5)
        | (go_at_call 13; refine Calls.mono (replay_m w5 w4.heap.size lc' mL lq hn5 HT.out.2.2.2.2.2 HL.out.1 H5.out.2) ?_; rintro e w6 ⟨a1, a2, a3, s0, rfl, hA, hmet, hb6⟩; have H6 : Hid (St w w6 p p9 n (min fl 6) mc mq f s e1 e2 e3 ∧ SpIn w6 n a1 a2 a3 s0 ∧ Met (min fl 6) (mOf f) n s0) := ⟨H5.out.1.next hb6, hA, hmet⟩; clear hA hmet hb6))
      have HY : Hid (St w (w6.alloc (spO n a1 a2 a3 s0)) p p9 n (min fl 6) mc mq f s e1 e2 e3 ∧ SpIn (w6.alloc (spO n a1 a2 a3 s0)) n a1 a2 a3 s0 ∧ Met (min fl 6) (mOf f) n s0 ∧ (w6.alloc (spO n a1 a2 a3 s0)).heap[w6.heap.size]? = some (spO n a1 a2 a3 s0) ∧ p9 ≠ w6.heap.size ∧ w.heap.size ≤ w6.heap.size) :=
        ⟨H6.out.1.alloc _, H6.out.2.1.alloc _, H6.out.2.2, blk_alloc_new _ _, Nat.ne_of_lt (Array.getElem?_eq_some_iff.1 H6.out.1.sp).1, H6.out.1.below.size⟩
      change Code.wp _ _ _ _ (w6.alloc (spO n a1 a2 a3 s0))
      generalize w6.alloc (spO n a1 a2 a3 s0) = X at *
      generalize w6.heap.size = p16 at *
      clear H6 H5 H4 HR
      obtain ⟨⟨c0, c1, c2, c3, c4⟩, _, _⟩ := HY.out.1.reads HT.out.2.2.2.1
      obtain ⟨y0, y1, y2, y3, y4⟩ := sp_cells HY.out.2.2.2.1
      have hmL3 : ¬ ((len : Int) < (mL : Int) * 11) := by omega
      have hmL4 : ¬ (len < mL * 11) := by omega
      go_wp2_with (go_at_call 8; refine Calls.mono (HY.out.1.rests HT.out.2.2.2.1) ?_; rintro e w7 ⟨rfl, hb7⟩; have H7 : Hid (St w w7 p p9 n (min fl 6) mc mq f s e1 e2 e3 ∧ SpIn w7 n a1 a2 a3 s0 ∧ w7.heap[p16]? = some (spO n a1 a2 a3 s0)) := ⟨HY.out.1.next hb7, HY.out.2.1.next hb7, blk_next HY.out.2.2.2.1 hb7⟩; clear hb7; obtain ⟨u0, u1, u2, u3, u4'⟩ := sp_cells H7.out.2.2)
      have SY : St w (w7.alloc (spO n a1 a2 a3 s0)) p p16 n (min fl 6) mc mq f s0 a1 a2 a3 := by
        have h := H7.out.1.alloc (spO n a1 a2 a3 s0)
        exact ⟨(blk_alloc_lt _ _ _ (Array.getElem?_eq_some_iff.1 H7.out.2.2).1).trans H7.out.2.2, H7.out.2.1.alloc _, h.mt, h.mrow, h.below, HY.out.2.2.2.2.2⟩
      have OY : Old (w7.alloc (spO n a1 a2 a3 s0)) p9 w7.heap.size p16 n s e1 e2 e3 s0 a1 a2 a3 := by
        have h := H7.out.1.alloc (spO n a1 a2 a3 s0)
        exact ⟨h.sp, h.rows, blk_alloc_new _ _, H7.out.2.1.alloc _, HY.out.2.2.2.2.1, fun e => by have := (Array.getElem?_eq_some_iff.1 H7.out.2.2).1; omega⟩
      change Code.wp _ _ _ _ (w7.alloc (spO n a1 a2 a3 s0))
      generalize w7.alloc (spO n a1 a2 a3 s0) = Y at *
      generalize w7.heap.size = p18 at *
      have HMet : Hid (Met (min fl 6) (mOf f) n s0) := HY.out.2.2.1
      clear H7 HY c0 c1 c2 c3 c4 y0 y1 y2 y3 y4 u0 u1 u2 u3 u4'
      go_loopw [19] (fun i wr => Loop2 w wr p p16 p9 p18 n (min fl 6) mc mq f s e1 e2 e3 s0 a1 a2 a3 i) (fun i _ => 40 - (intOf i).toNat)
      case atStart => exact ⟨0, a1, a2, a3, s0, rfl, SY, phase2_start HMet.out, OY⟩
      case round =>
        clear SY OY
        obtain ⟨k, b1, b2, b3, t, rfl, hst, hph, hold⟩ := hrel
        cases hs : t.sealed with
        | false =>
          obtain ⟨hk, hcase⟩ := phase2_next hn5 HX.out.2 hph hs
          clear hph
          obtain ⟨⟨c0, c1, c2, c3, c4⟩, _, _⟩ := hst.reads hs
          have HS2 : Hid (St w wr p p16 n (min fl 6) mc mq f t b1 b2 b3 ∧ Old wr p9 p18 p16 n s e1 e2 e3 s0 a1 a2 a3 ∧ t.sealed = false) := ⟨hst, hold, hs⟩
          clear hst hold hs
          rcases hcase with ⟨r, t', hr1, hsay, hgo, hph'⟩ | ⟨j, c', t', t'', hjn, hdn, hsay, hgo, hgo2, hph'⟩
          · have hk1 : (r.k == 1) = false := by simp [hr1]
            have HG : Hid (NextSays n (min fl 6) (mOf f) t r ∧ Goes n t r t' ∧ Phase2 (min fl 6) (mOf f) n s0 (k + 1) t') := ⟨hsay, hgo, hph'⟩
            clear hsay hgo hph'
            go_upto_region 30 with (first
              | (go_at_call 8; refine Calls.mono (HS2.out.1.rests HS2.out.2.2) ?_; rintro e w8 ⟨rfl, hb8⟩; have H8 : Hid (St w w8 p p16 n (min fl 6) mc mq f t b1 b2 b3 ∧ Old w8 p9 p18 p16 n s e1 e2 e3 s0 a1 a2 a3) := ⟨HS2.out.1.next hb8, HS2.out.2.1.next hb8⟩; clear hb8; obtain ⟨⟨c80, c81, c82, c83, c84⟩, ⟨m80, m81⟩, _⟩ := H8.out.1.reads HS2.out.2.2)
              | (go_at_call 9; refine Calls.mono (H8.out.1.nexts HG.out.1 HS2.out.2.2) ?_; rintro e w9 ⟨rfl, hb9⟩; have H9 : Hid (St w (w9.alloc (rcO r)) p p16 n (min fl 6) mc mq f t b1 b2 b3 ∧ Old (w9.alloc (rcO r)) p9 p18 p16 n s e1 e2 e3 s0 a1 a2 a3 ∧ w.heap.size ≤ w9.heap.size) := ⟨(H8.out.1.next hb9).alloc _, (H8.out.2.next hb9).alloc _, (H8.out.1.next hb9).below.size⟩; clear hb9; obtain ⟨⟨c90, c91, c92, c93, c94⟩, ⟨m90, m91⟩, _⟩ := H9.out.1.reads HS2.out.2.2)
              | (go_at_call 10; refine Calls.mono (H9.out.1.steps HG.out.2.1 hn5 HS2.out.2.2) ?_; rintro e w10 ⟨f1, f2, f3, rfl, hS10, hb10⟩; have hr10 := blk_next (blk_alloc_new w9 (rcO r)) hb10; have H10 : Hid (St w w10 p p16 n (min fl 6) mc mq f t b1 b2 b3 ∧ Old w10 p9 p18 p16 n s e1 e2 e3 s0 a1 a2 a3 ∧ w10.heap[w9.heap.size]? = some (rcO r) ∧ SpIn w10 n f1 f2 f3 t') := ⟨H9.out.1.next hb10, H9.out.2.1.next hb10, hr10, hS10⟩; clear hb10 hr10 hS10))
            have HV : Hid (St w (w10.alloc (spO n f1 f2 f3 t')) p p16 n (min fl 6) mc mq f t b1 b2 b3 ∧ Old (w10.alloc (spO n f1 f2 f3 t')) p9 p18 p16 n s e1 e2 e3 s0 a1 a2 a3 ∧ (w10.alloc (spO n f1 f2 f3 t')).heap[w9.heap.size]? = some (rcO r) ∧ SpIn (w10.alloc (spO n f1 f2 f3 t')) n f1 f2 f3 t' ∧ (w10.alloc (spO n f1 f2 f3 t')).heap[w10.heap.size]? = some (spO n f1 f2 f3 t') ∧ w.heap.size ≤ w9.heap.size) :=
              ⟨H10.out.1.alloc _, H10.out.2.1.alloc _, blk_next H10.out.2.2.1 ((Below.refl _ w10).alloc (Nat.le_refl _) _), H10.out.2.2.2.alloc _, blk_alloc_new _ _, H9.out.2.2⟩
            change Code.wp _ _ _ _ (w10.alloc (spO n f1 f2 f3 t'))
            generalize w10.alloc (spO n f1 f2 f3 t') = V at *
            generalize w9.heap.size = pr at *
            generalize w10.heap.size = p21 at *
            clear H10 H9 H8
            obtain ⟨r0, r1, r2⟩ := rc_cells HV.out.2.2.1
            obtain ⟨t0, t1, t2, t3, t4⟩ := sp_cells HV.out.2.2.2.2.1
            obtain ⟨⟨d0', d1', d2', d3', d4'⟩, _, z0, z1, z2, z3, z4⟩ := HV.out.1.cells
            have hne : pr ≠ p16 := ne_of_types HV.out.2.2.1 HV.out.1.sp (by decide)
            have far16 : ∀ (W : World) (v : Value) (i j : Nat), (W.setCell ⟨p16, j, none⟩ v).cell? ⟨pr, i, none⟩ = W.cell? ⟨pr, i, none⟩ := fun W v i j => far_cell p16 j pr hne.symm W v i
            go_wp2
            go_roundw
            case rel => exact ⟨k + 1, f1, f2, f3, t', by push_cast; rfl, HV.out.1.put HV.out.2.2.2.1, HG.out.2.2, HV.out.2.1.put HV.out.1.sp⟩
            case measure => simp [intOf]; omega
          · obtain ⟨r, rr, HB, HG⟩ : ∃ (r rr : Rc), Hid (r.k = 1 ∧ r.a = (j : Int) ∧ rr.k = 2 ∧ rr.a = r.a ∧ rr.b = r.b) ∧ Hid (NextSays n (min fl 6) (mOf f) t r ∧ Goes n t r t' ∧ Phase2 (min fl 6) (mOf f) n s0 (k + 1) t'' ∧ Goes n t' rr t'') :=
              ⟨⟨1, j, c'⟩, ⟨2, j, c'⟩, ⟨rfl, rfl, rfl, rfl, rfl⟩, hsay, hgo, hph', hgo2⟩
            clear hsay hgo hph' hgo2
            have hk1 : (r.k == 1) = true := by simp [HB.out.1]
            have hra := HB.out.2.1
            have ha0 : ¬ r.a < 0 := by omega
            have ha1 : ¬ (n : Int) ≤ r.a := by omega
            have ha2 : 0 ≤ r.a := by omega
            have ha3 : r.a < (n : Int) := by omega
            have HD : Hid (∀ W, Old W p9 p18 p16 n s e1 e2 e3 s0 a1 a2 a3 → W.cell? ⟨a2, r.a.toNat, none⟩ = some (.bool false)) := fun W h => by
              have := h.r18.done.cell hjn
              rw [hdn] at this
              rw [hra]
              simpa using this
            clear hra hdn
            go_upto_region 30 with (first
              | (go_at_call 8; refine Calls.mono (HS2.out.1.rests HS2.out.2.2) ?_; rintro e w8 ⟨rfl, hb8⟩; have H8 : Hid (St w w8 p p16 n (min fl 6) mc mq f t b1 b2 b3 ∧ Old w8 p9 p18 p16 n s e1 e2 e3 s0 a1 a2 a3) := ⟨HS2.out.1.next hb8, HS2.out.2.1.next hb8⟩; clear hb8; obtain ⟨⟨c80, c81, c82, c83, c84⟩, ⟨m80, m81⟩, _⟩ := H8.out.1.reads HS2.out.2.2)
              | (go_at_call 9; refine Calls.mono (H8.out.1.nexts HG.out.1 HS2.out.2.2) ?_; rintro e w9 ⟨rfl, hb9⟩; have H9 : Hid (St w (w9.alloc (rcO r)) p p16 n (min fl 6) mc mq f t b1 b2 b3 ∧ Old (w9.alloc (rcO r)) p9 p18 p16 n s e1 e2 e3 s0 a1 a2 a3 ∧ w.heap.size ≤ w9.heap.size) := ⟨(H8.out.1.next hb9).alloc _, (H8.out.2.next hb9).alloc _, (H8.out.1.next hb9).below.size⟩; clear hb9; obtain ⟨⟨c90, c91, c92, c93, c94⟩, ⟨m90, m91⟩, _⟩ := H9.out.1.reads HS2.out.2.2; obtain ⟨o0, o1, o2, o3, o4⟩ := sp_cells H9.out.2.1.sp18; have od := HD.out _ H9.out.2.1)
              | (go_at_call 10; refine Calls.mono (H9.out.1.steps HG.out.2.1 hn5 HS2.out.2.2) ?_; rintro e w10 ⟨f1, f2, f3, rfl, hS10, hb10⟩; have hr10 := blk_next (blk_alloc_new w9 (rcO r)) hb10; have H10 : Hid (St w w10 p p16 n (min fl 6) mc mq f t b1 b2 b3 ∧ Old w10 p9 p18 p16 n s e1 e2 e3 s0 a1 a2 a3 ∧ w10.heap[w9.heap.size]? = some (rcO r) ∧ SpIn w10 n f1 f2 f3 t') := ⟨H9.out.1.next hb10, H9.out.2.1.next hb10, hr10, hS10⟩; clear hb10 hr10 hS10))
            have HV : Hid (St w (w10.alloc (spO n f1 f2 f3 t')) p p16 n (min fl 6) mc mq f t b1 b2 b3 ∧ Old (w10.alloc (spO n f1 f2 f3 t')) p9 p18 p16 n s e1 e2 e3 s0 a1 a2 a3 ∧ (w10.alloc (spO n f1 f2 f3 t')).heap[w9.heap.size]? = some (rcO r) ∧ SpIn (w10.alloc (spO n f1 f2 f3 t')) n f1 f2 f3 t' ∧ (w10.alloc (spO n f1 f2 f3 t')).heap[w10.heap.size]? = some (spO n f1 f2 f3 t') ∧ w.heap.size ≤ w9.heap.size) :=
              ⟨H10.out.1.alloc _, H10.out.2.1.alloc _, blk_next H10.out.2.2.1 ((Below.refl _ w10).alloc (Nat.le_refl _) _), H10.out.2.2.2.alloc _, blk_alloc_new _ _, H9.out.2.2⟩
            change Code.wp _ _ _ _ (w10.alloc (spO n f1 f2 f3 t'))
            generalize w10.alloc (spO n f1 f2 f3 t') = V at *
            generalize w9.heap.size = pr at *
            generalize w10.heap.size = p21 at *
            clear H10 H9 H8
            obtain ⟨r0, r1, r2⟩ := rc_cells HV.out.2.2.1
            obtain ⟨t0, t1, t2, t3, t4⟩ := sp_cells HV.out.2.2.2.2.1
            obtain ⟨⟨d0', d1', d2', d3', d4'⟩, _, z0, z1, z2, z3, z4⟩ := HV.out.1.cells
            have hne : pr ≠ p16 := ne_of_types HV.out.2.2.1 HV.out.1.sp (by decide)
            have far16 : ∀ (W : World) (v : Value) (i j : Nat), (W.setCell ⟨p16, j, none⟩ v).cell? ⟨pr, i, none⟩ = W.cell? ⟨pr, i, none⟩ := fun W v i j => far_cell p16 j pr hne.symm W v i
            go_upto_region 31 with fail
            have HZ : Hid (St w (put5 V p16 n f1 f2 f3 t') p p16 n (min fl 6) mc mq f t' f1 f2 f3 ∧ Old (put5 V p16 n f1 f2 f3 t') p9 p18 p16 n s e1 e2 e3 s0 a1 a2 a3 ∧ (put5 V p16 n f1 f2 f3 t').heap[pr]? = some (rcO r) ∧ w.heap.size ≤ pr) :=
              ⟨HV.out.1.put HV.out.2.2.2.1, HV.out.2.1.put HV.out.1.sp, (put5_other hne).trans HV.out.2.2.1, HV.out.2.2.2.2.2⟩
            change Code.wp _ _ _ _ (put5 V p16 n f1 f2 f3 t')
            generalize put5 V p16 n f1 f2 f3 t' = Z at *
            clear HV r0 r1 r2 t0 t1 t2 t3 t4 d0' d1' d2' d3' d4' z0 z1 z2 z3 z4
            obtain ⟨q0, q1, q2⟩ := rc_cells HZ.out.2.2.1
            have q3 : Z.frozen? ⟨pr, 0, none⟩ = false := struct_free HZ.out.2.2.1
            go_upto_region 33 with fail
            have HX2 : Hid (St w (Z.setCell ⟨pr, 0, none⟩ (.int .i64 2)) p p16 n (min fl 6) mc mq f t' f1 f2 f3 ∧ Old (Z.setCell ⟨pr, 0, none⟩ (.int .i64 2)) p9 p18 p16 n s e1 e2 e3 s0 a1 a2 a3 ∧ (Z.setCell ⟨pr, 0, none⟩ (.int .i64 2)).heap[pr]? = some (.cells #[.int .i64 2, .int .i64 r.a, .int .i64 r.b] 38 (0, 0))) :=
              ⟨HZ.out.1.setRc HZ.out.2.2.1 HZ.out.2.2.2 _ _, HZ.out.2.1.setRc HZ.out.2.2.1 _ _, struct_set HZ.out.2.2.1 _⟩
            generalize Z.setCell ⟨pr, 0, none⟩ (.int .i64 2) = X2 at *
            clear HZ q0 q1 q2 q3
            obtain ⟨⟨i0, i1, i2, i3, i4⟩, _, _⟩ := HX2.out.1.cells
            obtain ⟨q0, q1, q2⟩ := rc_cells HX2.out.2.2
            have HS3 : Hid (Calls Tryz.prog 10 #[.agg #[.slice (some ⟨f1, 0, none⟩) n n, .slice (some ⟨f2, 0, none⟩) n n, .slice (some ⟨f3, 0, none⟩) n n, .int .i64 t'.now, .bool t'.sealed], .agg #[.int .i64 2, .int .i64 r.a, .int .i64 r.b]] X2 fun e w' =>
                ∃ h1 h2 h3, e = .returned (.tuple #[.agg #[.slice (some ⟨h1, 0, none⟩) n n, .slice (some ⟨h2, 0, none⟩) n n, .slice (some ⟨h3, 0, none⟩) n n, .int .i64 t''.now, .bool t''.sealed], .int .i64 0]) ∧ SpIn w' n h1 h2 h3 t'' ∧ Below X2.heap.size X2 w') := by
              have := HX2.out.1.steps HG.out.2.2.2 hn5 rfl
              rw [HB.out.2.2.1, HB.out.2.2.2.1, HB.out.2.2.2.2] at this
              exact this
            go_wp2_with (go_at_call 10; refine Calls.mono HS3.out ?_; rintro e w11 ⟨h1, h2, h3, rfl, hS11, hb11⟩; have H11 : Hid (St w w11 p p16 n (min fl 6) mc mq f t' f1 f2 f3 ∧ Old w11 p9 p18 p16 n s e1 e2 e3 s0 a1 a2 a3 ∧ SpIn w11 n h1 h2 h3 t'') := ⟨HX2.out.1.next hb11, HX2.out.2.1.next hb11, hS11⟩; clear hb11 hS11; obtain ⟨⟨g0', g1', g2', g3', g4'⟩, _, z0, z1, z2, z3, z4⟩ := H11.out.1.cells)
            go_roundw
            case rel => exact ⟨k + 1, h1, h2, h3, t'', by push_cast; rfl, H11.out.1.put H11.out.2.2, HG.out.2.2.1, H11.out.2.1.put H11.out.1.sp⟩
            case measure => simp [intOf]; omega
        | true =>
          have hsh := phase2_end hph hs
          have hk4 : (k : Int) < 4 * n + 3 := by
            rcases hph with ⟨j0, j, _, _, ⟨hc, _⟩ | ⟨hu, _⟩⟩ | ⟨_, h1⟩
            · rw [hc.sealed] at hs; cases hs
            · rw [hu.sealed] at hs; cases hs
            · omega
          obtain ⟨⟨c0, c1, c2, c3, c4⟩, _, _⟩ := hst.reads hs
          have HE : Hid (St w wr p p16 n (min fl 6) mc mq f t b1 b2 b3 ∧ Old wr p9 p18 p16 n s e1 e2 e3 s0 a1 a2 a3 ∧ t.sealed = true ∧ Shut (min fl 6) (mOf f) n t) := ⟨hst, hold, hs, hsh⟩
          clear hst hold hs hsh hph
          go_upto_region 34 with (go_at_call 8; go_loud (refine Calls.mono (HE.out.1.rests HE.out.2.2.1) ?_; rintro e w8 ⟨rfl, hb8⟩))
          have H8 : Hid (St w w8 p p16 n (min fl 6) mc mq f t b1 b2 b3 ∧ Old w8 p9 p18 p16 n s e1 e2 e3 s0 a1 a2 a3) := ⟨HE.out.1.next hb8, HE.out.2.1.next hb8⟩
          clear hb8 c0 c1 c2 c3 c4
          obtain ⟨⟨c0, c1, c2, c3, c4⟩, _, _⟩ := H8.out.1.reads HE.out.2.2.1
          go_wp2_with (go_at_call 8; go_loud (refine Calls.mono (H8.out.1.rests HE.out.2.2.1) ?_; rintro e w9 ⟨rfl, hb9⟩; have H9 : Hid (St w w9 p p16 n (min fl 6) mc mq f t b1 b2 b3 ∧ Old w9 p9 p18 p16 n s e1 e2 e3 s0 a1 a2 a3) := ⟨H8.out.1.next hb9, H8.out.2.next hb9⟩; clear hb9; obtain ⟨⟨c90, c91, c92, c93, c94⟩, _, _⟩ := H9.out.1.reads HE.out.2.2.1; obtain ⟨o0, o1, o2, o3, o4⟩ := sp_cells H9.out.2.sp9))
          go_loopw [23] (fun i wr => ∃ k : Nat, k ≤ n ∧ i = .int .i64 k ∧ St w wr p p16 n (min fl 6) mc mq f t b1 b2 b3 ∧ Old wr p9 p18 p16 n s e1 e2 e3 s0 a1 a2 a3) (fun i _ => 20 - (intOf i).toNat)
          case atStart => exact ⟨0, Nat.zero_le _, rfl, H9.out.1, H9.out.2⟩
          case round =>
            obtain ⟨k, hkn, rfl, hst, hold⟩ := hrel
            obtain ⟨⟨c0, c1, c2, c3, c4⟩, _, _⟩ := hst.reads HE.out.2.2.1
            obtain ⟨o0, o1, o2, o3, o4⟩ := sp_cells hold.sp9
            rcases Nat.lt_or_ge k n with hk | hk
            · have hd : wr.cell? ⟨b2, k, none⟩ = some (.bool true) := by rw [hst.rows.done.cell hk, HE.out.2.2.2.done k hk]
              have ht1 : wr.cell? ⟨b3, k, none⟩ = some (.int .i64 (tk (min fl 6) (mOf f) n n k)) := by rw [hst.rows.taken.cell hk, HE.out.2.2.2.taken k hk]
              have ht2 : wr.cell? ⟨e3, k, none⟩ = some (.int .i64 (tk (min fl 6) (mOf f) n n k)) := by rw [hold.r9.taken.cell hk, HT.out.2.2.2.2.1.taken k hk]
              generalize tk (min fl 6) (mOf f) n n k = tv at *
              have HW : Hid (St w wr p p16 n (min fl 6) mc mq f t b1 b2 b3 ∧ Old wr p9 p18 p16 n s e1 e2 e3 s0 a1 a2 a3) := ⟨hst, hold⟩
              clear hst hold
              go_upto_region 39 with fail
              go_quiet (fail)
              go_wp2
              go_roundw
              case rel => exact ⟨k + 1, hk, by push_cast; rfl, HW.out.1.next (below_drewN (Below.refl _ _) _), HW.out.2.next (below_drewN (Below.refl _ _) _)⟩
              case measure => simp [intOf]; omega
            · obtain rfl : k = n := by omega
              have HW : Below w.heap.size w wr := hst.below
              clear hst hold
              go_wp2
              go_ret
              exact ⟨rfl, HW⟩
end Go.Proofs.YtndjhcmgngnfbaaGreatDoor
