/- What lies in memory while the runs go on. No condition. -/
import Derived.Test.YtndjhcmgngnfbaaGreatDoorEnB
import Derived.Test.YtndjhcmgngnfbaaGreatDoorMat
import Derived.Test.YtndjhcmgngnfbaaGreatDoorRea
import Derived.Test.YtndjhcmgngnfbaaGreatDoorPth
import Derived.Test.YtndjhcmgngnfbaaGreatDoorNew
set_option linter.unusedSimpArgs false
set_option linter.unusedVariables false
set_option linter.all false
namespace Go.Proofs.YtndjhcmgngnfbaaGreatDoor
open Go Go.RowKit Go.Deep
theorem hid {p : Prop} (h : p) : Hid p := h
theorem ownsRow_form {w : World} {b : Nat} {e : TypeId} {size : Nat} {v : Value} {n : Nat} {xs : List Value} (h : w.ownsRow b e size v n xs) : ∃ p c, v = .slice p n c := by
  rcases h.2 with ⟨h1, h2⟩ | ⟨g, cap, cur, h1, _⟩
  · exact ⟨none, 0, by rw [h1, h2]⟩
  · exact ⟨_, _, h1⟩
theorem ne_of_types {W : World} {p b : Nat} {c c' : Array Value} {t t' : TypeId} {fr fr' : Nat × Nat} (h : W.heap[p]? = some (.cells c t fr)) (h' : W.heap[b]? = some (.cells c' t' fr')) (ht : t ≠ t') : p ≠ b := by
  rintro rfl
  have := h.symm.trans h'
  simp at this
  exact ht this.2.1
theorem row_ne {W : World} {p b n : Nat} {c : Array Value} {t t' : TypeId} {fr : Nat × Nat} {f : Nat → Value} (h : W.heap[p]? = some (.cells c t fr)) (h' : W.rowIs b t' n f) (ht : t ≠ t') : p ≠ b := by
  obtain ⟨c', h2, _⟩ := h'
  exact ne_of_types h h2 ht
theorem own_ne {W : World} {p base : Nat} {c : Array Value} {t e : TypeId} {fr : Nat × Nat} {size n : Nat} {v : Value} {xs : List Value} (h : W.heap[p]? = some (.cells c t fr)) (h' : W.ownsRow base e size v n xs) (ht : t ≠ e) : v.ownBlock ≠ some p := by
  intro e'
  rcases h'.2 with ⟨h1, _⟩ | ⟨g, cap, cur, h1, _, hgb, _⟩
  · rw [h1] at e'; simp [Value.ownBlock] at e'
  · rw [h1] at e'
    obtain rfl : g = p := by simpa [Value.ownBlock] using e'
    exact ne_of_types h hgb ht rfl
theorem own_next {W W' : World} {base : Nat} {e : TypeId} {size n : Nat} {v : Value} {xs : List Value} (h : W.ownsRow base e size v n xs) (hb : Below W.heap.size W W') : W'.ownsRow base e size v n xs :=
  h.kept (row := none) ⟨hb.os, hb.tape, hb.output, hb.size, fun k hk _ => hb.block k hk⟩ (by
    rcases h.2 with ⟨h1, _⟩ | ⟨g, cap, cur, h1, _⟩
    · rw [h1]; exact .inl rfl
    · rw [h1]; exact .inr (by simp [Value.ownBlock]))
theorem own_set {W : World} {base p : Nat} {c : Array Value} {t e : TypeId} {fr : Nat × Nat} {size n : Nat} {v : Value} {xs : List Value} (hp : W.heap[p]? = some (.cells c t fr)) (ht : t ≠ e) (h : W.ownsRow base e size v n xs) (i : Nat) (u : Value) : (W.setCell ⟨p, i, none⟩ u).ownsRow base e size v n xs :=
  h.kept (grownBy_setCell_any _ _ _ _) (.inr (own_ne hp h ht))
theorem SpIn.next {W W' : World} {n d1 d2 d3 : Nat} {s : Sp} (h : SpIn W n d1 d2 d3 s) (hb : Below W.heap.size W W') : SpIn W' n d1 d2 d3 s := h.below hb h.lt1 h.lt2 h.lt3
theorem blk_next {W W' : World} {p : Nat} {o : Obj} (h : W.heap[p]? = some o) (hb : Below W.heap.size W W') : W'.heap[p]? = some o := (hb.block p (Array.getElem?_eq_some_iff.1 h).1).trans h
/-- A spool in its variable at p, and the matching in its own at p7. -/
structure St (w W : World) (p7 p n ml mc : Nat) (q : Option Addr) (f : Nat → Int) (s : Sp) (d1 d2 d3 : Nat) : Prop where
  sp : W.heap[p]? = some (spO n d1 d2 d3 s)
  rows : SpIn W n d1 d2 d3 s
  mt : W.heap[p7]? = some (.cells #[.slice q ml mc, .int .i64 0] 30 (0, 0))
  mrow : W.ownsRow w.heap.size 3 1 (.slice q ml mc) ml ((mList f ml).map (Value.int .i64))
  below : Below w.heap.size w W
  lo : w.heap.size ≤ p
theorem St.next {w W W' : World} {p7 p n ml mc d1 d2 d3 : Nat} {q : Option Addr} {f : Nat → Int} {s : Sp} (h : St w W p7 p n ml mc q f s d1 d2 d3) (hb : Below W.heap.size W W') : St w W' p7 p n ml mc q f s d1 d2 d3 :=
  ⟨blk_next h.sp hb, h.rows.next hb, blk_next h.mt hb, own_next h.mrow hb, h.below.trans (hb.mono h.below.size), h.lo⟩
theorem St.alloc {w W : World} {p7 p n ml mc d1 d2 d3 : Nat} {q : Option Addr} {f : Nat → Int} {s : Sp} (h : St w W p7 p n ml mc q f s d1 d2 d3) (o : Obj) : St w (W.alloc o) p7 p n ml mc q f s d1 d2 d3 := h.next ((Below.refl _ W).alloc (Nat.le_refl _) o)
theorem St.drew {w W : World} {p7 p n ml mc d1 d2 d3 : Nat} {q : Option Addr} {f : Nat → Int} {s : Sp} (h : St w W p7 p n ml mc q f s d1 d2 d3) : St w W.drew p7 p n ml mc q f s d1 d2 d3 := h.next ((Below.refl _ W).drew)
/-- The world behind the store of a spool into its variable. -/
abbrev put5 (W : World) (p n d1 d2 d3 : Nat) (s : Sp) : World :=
  ((((W.setCell ⟨p, 0, none⟩ (.slice (some ⟨d1, 0, none⟩) n n)).setCell ⟨p, 1, none⟩ (.slice (some ⟨d2, 0, none⟩) n n)).setCell ⟨p, 2, none⟩ (.slice (some ⟨d3, 0, none⟩) n n)).setCell ⟨p, 3, none⟩ (.int .i64 s.now)).setCell ⟨p, 4, none⟩ (.bool s.sealed)
theorem put5_sp {W : World} {p n d1 d2 d3 e1 e2 e3 : Nat} {s s' : Sp} (h : W.heap[p]? = some (spO n d1 d2 d3 s)) : (put5 W p n e1 e2 e3 s').heap[p]? = some (spO n e1 e2 e3 s') :=
  struct_set (struct_set (struct_set (struct_set (struct_set h _) _) _) _) _
theorem put5_other {W : World} {p n e1 e2 e3 b : Nat} {s' : Sp} (h : b ≠ p) : (put5 W p n e1 e2 e3 s').heap[b]? = W.heap[b]? := by
  unfold put5
  rw [blk_setCell_other _ _ _ _ h, blk_setCell_other _ _ _ _ h, blk_setCell_other _ _ _ _ h, blk_setCell_other _ _ _ _ h, blk_setCell_other _ _ _ _ h]
theorem put5_rows {W : World} {p n d1 d2 d3 e1 e2 e3 b1 b2 b3 : Nat} {s s' t : Sp} (h : W.heap[p]? = some (spO n d1 d2 d3 s)) (hr : SpIn W n b1 b2 b3 t) : SpIn (put5 W p n e1 e2 e3 s') n b1 b2 b3 t :=
  ⟨hr.tries.of_block (put5_other (row_ne h hr.tries (by decide)).symm), hr.done.of_block (put5_other (row_ne h hr.done (by decide)).symm), hr.taken.of_block (put5_other (row_ne h hr.taken (by decide)).symm), hr.h12, hr.h13, hr.h23⟩
theorem put5_below {w W : World} {B p n e1 e2 e3 : Nat} {s' : Sp} (h : Below B w W) (hp : B ≤ p) : Below B w (put5 W p n e1 e2 e3 s') :=
  ((((h.setCell (p := ⟨p, 0, none⟩) hp _).setCell (p := ⟨p, 1, none⟩) hp _).setCell (p := ⟨p, 2, none⟩) hp _).setCell (p := ⟨p, 3, none⟩) hp _).setCell (p := ⟨p, 4, none⟩) hp _
theorem put5_own {W : World} {p n d1 d2 d3 e1 e2 e3 base : Nat} {s s' : Sp} {e : TypeId} {size k : Nat} {v : Value} {xs : List Value} (hp : W.heap[p]? = some (spO n d1 d2 d3 s)) (ht : 34 ≠ e) (h : W.ownsRow base e size v k xs) : (put5 W p n e1 e2 e3 s').ownsRow base e size v k xs := by
  have a1 := own_set hp ht h 0 (.slice (some ⟨e1, 0, none⟩) n n)
  have b1 := struct_set (i := 0) hp (.slice (some ⟨e1, 0, none⟩) n n)
  have a2 := own_set b1 ht a1 1 (.slice (some ⟨e2, 0, none⟩) n n)
  have b2 := struct_set (i := 1) b1 (.slice (some ⟨e2, 0, none⟩) n n)
  have a3 := own_set b2 ht a2 2 (.slice (some ⟨e3, 0, none⟩) n n)
  have b3 := struct_set (i := 2) b2 (.slice (some ⟨e3, 0, none⟩) n n)
  have a4 := own_set b3 ht a3 3 (.int .i64 s'.now)
  have b4 := struct_set (i := 3) b3 (.int .i64 s'.now)
  exact own_set b4 ht a4 4 (.bool s'.sealed)
theorem St.put {w W : World} {p7 p n ml mc d1 d2 d3 e1 e2 e3 : Nat} {q : Option Addr} {f : Nat → Int} {s s' : Sp} (h : St w W p7 p n ml mc q f s d1 d2 d3) (hr : SpIn W n e1 e2 e3 s') : St w (put5 W p n e1 e2 e3 s') p7 p n ml mc q f s' e1 e2 e3 :=
  ⟨put5_sp h.sp, put5_rows h.sp hr, (put5_other (ne_of_types h.mt h.sp (by decide))).trans h.mt, put5_own h.sp (by decide) h.mrow, put5_below h.below h.lo, h.lo⟩
/-- What the walk reads of it. -/
theorem St.cells {w W : World} {p7 p n ml mc d1 d2 d3 : Nat} {q : Option Addr} {f : Nat → Int} {s : Sp} (h : St w W p7 p n ml mc q f s d1 d2 d3) :
    (W.cell? ⟨p, 0, none⟩ = some (.slice (some ⟨d1, 0, none⟩) n n) ∧ W.cell? ⟨p, 1, none⟩ = some (.slice (some ⟨d2, 0, none⟩) n n) ∧ W.cell? ⟨p, 2, none⟩ = some (.slice (some ⟨d3, 0, none⟩) n n) ∧ W.cell? ⟨p, 3, none⟩ = some (.int .i64 s.now) ∧ W.cell? ⟨p, 4, none⟩ = some (.bool s.sealed)) ∧
    (W.cell? ⟨p7, 0, none⟩ = some (.slice q ml mc) ∧ W.cell? ⟨p7, 1, none⟩ = some (.int .i64 0)) ∧
    (W.frozen? ⟨p, 0, none⟩ = false ∧ W.frozen? ⟨p, 1, none⟩ = false ∧ W.frozen? ⟨p, 2, none⟩ = false ∧ W.frozen? ⟨p, 3, none⟩ = false ∧ W.frozen? ⟨p, 4, none⟩ = false) :=
  ⟨sp_cells h.sp, ⟨struct_cell h.mt rfl, struct_cell h.mt rfl⟩, struct_free h.sp, struct_free h.sp, struct_free h.sp, struct_free h.sp, struct_free h.sp⟩
/-- What Next answers there. -/
theorem St.says {w W : World} {p7 p n ml mc d1 d2 d3 : Nat} {q : Option Addr} {f : Nat → Int} {s : Sp} {r : Rc} (h : St w W p7 p n ml mc q f s d1 d2 d3) (hs : NextSays n ml (mOf f) s r) :
    Calls Tryz.prog 9 #[spV n d1 d2 d3 s, .agg #[.slice q ml mc, .int .i64 0]] W fun e w' => e = .returned (rcV r) ∧ Below W.heap.size W w' := by
  rcases h.mrow.2 with ⟨h1, h2⟩ | ⟨g, cap, cur, h1, h2, h3, h4⟩
  · subst h2
    exact hs W d1 d2 d3 mc 0 q h.rows (fun h => absurd h (Nat.lt_irrefl 0)) (fun k hk => absurd hk (Nat.not_lt_zero k))
  · have e : q = some ⟨g, 0, none⟩ := by cases h1; rfl
    subst e
    have hm := h.mrow
    cases h1
    refine hs W d1 d2 d3 mc g _ h.rows (fun _ => rfl) (fun k hk => ?_)
    rw [hm.cellAt k (by omega), List.getElem?_map, mList, List.getElem?_map, List.getElem?_range hk]
    rfl
/-- A record in a variable. -/
abbrev rcO (r : Rc) : Obj := .cells #[.int .i64 r.k, .int .i64 r.a, .int .i64 r.b] 38 (0, 0)
/-- Step at a record that applies, as the walk meets it. -/
theorem St.steps {w W : World} {p7 p n ml mc d1 d2 d3 : Nat} {q : Option Addr} {f : Nat → Int} {s s' : Sp} {r : Rc} {b : Bool} (h : St w W p7 p n ml mc q f s d1 d2 d3) (hg : Goes n s r s') (hn : n ≤ 5) (hb : s.sealed = b) :
    Calls Tryz.prog 10 #[.agg #[.slice (some ⟨d1, 0, none⟩) n n, .slice (some ⟨d2, 0, none⟩) n n, .slice (some ⟨d3, 0, none⟩) n n, .int .i64 s.now, .bool b], .agg #[.int .i64 r.k, .int .i64 r.a, .int .i64 r.b]] W fun e w' =>
      ∃ f1 f2 f3, e = .returned (.tuple #[.agg #[.slice (some ⟨f1, 0, none⟩) n n, .slice (some ⟨f2, 0, none⟩) n n, .slice (some ⟨f3, 0, none⟩) n n, .int .i64 s'.now, .bool s'.sealed], .int .i64 0]) ∧ SpIn w' n f1 f2 f3 s' ∧ Below W.heap.size W w' := by
  subst hb
  refine (step_walk W n d1 d2 d3 s s' r hg (by omega) h.rows).mono ?_
  rintro e w' ⟨f1, f2, f3, rfl, h1, _, _, _, h5⟩
  exact ⟨f1, f2, f3, rfl, h1, h5⟩
/-- Next, as the walk meets it. -/
theorem St.nexts {w W : World} {p7 p n ml mc d1 d2 d3 : Nat} {q : Option Addr} {f : Nat → Int} {s : Sp} {r : Rc} {b : Bool} (h : St w W p7 p n ml mc q f s d1 d2 d3) (hs : NextSays n ml (mOf f) s r) (hb : s.sealed = b) :
    Calls Tryz.prog 9 #[.agg #[.slice (some ⟨d1, 0, none⟩) n n, .slice (some ⟨d2, 0, none⟩) n n, .slice (some ⟨d3, 0, none⟩) n n, .int .i64 s.now, .bool b], .agg #[.slice q ml mc, .int .i64 0]] W fun e w' =>
      e = .returned (.agg #[.int .i64 r.k, .int .i64 r.a, .int .i64 r.b]) ∧ Below W.heap.size W w' := by
  subst hb
  exact h.says hs
/-- Rest, as the walk meets it. -/
theorem St.rests {w W : World} {p7 p n ml mc d1 d2 d3 : Nat} {q : Option Addr} {f : Nat → Int} {s : Sp} {b : Bool} (h : St w W p7 p n ml mc q f s d1 d2 d3) (hb : s.sealed = b) :
    Calls Tryz.prog 8 #[.agg #[.slice (some ⟨d1, 0, none⟩) n n, .slice (some ⟨d2, 0, none⟩) n n, .slice (some ⟨d3, 0, none⟩) n n, .int .i64 s.now, .bool b]] W fun e w' => e = .returned (.bool b) ∧ Below W.heap.size W w' := by
  subst hb
  exact rest_walk W _ _ _ n n n n n n s.now s.sealed
/-- What the walk reads, the seal known. -/
theorem St.reads {w W : World} {p7 p n ml mc d1 d2 d3 : Nat} {q : Option Addr} {f : Nat → Int} {s : Sp} {b : Bool} (h : St w W p7 p n ml mc q f s d1 d2 d3) (hb : s.sealed = b) :
    (W.cell? ⟨p, 0, none⟩ = some (.slice (some ⟨d1, 0, none⟩) n n) ∧ W.cell? ⟨p, 1, none⟩ = some (.slice (some ⟨d2, 0, none⟩) n n) ∧ W.cell? ⟨p, 2, none⟩ = some (.slice (some ⟨d3, 0, none⟩) n n) ∧ W.cell? ⟨p, 3, none⟩ = some (.int .i64 s.now) ∧ W.cell? ⟨p, 4, none⟩ = some (.bool b)) ∧
    (W.cell? ⟨p7, 0, none⟩ = some (.slice q ml mc) ∧ W.cell? ⟨p7, 1, none⟩ = some (.int .i64 0)) ∧
    (W.frozen? ⟨p, 0, none⟩ = false ∧ W.frozen? ⟨p, 1, none⟩ = false ∧ W.frozen? ⟨p, 2, none⟩ = false ∧ W.frozen? ⟨p, 3, none⟩ = false ∧ W.frozen? ⟨p, 4, none⟩ = false) := by
  subst hb
  exact h.cells
/-- Put, as the walk meets it. -/
theorem put_at (w W : World) (g len : Nat) (l : List Rc) (r : Rc) (hw : w.heap.size ≤ W.heap.size) (hlen : len = 11 * l.length) (hl : l.length ≤ 12) (hr : InTab l.length r)
    (hown : W.ownsRow w.heap.size 5 1 (.slice (some ⟨g, 0, none⟩) len len) len ((encAll 0 l).map (Value.int .u8))) :
    Calls Tryz.prog 11 #[.slice (some ⟨g, 0, none⟩) len len, .agg #[.int .i64 r.k, .int .i64 r.a, .int .i64 r.b]] W fun e w' => ∃ g', e = .returned (.slice (some ⟨g', 0, none⟩) (len + 11) (len + 11)) ∧
      w'.ownsRow w.heap.size 5 1 (.slice (some ⟨g', 0, none⟩) (len + 11) (len + 11)) (len + 11) ((encAll 0 (l ++ [r])).map (Value.int .u8)) ∧ Below W.heap.size W w' := by
  refine (put_rec W g len w.heap.size len l r hlen (by omega) hr hown).mono ?_
  rintro e w' ⟨g', rfl, h1, h2⟩
  refine ⟨g', rfl, ?_, h2⟩
  refine ⟨h1.1, ?_⟩
  rcases h1.2 with h3 | ⟨g1, cap, cur, h3, h4, h5⟩
  · exact .inl h3
  · exact .inr ⟨g1, cap, cur, h3, Nat.le_trans hw h4, h5⟩
/-- A store into the record's variable leaves all else. -/
theorem St.setRc {w W : World} {p7 p n ml mc d1 d2 d3 pr : Nat} {q : Option Addr} {f : Nat → Int} {s : Sp} {c : Array Value} (h : St w W p7 p n ml mc q f s d1 d2 d3) (hr : W.heap[pr]? = some (.cells c 38 (0, 0))) (hpr : w.heap.size ≤ pr) (i : Nat) (u : Value) : St w (W.setCell ⟨pr, i, none⟩ u) p7 p n ml mc q f s d1 d2 d3 :=
  ⟨(blk_setCell_other _ _ _ _ (ne_of_types hr h.sp (by decide)).symm).trans h.sp,
    ⟨h.rows.tries.setOther (row_ne hr h.rows.tries (by decide)).symm _, h.rows.done.setOther (row_ne hr h.rows.done (by decide)).symm _, h.rows.taken.setOther (row_ne hr h.rows.taken (by decide)).symm _, h.rows.h12, h.rows.h13, h.rows.h23⟩,
    (blk_setCell_other _ _ _ _ (ne_of_types hr h.mt (by decide)).symm).trans h.mt, own_set hr (by decide) h.mrow i u, h.below.setCell (p := ⟨pr, i, none⟩) hpr _, h.lo⟩
theorem phase1_at_end {ml n : Nat} {m : Nat → Int} {k : Nat} {s : Sp} {l : List Rc} (h : Phase1 ml m n k s l) (hs : s.sealed = true) : k = n + 1 ∧ Shut ml m n s ∧ l = all ml m n := by
  rcases h with ⟨hf, _⟩ | h
  · rw [hf.clean.sealed] at hs; cases hs
  · exact h
theorem rcCells_get (L : List Rc) (k : Nat) (hk : k < L.length) : (rcCells L)[k * 3]? = some (.int .i64 L[k].k) ∧ (rcCells L)[k * 3 + 1]? = some (.int .i64 L[k].a) ∧ (rcCells L)[k * 3 + 2]? = some (.int .i64 L[k].b) := by
  induction L generalizing k with
  | nil => simp at hk
  | cons r L ih =>
    cases k with
    | zero => exact ⟨rfl, rfl, rfl⟩
    | succ k =>
      have h := ih k (by simpa using hk)
      have e : ∀ i, (rcCells (r :: L))[(k + 1) * 3 + i]? = (rcCells L)[k * 3 + i]? := fun i => by
        simp only [rcCells, List.flatMap_cons]
        rw [List.getElem?_append_right (by simp; omega)]
        congr 1
        simp; omega
      exact ⟨(e 0).trans h.1, (e 1).trans h.2.1, (e 2).trans h.2.2⟩
/-- Replay of the first records of a run, as the walk meets it. -/
theorem replay_at {ml n : Nat} {m : Nat → Int} (W : World) (base c cap : Nat) (q : Option Addr) (L : List Rc) (hn : n ≤ 5) (hL : L.length ≤ 11) (hp : ∃ y, L ++ y = all ml m n) (hown : W.ownsRow base 38 3 (.slice q L.length cap) L.length (rcCells L)) :
    Calls Tryz.prog 13 #[.int .i64 n, .slice q L.length cap] W fun e w' => ∃ d1 d2 d3 s0, e = .returned (.tuple #[spV n d1 d2 d3 s0, .int .i64 L.length]) ∧ SpIn w' n d1 d2 d3 s0 ∧ Met ml m n s0 ∧ Below W.heap.size W w' := by
  obtain ⟨y, hy⟩ := hp
  obtain ⟨s0, hr, hmet⟩ := all_met hy
  obtain ⟨f, h0, h1, h2⟩ := hr.path
  have key : ∃ lb, (0 < L.length → q = some ⟨lb, 0, none⟩) ∧ (0 < L.length → lb < W.heap.size) ∧ ∀ k, k < L.length → W.cell? ⟨lb, k * 3, none⟩ = some (.int .i64 (L.getD k ⟨0, 0, 0⟩).k) ∧ W.cell? ⟨lb, k * 3 + 1, none⟩ = some (.int .i64 (L.getD k ⟨0, 0, 0⟩).a) ∧ W.cell? ⟨lb, k * 3 + 2, none⟩ = some (.int .i64 (L.getD k ⟨0, 0, 0⟩).b) := by
    rcases hown.2 with ⟨_, h⟩ | ⟨g, cap', cur, h3, h4, h5, _⟩
    · exact ⟨0, fun h' => by omega, fun h' => by omega, fun k hk => by omega⟩
    · have e : q = some ⟨g, 0, none⟩ := by cases h3; rfl
      subst e
      refine ⟨g, fun _ => rfl, fun _ => (Array.getElem?_eq_some_iff.1 h5).1, fun k hk => ?_⟩
      obtain ⟨a1, a2, a3⟩ := rcCells_get L k hk
      have e : L.getD k ⟨0, 0, 0⟩ = L[k] := by rw [List.getD_eq_getElem?_getD, List.getElem?_eq_getElem hk]; rfl
      rw [e]
      have hh := hown
      cases h3
      exact ⟨(hh.cellAt _ (by omega)).trans a1, (hh.cellAt _ (by omega)).trans a2, (hh.cellAt _ (by omega)).trans a3⟩
  obtain ⟨lb, k1, k2, k3⟩ := key
  refine (replay_walk W n L.length cap lb q k1 f (fun k => L.getD k ⟨0, 0, 0⟩) (by omega) (by omega) (fun W => new_walk W n (by omega)) h0 (fun k hk => ?_) k2 k3).mono ?_
  · have e : L.getD k ⟨0, 0, 0⟩ = L[k] := by rw [List.getD_eq_getElem?_getD, List.getElem?_eq_getElem hk]; rfl
    rw [e]
    exact h2 k hk
  · rintro e w' ⟨d1, d2, d3, rfl, g1, _, _, _, g5⟩
    rw [h1] at g1 ⊢
    exact ⟨d1, d2, d3, s0, rfl, g1, hmet, g5⟩
/-- Read of a part of a whole run's journal, as the walk meets it. -/
theorem read_at {ml n : Nat} {m : Nat → Int} (w W : World) (g len c mL : Nat) (hn : n ≤ 5) (hm : ∀ k, k < ml → -1 ≤ m k ∧ m k ≤ 4) (hlen : len = 11 * (all ml m n).length) (hl : (all ml m n).length ≤ 11) (hc : c ≤ len) (hmL : mL = c / 11) (hw : w.heap.size ≤ W.heap.size)
    (hown : W.ownsRow w.heap.size 5 1 (.slice (some ⟨g, 0, none⟩) len len) len ((encAll 0 (all ml m n)).map (Value.int .u8))) :
    Calls Tryz.prog 12 #[.slice (some ⟨g, 0, none⟩) c len] W fun e w' => ∃ ql cq, e = .returned (.tuple #[.slice ql mL cq, .int .i64 (mL * 11 : Nat)]) ∧ w'.ownsRow W.heap.size 38 3 (.slice ql mL cq) mL (rcCells ((all ml m n).take mL)) ∧ Below W.heap.size W w' := by
  have e : ((all ml m n).take mL).length = mL := by rw [List.length_take]; omega
  have h := read_walk W g c len ((all ml m n).take (c / 11)) (hown.lt g rfl).2 (dec_says W g len w.heap.size len c (all ml m n) hlen (by omega) (all_tab hn hm) hc (by omega) (Nat.le_refl _) hown) (by rw [← hmL, e]) hc (by omega)
  rw [← hmL, e] at h
  refine h.mono ?_
  rintro e w' ⟨v, rfl, h1, h2⟩
  obtain ⟨ql, cq, rfl⟩ := ownsRow_form h1
  exact ⟨ql, cq, rfl, h1, h2⟩
theorem replay_m {ml n : Nat} {m : Nat → Int} (W : World) (base cap mL : Nat) (q : Option Addr) (hn : n ≤ 5) (hl : (all ml m n).length ≤ 11) (hmL : mL ≤ (all ml m n).length) (hown : W.ownsRow base 38 3 (.slice q mL cap) mL (rcCells ((all ml m n).take mL))) :
    Calls Tryz.prog 13 #[.int .i64 n, .slice q mL cap] W fun e w' => ∃ d1 d2 d3 s0, e = .returned (.tuple #[.agg #[.slice (some ⟨d1, 0, none⟩) n n, .slice (some ⟨d2, 0, none⟩) n n, .slice (some ⟨d3, 0, none⟩) n n, .int .i64 s0.now, .bool s0.sealed], .int .i64 mL]) ∧ SpIn w' n d1 d2 d3 s0 ∧ Met ml m n s0 ∧ Below W.heap.size W w' := by
  have e : ((all ml m n).take mL).length = mL := by rw [List.length_take]; omega
  have h := replay_at W base 0 cap q ((all ml m n).take mL) hn (by omega) ⟨(all ml m n).drop mL, List.take_append_drop _ _⟩ (by rw [e]; exact hown)
  rw [e] at h
  exact h
/-- What the second run leaves alone: the spool of the first, and the copy of the state that it began with. -/
structure Old (W : World) (p9 p18 p16 n : Nat) (s : Sp) (e1 e2 e3 : Nat) (s0 : Sp) (a1 a2 a3 : Nat) : Prop where
  sp9 : W.heap[p9]? = some (spO n e1 e2 e3 s)
  r9 : SpIn W n e1 e2 e3 s
  sp18 : W.heap[p18]? = some (spO n a1 a2 a3 s0)
  r18 : SpIn W n a1 a2 a3 s0
  n9 : p9 ≠ p16
  n18 : p18 ≠ p16
theorem Old.next {W W' : World} {p9 p18 p16 n e1 e2 e3 a1 a2 a3 : Nat} {s s0 : Sp} (h : Old W p9 p18 p16 n s e1 e2 e3 s0 a1 a2 a3) (hb : Below W.heap.size W W') : Old W' p9 p18 p16 n s e1 e2 e3 s0 a1 a2 a3 :=
  ⟨blk_next h.sp9 hb, h.r9.next hb, blk_next h.sp18 hb, h.r18.next hb, h.n9, h.n18⟩
theorem Old.alloc {W : World} {p9 p18 p16 n e1 e2 e3 a1 a2 a3 : Nat} {s s0 : Sp} (h : Old W p9 p18 p16 n s e1 e2 e3 s0 a1 a2 a3) (o : Obj) : Old (W.alloc o) p9 p18 p16 n s e1 e2 e3 s0 a1 a2 a3 := h.next ((Below.refl _ W).alloc (Nat.le_refl _) o)
theorem Old.put {W : World} {p9 p18 p16 n e1 e2 e3 a1 a2 a3 d1 d2 d3 f1 f2 f3 : Nat} {s s0 t t' : Sp} (h : Old W p9 p18 p16 n s e1 e2 e3 s0 a1 a2 a3) (hp : W.heap[p16]? = some (spO n d1 d2 d3 t)) : Old (put5 W p16 n f1 f2 f3 t') p9 p18 p16 n s e1 e2 e3 s0 a1 a2 a3 :=
  ⟨(put5_other h.n9).trans h.sp9, put5_rows hp h.r9, (put5_other h.n18).trans h.sp18, put5_rows hp h.r18, h.n9, h.n18⟩
theorem SpIn.setRc {W : World} {n d1 d2 d3 pr : Nat} {s : Sp} {c : Array Value} (h : SpIn W n d1 d2 d3 s) (hr : W.heap[pr]? = some (.cells c 38 (0, 0))) (i : Nat) (u : Value) : SpIn (W.setCell ⟨pr, i, none⟩ u) n d1 d2 d3 s :=
  ⟨h.tries.setOther (row_ne hr h.tries (by decide)).symm _, h.done.setOther (row_ne hr h.done (by decide)).symm _, h.taken.setOther (row_ne hr h.taken (by decide)).symm _, h.h12, h.h13, h.h23⟩
theorem Old.setRc {W : World} {p9 p18 p16 n e1 e2 e3 a1 a2 a3 pr : Nat} {s s0 : Sp} {c : Array Value} (h : Old W p9 p18 p16 n s e1 e2 e3 s0 a1 a2 a3) (hr : W.heap[pr]? = some (.cells c 38 (0, 0))) (i : Nat) (u : Value) : Old (W.setCell ⟨pr, i, none⟩ u) p9 p18 p16 n s e1 e2 e3 s0 a1 a2 a3 :=
  ⟨(blk_setCell_other _ _ _ _ (ne_of_types hr h.sp9 (by decide)).symm).trans h.sp9, h.r9.setRc hr i u, (blk_setCell_other _ _ _ _ (ne_of_types hr h.sp18 (by decide)).symm).trans h.sp18, h.r18.setRc hr i u, h.n9, h.n18⟩
/-- The second loop's relation. -/
def Loop2 (w wr : World) (p7 p16 p9 p18 n ml mc : Nat) (q : Option Addr) (f : Nat → Int) (s : Sp) (e1 e2 e3 : Nat) (s0 : Sp) (a1 a2 a3 : Nat) (i : Value) : Prop :=
  ∃ (k b1 b2 b3 : Nat) (t : Sp), i = .int .i64 k ∧ St w wr p7 p16 n ml mc q f t b1 b2 b3 ∧ Phase2 ml (mOf f) n s0 k t ∧ Old wr p9 p18 p16 n s e1 e2 e3 s0 a1 a2 a3
end Go.Proofs.YtndjhcmgngnfbaaGreatDoor
