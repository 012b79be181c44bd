/- What the evaluator answers, the model's machine comes to, on every tape. Second part: open orders, statements, calls. No condition. -/
import Derived.Test.YtndjhcmgngnfbaaGreatDoorAmP
set_option linter.unusedSimpArgs false
set_option linter.unusedVariables false
set_option linter.all false
namespace Go.Proofs.YtndjhcmgngnfbaaGreatDoor.AM
open Go Go.RowKit
section
variable {E : Env} {G : List Nat} {N : Nat} {w0 : World}
/-! ### Open orders -/
theorem drawOps_ran {r : Recs} (hl : RLocal r) {ops : Array Oper} : ∀ (l : List Nat) (a a' : Act) (s s' : St) (L : List Rc), drawOps E G r ops l a s = some ((a', L), s') → Ran (valOp E G r ops) (dstOf ops) L a s.h a' s'.h ∧ L.map (·.i) = l := by
  intro l
  induction l with
  | nil => intro a a' s s' L h; cases h; exact ⟨.nil a s.h, rfl⟩
  | cons i l ih =>
    intro a a' s s' L h
    simp only [drawOps] at h
    obtain ⟨c, s1, h1, h⟩ := bind_some h
    obtain ⟨p, s2, h2, h⟩ := bind_some h
    cases h
    unfold logged at h1
    cases hv : valOp E G r ops i a ⟨s.h, s.nx, [], []⟩ with
    | none => rw [hv] at h1; cases h1
    | some q =>
      obtain ⟨v, t⟩ := q
      rw [hv] at h1
      cases h1
      obtain ⟨R, W, hd⟩ := valOp_local hl ops i a _ _ _ hv
      have hrd := hd.rd
      have hwr := hd.wr
      simp only [List.append_nil] at hrd hwr
      obtain ⟨g1, g2⟩ := ih _ _ _ _ _ h2
      refine ⟨.cons ⟨i, s.nx, t.nx, t.rd, t.wr, v⟩ p.2 a p.1 s.h t.h s'.h ⟨t, hv, rfl, rfl, by rw [hrd, hwr]; exact hd⟩ g1, by simp [g2]⟩
theorem locEq_iff {a b : Loc} : locEq a b = true ↔ a = b := by
  obtain ⟨a1, a2⟩ := a
  obtain ⟨b1, b2⟩ := b
  simp only [locEq, Bool.and_eq_true, Prod.mk.injEq]
  exact ⟨fun h => ⟨Nat.eq_of_beq_eq_true h.1, Nat.eq_of_beq_eq_true h.2⟩, fun h => ⟨beq_true h.1, beq_true h.2⟩⟩
theorem locIn_false {l : Loc} {L : List Loc} (h : locIn l L = false) : l ∉ L := by
  intro hm
  have : locIn l L = true := by
    unfold locIn
    rw [List.any_eq_true]
    exact ⟨l, hm, locEq_iff.2 rfl⟩
  rw [h] at this
  cases this
theorem locFar_spec {n0 n1 : Nat} {L : List Loc} (h : locFar n0 n1 L = true) : ∀ l ∈ L, ¬ (n0 ≤ l.1 ∧ l.1 < n1) := by
  intro l hl hh
  unfold locFar at h
  rw [Bool.or_eq_true] at h
  rcases h with h | h
  · have := Nat.eq_of_beq_eq_true h; omega
  · rw [List.all_eq_true] at h
    have := h l hl
    simp only [Bool.not_eq_true', Bool.and_eq_false_iff] at this
    rcases this with h1 | h1
    · rw [Nat.ble_eq_true_of_le hh.1] at h1; cases h1
    · have : Nat.blt l.1 n1 = true := by rw [Nat.blt_eq]; exact hh.2
      rw [this] at h1; cases h1
theorem tmpFree_spec {d : Option Tmp} {L : List Tmp} (h : tmpFree d L = true) : ∀ t, d = some t → t ∉ L := by
  rintro t rfl hm
  simp only [tmpFree, Bool.not_eq_true'] at h
  have : tmpIn t L = true := by
    unfold tmpIn
    rw [List.any_eq_true]
    exact ⟨t, hm, Nat.beq_refl t⟩
  rw [h] at this
  cases this
theorem indB_spec {ops : Array Oper} {x y : Rc} (h : indB ops x y = true) : Ind (usesOf ops) (dstOf ops) x y := by
  simp only [indB, Bool.and_eq_true, List.all_eq_true, Bool.not_eq_true', Nat.ble_eq] at h
  obtain ⟨⟨⟨⟨⟨⟨⟨⟨⟨h1, h2⟩, h3⟩, h4⟩, h5⟩, h6⟩, h7⟩, h8⟩, h9⟩, h10⟩ := h
  refine ⟨fun l hl => ⟨locIn_false (h1 l hl).1, locIn_false (h1 l hl).2⟩, fun l hl => locIn_false (h2 l hl), ?_, ?_, h7, ?_, tmpFree_spec h10⟩
  · rintro l (hl | hl)
    · exact locFar_spec h3 l hl
    · exact locFar_spec h4 l hl
  · rintro l (hl | hl)
    · exact locFar_spec h5 l hl
    · exact locFar_spec h6 l hl
  · intro d hd
    refine ⟨tmpFree_spec h8 d hd, fun he => ?_⟩
    rw [hd, he] at h9
    simp [dstDiffer] at h9
def Inc : List Rc → Prop
  | [] => True
  | x :: L => (∀ y ∈ L, x.i < y.i) ∧ Inc L
theorem allInd_spec {ops : Array Oper} {ms : List Nat} : ∀ {L1 : List Rc} {x : Rc} {L2 : List Rc}, allInd ops ms (L1 ++ x :: L2) = true → ∀ y ∈ L1, Nat.testBit (ms.getD x.i 0) y.i = true ∨ indB ops y x = true
  | [], _, _, _, y, hy => by cases hy
  | z :: L1, x, L2, h, y, hy => by
    simp only [List.cons_append, allInd, Bool.and_eq_true, List.all_eq_true] at h
    rcases List.mem_cons.1 hy with rfl | hy
    · have := h.1 x (by simp)
      rwa [Bool.or_eq_true] at this
    · exact allInd_spec h.2 y hy
theorem allInd_drop {ops : Array Oper} {ms : List Nat} : ∀ {L1 : List Rc} {x : Rc} {L2 : List Rc}, allInd ops ms (L1 ++ x :: L2) = true → allInd ops ms (L1 ++ L2) = true
  | [], _, _, h => by simp only [List.nil_append, allInd, Bool.and_eq_true] at h ⊢; exact h.2
  | z :: L1, x, L2, h => by
    simp only [List.cons_append, allInd, Bool.and_eq_true, List.all_eq_true] at h ⊢
    refine ⟨fun y hy => h.1 y ?_, allInd_drop h.2⟩
    simp at hy ⊢
    rcases hy with hy | hy
    · exact .inl hy
    · exact .inr (.inr hy)
theorem Inc.drop : ∀ {L1 : List Rc} {x : Rc} {L2 : List Rc}, Inc (L1 ++ x :: L2) → Inc (L1 ++ L2)
  | [], _, _, h => h.2
  | z :: L1, x, L2, h => ⟨fun y hy => h.1 y (by simp at hy ⊢; rcases hy with hy | hy; exact .inl hy; exact .inr (.inr hy)), Inc.drop h.2⟩
theorem Inc.lt : ∀ {L1 : List Rc} {x : Rc} {L2 : List Rc}, Inc (L1 ++ x :: L2) → (∀ y ∈ L1, y.i < x.i) ∧ (∀ y ∈ L2, x.i < y.i)
  | [], _, _, h => ⟨fun y hy => (by cases hy), h.1⟩
  | z :: L1, x, L2, h => ⟨fun y hy => by
      rcases List.mem_cons.1 hy with rfl | hy
      · exact h.1 x (by simp)
      · exact (Inc.lt h.2).1 y hy, (Inc.lt h.2).2⟩
theorem edges_spec {ops : Array Oper} (h : edgesOk ops = true) {i : Nat} {o : Oper} (ho : ops[i]? = some o) : ∀ e ∈ o.after.toList, Region.binds .any e = true → e.on < i := by
  intro e he hb
  unfold edgesOk at h
  rw [List.all_eq_true] at h
  have := h (o, i) (by
    rw [List.mem_zipIdx_iff_getElem?]
    simpa using ho)
  rw [List.all_eq_true] at this
  have := this e he
  rw [hb] at this
  simpa [Nat.blt_eq] using this
theorem ready_mem {ops : Array Oper} {listed : Array Bool} {i : Nat} : i ∈ Region.ready .any ops listed ↔ i < ops.size ∧ listed.getD i true = false ∧ ∃ o, ops[i]? = some o ∧ ∀ e ∈ o.after.toList, Region.binds .any e = true → listed.getD e.on false = true := by
  unfold Region.ready
  rw [List.mem_filter, List.mem_range]
  constructor
  · rintro ⟨h1, h2⟩
    rw [Bool.and_eq_true] at h2
    obtain ⟨h2, h3⟩ := h2
    have ho : ops[i]? = some ops[i] := by simp [h1]
    rw [ho] at h3
    refine ⟨h1, by simpa using h2, ops[i], ho, fun e he hb => ?_⟩
    simp only [Option.map_some, Option.getD_some, Array.all_eq_true'] at h3
    have := h3 e (by simpa using he)
    rw [hb] at this
    simpa using this
  · rintro ⟨h1, h2, o, ho, h3⟩
    refine ⟨h1, ?_⟩
    rw [Bool.and_eq_true]
    refine ⟨by simpa using h2, ?_⟩
    rw [ho]
    simp only [Option.map_some, Option.getD_some, Array.all_eq_true']
    intro e he
    cases hb : Region.binds .any e with
    | false => rfl
    | true => simpa using h3 e (by simpa using he) hb
theorem any_sound (hE : EnvOk E) {n : Nat} {r : Recs} (hr : RSound E G N w0 n r) (hl : RLocal r) {ops : Array Oper} (hed : edgesOk ops = true) {inR : Option Nat} {F : Fence} {μ0 : Mp} {aF : Act} {hF : Tr Blk} (hG : GlobOk G μ0) :
    ∀ (fuel : Nat) (L : List Rc) (listed : Array Bool) (a b : Act) (h h' : Tr Blk) (μ : Mp) (w : World), L.length = fuel → listed.size = ops.size → Ran (valOp E G r ops) (dstOf ops) L a h aF h' → (∀ l, look h' l = look hF l) →
      (∀ i, i < ops.size → (listed.getD i true = false ↔ ∃ x ∈ L, x.i = i)) → (∀ x ∈ L, x.i < ops.size) → Inc L → allInd ops (masks ops) L = true →
      (∀ i o, listed.getD i false = true → ops[i]? = some o → ∀ e ∈ o.after.toList, Region.binds .any e = true → listed.getD e.on false = true) →
      Ext μ0 μ → FenceR inR μ F → SR μ N w0 h w → ActR μ a b → wpAnyIn F 0 E.P .any ops (CPost N w0 μ0 .normal aF hF) fuel listed b w := by
  intro fuel
  induction fuel with
  | zero =>
    intro L listed a b h h' μ w hlen hsz hran hlook hlist hlt hinc hind hcl hx hF' hs ha
    have hL : L = [] := List.length_eq_zero_iff.1 hlen
    subst hL
    cases hran
    refine ⟨?_, rfl, μ, hx, hs.of_get fun k => (look_ext hlook k).symm, ha⟩
    rw [List.eq_nil_iff_forall_not_mem]
    intro i hi
    obtain ⟨h1, h2, _⟩ := ready_mem.1 hi
    obtain ⟨x, hx, _⟩ := (hlist i h1).1 h2
    cases hx
  | succ fuel ih =>
    intro L listed a b h h' μ w hlen hsz hran hlook hlist hlt hinc hind hcl hx hF' hs ha
    have getDD : ∀ k, k < ops.size → listed.getD k true = listed.getD k false := by
      intro k hk
      simp only [Array.getD_eq_getD_getElem?]
      rw [Array.getElem?_eq_getElem (by omega)]
      rfl
    refine ⟨fun hrd => ?_, fun i hi => ?_⟩
    · -- the first of those that remain is ready
      exfalso
      cases L with
      | nil => simp at hlen
      | cons x L =>
        have hxl := hlt x (by simp)
        have hmem : x.i ∈ Region.ready .any ops listed := by
          refine ready_mem.2 ⟨hxl, (hlist x.i hxl).2 ⟨x, by simp, rfl⟩, ops[x.i], by simp [hxl], fun e he hb => ?_⟩
          have hlt2 := edges_spec hed (i := x.i) (o := ops[x.i]) (by simp [hxl]) e he hb
          rw [← getDD e.on (by omega)]
          cases hq : listed.getD e.on true with
          | true => rfl
          | false =>
            obtain ⟨y, hy, hyi⟩ := (hlist e.on (by omega)).1 hq
            rcases List.mem_cons.1 hy with rfl | hy
            · omega
            · have := hinc.1 y hy; omega
        rw [hrd] at hmem
        cases hmem
    · obtain ⟨hil, hi2, o, ho, hdir⟩ := ready_mem.1 hi
      obtain ⟨x, hxm, hxi⟩ := (hlist i hil).1 hi2
      subst hxi
      obtain ⟨L1, L2, rfl⟩ := List.append_of_mem hxm
      have hlt12 := hinc.lt
      have hindp : ∀ y ∈ L1, Ind (usesOf ops) (dstOf ops) y x := by
        intro y hy
        rcases allInd_spec hind y hy with hb | hb
        · exfalso
          have hdone := masks_done (ops := ops) (done := fun k => listed.getD k false = true) (fun i o h1 h2 => hcl i o h1 h2) x.i o y.i ho hdir hb
          have hyl := hlt y (by simp [hy])
          have hq := (hlist y.i hyl).2 ⟨y, by simp [hy], rfl⟩
          rw [getDD y.i hyl] at hq
          rw [hdone] at hq; cases hq
        · exact indB_spec hb
      obtain ⟨g', hran2, hlook2⟩ := hran.first (uses := usesOf ops) (fun i a => valOp_local hl ops i a) (fun i a b => valOp_congr ops i a b) hindp
      cases hran2 with
      | cons _ _ _ _ _ h1 _ he hran3 =>
        obtain ⟨s', hv, hh, _, _⟩ := he
        refine step_sound hE hr hv hF' (by exact hs) (hG.ext hx) ha fun ν b' w' hxν hs' ha' => ?_
        rw [hh] at hs'
        refine ih (L1 ++ L2) (listed.setIfInBounds x.i true) _ b' h1 g' ν w' (by simp at hlen ⊢; omega) (by simpa using hsz) hran3 (fun l => (hlook2 l).trans (hlook l)) ?_ (fun y hy => hlt y (by simp at hy ⊢; rcases hy with hy | hy; exact .inl hy; exact .inr (.inr hy))) hinc.drop (allInd_drop hind) ?_ (hx.trans hxν) (hF'.ext hxν) hs' ha'
        · intro k hk
          by_cases hkx : k = x.i
          · subst hkx
            have : (listed.setIfInBounds x.i true).getD x.i true = true := by
              simp only [Array.getD_eq_getD_getElem?]
              rw [Array.getElem?_setIfInBounds_self_of_lt (by omega)]; rfl
            rw [this]
            refine ⟨fun hh => (by cases hh), ?_⟩
            rintro ⟨y, hy, hyi⟩
            simp at hy
            rcases hy with hy | hy
            · have := hlt12.1 y hy; omega
            · have := hlt12.2 y hy; omega
          · have : (listed.setIfInBounds x.i true).getD k true = listed.getD k true := by
              simp only [Array.getD_eq_getD_getElem?]
              rw [Array.getElem?_setIfInBounds_ne (Ne.symm hkx)]
            rw [this, hlist k hk]
            constructor
            · rintro ⟨y, hy, hyi⟩
              simp at hy
              rcases hy with hy | rfl | hy
              · exact ⟨y, by simp [hy], hyi⟩
              · exact absurd hyi.symm hkx
              · exact ⟨y, by simp [hy], hyi⟩
            · rintro ⟨y, hy, hyi⟩
              refine ⟨y, ?_, hyi⟩
              simp at hy ⊢
              rcases hy with hy | hy
              · exact .inl hy
              · exact .inr (.inr hy)
        · have up : ∀ k, listed.getD k false = true → (listed.setIfInBounds x.i true).getD k false = true := by
            intro k hk
            by_cases hkx : k = x.i
            · subst hkx
              simp only [Array.getD_eq_getD_getElem?]
              rw [Array.getElem?_setIfInBounds_self_of_lt (by omega)]; rfl
            · simp only [Array.getD_eq_getD_getElem?] at hk ⊢
              rw [Array.getElem?_setIfInBounds_ne (Ne.symm hkx)]; exact hk
          intro k o' hk ho' e he hb
          refine up _ ?_
          by_cases hkx : k = x.i
          · subst hkx
            rw [ho] at ho'; cases ho'
            exact hdir e he hb
          · refine hcl k o' ?_ ho' e he hb
            simp only [Array.getD_eq_getD_getElem?] at hk ⊢
            rwa [Array.getElem?_setIfInBounds_ne (Ne.symm hkx)] at hk
theorem inc_range : ∀ (L : List Rc) (k : Nat), L.map (·.i) = List.range' k L.length → Inc L
  | [], _, _ => trivial
  | x :: L, k, h => by
    simp only [List.map_cons, List.length_cons, List.range'_succ, List.cons.injEq] at h
    refine ⟨fun y hy => ?_, inc_range L (k + 1) h.2⟩
    have : y.i ∈ L.map (·.i) := List.mem_map.2 ⟨y, hy, rfl⟩
    rw [h.2, List.mem_range'_1] at this
    omega
theorem draw_sound (hE : EnvOk E) {n : Nat} {r : Recs} (hr : RSound E G N w0 n r) (hl : RLocal r) {ops : Array Oper} {id : Nat} {inR : Option Nat} {F : Fence} {a b a' : Act} {e : Exit} {s s' : St} {μ : Mp} {w : World} (h : drawM E G r ops a s = some ((e, a'), s')) (hF : FenceR inR μ F) (hs : SR μ N w0 s.h w) (hG : GlobOk G μ) (ha : ActR μ a b) :
    (Code.region id ops true).wpIn F 0 E.P (CPost N w0 μ e a' s'.h) b w := by
  unfold drawM at h
  cases hg : noDefer ops && edgesOk ops with
  | false => rw [hg] at h; cases h
  | true =>
    rw [hg, cond_true] at h
    simp only [Bool.and_eq_true] at hg
    obtain ⟨⟨a1, L⟩, s1, h1, h⟩ := bind_some h
    cases hi : allInd ops (masks ops) L with
    | false => simp only [hi] at h; cases h
    | true =>
      simp only [hi, cond_true] at h
      cases h
      obtain ⟨hran, hmap⟩ := drawOps_ran hl _ _ _ _ _ _ h1
      have hlen : L.length = ops.size := by have := congrArg List.length hmap; simpa using this
      have hmem : ∀ i, i < ops.size ↔ ∃ x ∈ L, x.i = i := by
        intro i
        have : i ∈ L.map (·.i) ↔ i < ops.size := by rw [hmap, List.mem_range]
        rw [← this, List.mem_map]
      refine wpIn_region_any hE.mixed ?_
      refine any_sound hE hr hl hg.2 hG ops.size L (Array.replicate ops.size false) a b s.h s'.h μ _ hlen (by simp) hran (fun _ => rfl) ?_ (fun x hx => (hmem x.i).2 ⟨x, hx, rfl⟩) (inc_range L 0 (by rw [hmap, hlen, List.range_eq_range'])) hi ?_ (.refl _) hF (hs.drew _) ha
      · intro i hil
        refine ⟨fun _ => (hmem i).1 hil, fun _ => ?_⟩
        simp [Array.getD_eq_getD_getElem?, hil]
      · intro i o hf
        exfalso
        simp only [Array.getD_eq_getD_getElem?] at hf
        by_cases hil : i < ops.size
        · rw [Array.getElem?_eq_getElem (by simpa using hil)] at hf; simp at hf
        · rw [Array.getElem?_eq_none (by simpa using hil)] at hf; simp at hf
end
end Go.Proofs.YtndjhcmgngnfbaaGreatDoor.AM
