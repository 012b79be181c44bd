/- The encoder of records at all records that occur. No condition. -/
import Derived.Test.YtndjhcmgngnfbaaGreatDoorEn0
import Derived.Test.YtndjhcmgngnfbaaGreatDoorEn1
import Derived.Test.YtndjhcmgngnfbaaGreatDoorEn2
import Derived.Test.YtndjhcmgngnfbaaGreatDoorEn3
import Derived.Test.YtndjhcmgngnfbaaGreatDoorEn4
import Derived.Test.YtndjhcmgngnfbaaGreatDoorEn5
import Derived.Test.YtndjhcmgngnfbaaGreatDoorWa
import Derived.Test.YtndjhcmgngnfbaaGreatDoorEql
import Derived.Test.YtndjhcmgngnfbaaGreatDoorRgt
import Derived.Test.YtndjhcmgngnfbaaGreatDoorNxt
set_option linter.unusedSimpArgs false
set_option linter.unusedVariables false
set_option linter.all false
section
namespace Go.Proofs.YtndjhcmgngnfbaaGreatDoor
open Go Go.RowKit Go.Proofs.YtndjhcmgngnfbaaGreatDoor.AM
def encTab : List (Int × Int × Int × Int) := encTab0 ++ encTab1 ++ encTab2 ++ encTab3 ++ encTab4 ++ encTab5
theorem encChk_calls {x : Int × Int × Int × Int} (h : encChk x = true) (hp : plain (encVal x) = true) (ha : (encArgs x).toList.all plain = true) (W : World) :
    Calls Tryz.prog 27 (encArgs x) W fun e w' => e = .returned (encVal x) ∧ Below W.heap.size W w' := by
  exact closed_none h hp ha W
theorem enc_plain (x : Int × Int × Int × Int) : plain (encVal x) = true := rfl
theorem encArgs_plain (x : Int × Int × Int × Int) : (encArgs x).toList.all plain = true := rfl
theorem encode_calls (x : Int × Int × Int × Int) (hx : x ∈ encTab) (W : World) :
    Calls Tryz.prog 27 (encArgs x) W fun e w' => e = .returned (encVal x) ∧ Below W.heap.size W w' := by
  refine encChk_calls ?_ (enc_plain x) (encArgs_plain x) W
  have hall : encTab.all encChk = true := by
    simp only [encTab, List.all_append, encTab0_ok, encTab1_ok, encTab2_ok, encTab3_ok, encTab4_ok, encTab5_ok, Bool.and_self]
  exact List.all_eq_true.1 hall x hx
end Go.Proofs.YtndjhcmgngnfbaaGreatDoor
end
/- The records of a run are among those at which the encoder has been carried out; Put and decode at them. No condition but that there are at most five jobs, of small matches. -/
section
namespace Go.Proofs.YtndjhcmgngnfbaaGreatDoor
open Go Go.RowKit Go.Deep
def InTab (i : Nat) (r : Rc) : Prop := ((i : Int), r.k, r.a, r.b) ∈ encTab
theorem tabB_reused : ((List.range 5).all fun j => (List.range 11).all fun i => (List.range 5).all fun c => !(decide (j ≤ i ∧ i ≤ 2 * j)) || decide (((i : Int), (4 : Int), (j : Int), (c : Int)) ∈ encTab)) = true := by decide +kernel
theorem tabB_began : ((List.range 5).all fun j => (List.range 11).all fun i => !(decide (j ≤ i ∧ i ≤ 2 * j)) || decide (((i : Int), (1 : Int), (j : Int), (1 : Int)) ∈ encTab)) = true := by decide +kernel
theorem tabB_finished : ((List.range 5).all fun j => (List.range 11).all fun i => !(decide (j + 1 ≤ i ∧ i ≤ 2 * j + 1)) || decide (((i : Int), (2 : Int), (j : Int), (1 : Int)) ∈ encTab)) = true := by decide +kernel
theorem tab_reused (j : Nat) (hj : j < 5) (i : Nat) (hi : i < 11) (c : Nat) (hc : c < 5) (h1 : j ≤ i) (h2 : i ≤ 2 * j) : ((i : Int), (4 : Int), (j : Int), (c : Int)) ∈ encTab := by
  have := List.all_eq_true.1 (List.all_eq_true.1 (List.all_eq_true.1 tabB_reused j (by simpa using hj)) i (by simpa using hi)) c (by simpa using hc)
  rw [decide_eq_true ⟨h1, h2⟩] at this
  exact of_decide_eq_true (by simpa using this)
theorem tab_began (j : Nat) (hj : j < 5) (i : Nat) (hi : i < 11) (h1 : j ≤ i) (h2 : i ≤ 2 * j) : ((i : Int), (1 : Int), (j : Int), (1 : Int)) ∈ encTab := by
  have := List.all_eq_true.1 (List.all_eq_true.1 tabB_began j (by simpa using hj)) i (by simpa using hi)
  rw [decide_eq_true ⟨h1, h2⟩] at this
  exact of_decide_eq_true (by simpa using this)
theorem tab_finished (j : Nat) (hj : j < 5) (i : Nat) (hi : i < 11) (h1 : j + 1 ≤ i) (h2 : i ≤ 2 * j + 1) : ((i : Int), (2 : Int), (j : Int), (1 : Int)) ∈ encTab := by
  have := List.all_eq_true.1 (List.all_eq_true.1 tabB_finished j (by simpa using hj)) i (by simpa using hi)
  rw [decide_eq_true ⟨h1, h2⟩] at this
  exact of_decide_eq_true (by simpa using this)
theorem tab_sealed : ∀ i : Nat, i < 11 → ((i : Int), (5 : Int), (0 : Int), (0 : Int)) ∈ encTab := by decide +kernel
theorem tab_small : ∀ x ∈ encTab, (1 ≤ x.2.1 ∧ x.2.1 ≤ 5) ∧ (0 ≤ x.2.2.1 ∧ x.2.2.1 ≤ 5) ∧ (0 ≤ x.2.2.2 ∧ x.2.2.2 ≤ 5) := by decide +kernel
theorem InTab.small {i : Nat} {r : Rc} (h : InTab i r) : Small r := tab_small _ h
variable {ml n : Nat} {m : Nat → Int}
theorem recs_ge (j : Nat) : j ≤ (recs ml m n j).length := by
  induction j with
  | zero => simp
  | succ j ih =>
    unfold recs
    split <;> simp <;> omega
/-- The next record of a run is in the table. -/
theorem tab_next_reused {j : Nat} (hn : n ≤ 5) (hj : j < n) (hm : ∀ k, k < ml → -1 ≤ m k ∧ m k ≤ 4) (hs : serves ml m n j (tk ml m n j) = true) : InTab (recs ml m n j).length ⟨4, j, m j⟩ := by
  obtain ⟨h1, h2, _⟩ := of_decide_eq_true hs
  obtain ⟨_, h4⟩ := hm j h1
  have := tab_reused j (by omega) (recs ml m n j).length (by have := recs_length (ml := ml) (m := m) (n := n) j; omega) (m j).toNat (by omega) (recs_ge j) (recs_length j)
  rw [Int.toNat_of_nonneg h2] at this
  exact this
theorem tab_next_began {j : Nat} (hn : n ≤ 5) (hj : j < n) : InTab (recs ml m n j).length ⟨1, j, 1⟩ :=
  tab_began j (by omega) (recs ml m n j).length (by have := recs_length (ml := ml) (m := m) (n := n) j; omega) (recs_ge j) (recs_length j)
theorem tab_next_finished {j : Nat} (hn : n ≤ 5) (hj : j < n) : InTab ((recs ml m n j).length + 1) ⟨2, j, 1⟩ :=
  tab_finished j (by omega) ((recs ml m n j).length + 1) (by have := recs_length (ml := ml) (m := m) (n := n) j; omega) (by have := recs_ge (ml := ml) (m := m) (n := n) j; omega) (by have := recs_length (ml := ml) (m := m) (n := n) j; omega)
theorem tab_next_sealed (hn : n ≤ 5) : InTab (recs ml m n n).length ⟨5, 0, 0⟩ :=
  tab_sealed (recs ml m n n).length (by have := recs_length (ml := ml) (m := m) (n := n) n; omega)
def AllTab (l : List Rc) : Prop := ∀ i (h : i < l.length), InTab i l[i]
theorem AllTab.snoc {l : List Rc} {r : Rc} (h : AllTab l) (hr : InTab l.length r) : AllTab (l ++ [r]) := by
  intro i hi
  rw [List.getElem_append]
  split
  · exact h i _
  · rename_i hge
    have e : i = l.length := by simp at hi; omega
    subst e
    simpa using hr
theorem AllTab.take {l : List Rc} (h : AllTab l) (k : Nat) : AllTab (l.take k) := by
  intro i hi
  rw [List.getElem_take]
  exact h i (by simp at hi; omega)
theorem recs_tab (hn : n ≤ 5) (hm : ∀ k, k < ml → -1 ≤ m k ∧ m k ≤ 4) (j : Nat) (hj : j ≤ n) : AllTab (recs ml m n j) := by
  induction j with
  | zero => intro i hi; simp [recs] at hi
  | succ j ih =>
    have h := ih (by omega)
    unfold recs
    split
    · rename_i hs
      exact h.snoc (tab_next_reused hn (by omega) hm hs)
    · have h2 := (h.snoc (tab_next_began hn (by omega))).snoc (r := ⟨2, j, 1⟩) (by have := tab_next_finished (ml := ml) (m := m) (n := n) hn (j := j) (by omega); simpa using this)
      simpa using h2
theorem all_tab (hn : n ≤ 5) (hm : ∀ k, k < ml → -1 ≤ m k ∧ m k ≤ 4) : AllTab (all ml m n) := (recs_tab hn hm n (Nat.le_refl _)).snoc (tab_next_sealed hn)
/-- The encoder at a record of the table, its eleven bytes written out. -/
theorem encode_rec {i : Nat} {r : Rc} (h : InTab i r) (W : World) :
    Calls Tryz.prog 27 #[.int .i64 i, .agg #[.int .i64 r.k, .int .i64 r.a, .int .i64 r.b]] W fun e w' => e = .returned (.agg ⟨(enc i r).map (Value.int .u8)⟩) ∧ Below W.heap.size W w' :=
  encode_calls ((i : Int), r.k, r.a, r.b) h W
end Go.Proofs.YtndjhcmgngnfbaaGreatDoor
end
/- Put and decode at the records of a run. No condition but that they are in the table. -/
section
namespace Go.Proofs.YtndjhcmgngnfbaaGreatDoor
open Go Go.RowKit Go.Deep
def rcA (r : Rc) : Value := .agg #[.int .i64 r.k, .int .i64 r.a, .int .i64 r.b]
theorem put_rec (w : World) (g cap B0 len : Nat) (l : List Rc) (r : Rc) (hlen : len = 11 * l.length) (hl : l.length ≤ 100) (hr : InTab l.length r)
    (hown : w.ownsRow B0 5 1 (.slice (some ⟨g, 0, none⟩) len cap) len ((encAll 0 l).map (Value.int .u8))) :
    Calls Tryz.prog 11 #[.slice (some ⟨g, 0, none⟩) len cap, rcA r] w fun e w' => ∃ g', e = .returned (.slice (some ⟨g', 0, none⟩) (len + 11) (len + 11)) ∧
      w'.ownsRow w.heap.size 5 1 (.slice (some ⟨g', 0, none⟩) (len + 11) (len + 11)) (len + 11) ((encAll 0 (l ++ [r])).map (Value.int .u8)) ∧ Below w.heap.size w w' := by
  have h := put_walk w g len cap B0 r.k r.a r.b (l.length : Nat) (r.k % 256) (r.a % 4294967296 / 16777216) (r.a % 4294967296 / 65536 % 256) (r.a % 4294967296 / 256 % 256) (r.a % 256)
    (r.b % 4294967296 / 16777216) (r.b % 4294967296 / 65536 % 256) (r.b % 4294967296 / 256 % 256) (r.b % 256) (crcOf (l.length : Nat) r / 256 % 256) (crcOf (l.length : Nat) r % 256) (by omega) (encAll 0 l) (by omega) hown
    (fun W => encode_rec hr W)
  refine h.mono ?_
  rintro e w' ⟨g', h1, h2, h3⟩
  refine ⟨g', h1, ?_, h3⟩
  rw [encAll_snoc]
  rw [show (((0 + l.length : Nat)) : Int) = ((l.length : Nat) : Int) by simp]
  exact h2
theorem dec_says (w : World) (g cap B0 len c : Nat) (l : List Rc) (hlen : len = 11 * l.length) (hl : l.length ≤ 100) (hr : AllTab l) (hc : c ≤ len) (hcap : cap ≤ 100000) (hcl : len ≤ cap)
    (hown : w.ownsRow B0 5 1 (.slice (some ⟨g, 0, none⟩) len cap) len ((encAll 0 l).map (Value.int .u8))) : DecSays w.heap.size g cap w (l.take (c / 11)) := by
  intro k hk W hW
  have hkl : k < l.length := by simp at hk; omega
  have hkc : k * 11 + 11 ≤ len := by omega
  rw [show (k + 1) * 11 - k * 11 = 11 by omega]
  have e : (l.take (c / 11))[k] = l[k] := List.getElem_take
  rw [e]
  have hs := (hr k hkl).small
  obtain ⟨⟨s1, s2⟩, ⟨s3, s4⟩, ⟨s5, s6⟩⟩ := hs
  have hgl : g < w.heap.size := (hown.lt g rfl).2
  have hkk : l[k].k % 256 = l[k].k := by omega
  refine decode_walk W (k : Nat) l[k].k l[k].a l[k].b (l[k].a % 4294967296 / 16777216) (l[k].a % 4294967296 / 65536 % 256) (l[k].a % 4294967296 / 256 % 256) (l[k].a % 256)
    (l[k].b % 4294967296 / 16777216) (l[k].b % 4294967296 / 65536 % 256) (l[k].b % 4294967296 / 256 % 256) (l[k].b % 256) (crcOf (k : Nat) l[k] / 256 % 256) (crcOf (k : Nat) l[k] % 256) g (k * 11) (cap - k * 11) (by omega) (by omega) (by omega)
    (Nat.lt_of_lt_of_le hgl hW.size) ⟨s1, s2⟩ (number4_small _ s3 s4) (number4_small _ s5 s6) s4 s6 ?_ ?_
  · intro j hj
    have h1 := encAll_getD 0 l k hkl j hj
    have h2 := hown.cellAt (k * 11 + j) (by omega)
    rw [hW.cell (p := ⟨g, k * 11 + j, none⟩) hgl, h2, List.getElem?_map]
    have hlt : k * 11 + j < (encAll 0 l).length := by rw [encAll_length]; omega
    rw [List.getElem?_eq_getElem hlt]
    have h3 : (encAll 0 l).getD (11 * k + j) 0 = (encAll 0 l)[k * 11 + j] := by
      rw [List.getD_eq_getElem?_getD, show 11 * k + j = k * 11 + j by omega, List.getElem?_eq_getElem hlt]; rfl
    rw [h3] at h1
    rw [h1, show (((0 + k : Nat)) : Int) = ((k : Nat) : Int) by simp]
    simp only [Option.map_some]
    congr 2
    show (enc (k : Nat) l[k]).getD j 0 = _
    have h4 : enc (k : Nat) l[k] = [l[k].k, (l[k].a % 4294967296 / 16777216), (l[k].a % 4294967296 / 65536 % 256), (l[k].a % 4294967296 / 256 % 256), (l[k].a % 256),
      (l[k].b % 4294967296 / 16777216), (l[k].b % 4294967296 / 65536 % 256), (l[k].b % 4294967296 / 256 % 256), (l[k].b % 256), (crcOf (k : Nat) l[k] / 256 % 256), (crcOf (k : Nat) l[k] % 256)] := by
      show [l[k].k % 256, _, _, _, _, _, _, _, _, _, _] = _
      rw [hkk]
    rw [h4]
  · intro W2
    have := encode_rec (hr k hkl) W2
    have h4 : enc (k : Nat) l[k] = [l[k].k, (l[k].a % 4294967296 / 16777216), (l[k].a % 4294967296 / 65536 % 256), (l[k].a % 4294967296 / 256 % 256), (l[k].a % 256),
      (l[k].b % 4294967296 / 16777216), (l[k].b % 4294967296 / 65536 % 256), (l[k].b % 4294967296 / 256 % 256), (l[k].b % 256), (crcOf (k : Nat) l[k] / 256 % 256), (crcOf (k : Nat) l[k] % 256)] := by
      show [l[k].k % 256, _, _, _, _, _, _, _, _, _, _] = _
      rw [hkk]
    rw [h4] at this
    exact this
end Go.Proofs.YtndjhcmgngnfbaaGreatDoor
end
/- What is next, and what a step leads to, round by round: of the first run and of the run that goes on from a part of the journal. No condition but that there are at most five jobs, of small matches. -/
section
namespace Go.Proofs.YtndjhcmgngnfbaaGreatDoor
open Go Go.RowKit Go.Deep
/-- The record that Next answers in the state s, wherever it lies. -/
def NextSays (n ml : Nat) (m : Nat → Int) (s : Sp) (r : Rc) : Prop := ∀ (W : World) (b1 b2 b3 mc mb : Nat) (q : Option Addr), SpIn W n b1 b2 b3 s → (0 < ml → q = some ⟨mb, 0, none⟩) → (∀ k, k < ml → W.cell? ⟨mb, k, none⟩ = some (.int .i64 (m k))) →
  Calls Tryz.prog 9 #[spV n b1 b2 b3 s, .agg #[.slice q ml mc, .int .i64 0]] W fun e w' => e = .returned (rcV r) ∧ Below W.heap.size W w'
variable {ml n : Nat} {m : Nat → Int}
theorem says_clean {j : Nat} {s : Sp} (hn : n ≤ 5) (hml : ml ≤ 1000) (hj : j < n) (hc : Clean ml m n j s) : NextSays n ml m s (if serves ml m n j (tk ml m n j) then ⟨4, j, m j⟩ else ⟨1, j, inc (s.tries j)⟩) :=
  fun W b1 b2 b3 mc mb q hR hq hm => next_clean W n b1 b2 b3 ml mc mb j q m 0 s (by omega) hml hR hq hm hj hc
theorem says_done {s : Sp} (hn : n ≤ 5) (hml : ml ≤ 1000) (hc : Clean ml m n n s) : NextSays n ml m s ⟨5, 0, 0⟩ :=
  fun W b1 b2 b3 mc mb q hR hq hm => next_done W n b1 b2 b3 ml mc mb 0 q m 0 s (by omega) hml hR hq hm (fun k hk => by rw [hc.done k hk]; simp [hk]) hc.sealed hc.now
theorem says_under {j : Nat} {s : Sp} (hn : n ≤ 5) (hml : ml ≤ 1000) (hc : Under ml m n j s) : NextSays n ml m s ⟨3, j, s.tries j⟩ :=
  fun W b1 b2 b3 mc mb q hR hq hm => next_under W n b1 b2 b3 ml mc mb j q m 0 s (by omega) hml hR hq hm hc.lt hc.sealed hc.now
/-- The first run, at the head of round k. -/
def Phase1 (ml : Nat) (m : Nat → Int) (n k : Nat) (s : Sp) (l : List Rc) : Prop := (First ml m n k s ∧ l = recs ml m n k) ∨ (k = n + 1 ∧ Shut ml m n s ∧ l = all ml m n)
theorem phase1_start : Phase1 ml m n 0 fresh [] := .inl ⟨⟨clean_fresh, fun _ _ => rfl⟩, rfl⟩
theorem phase1_next {k : Nat} {s : Sp} {l : List Rc} (hn : n ≤ 5) (hml : ml ≤ 1000) (hm : ∀ k, k < ml → -1 ≤ m k ∧ m k ≤ 4) (h : Phase1 ml m n k s l) (hs : s.sealed = false) :
    k ≤ n ∧ ((∃ r s', r.k ≠ 1 ∧ NextSays n ml m s r ∧ Goes n s r s' ∧ InTab l.length r ∧ Phase1 ml m n (k + 1) s' (l ++ [r])) ∨
    (∃ (j : Nat) (s' s'' : Sp), NextSays n ml m s ⟨1, j, 1⟩ ∧ Goes n s ⟨1, j, 1⟩ s' ∧ InTab l.length ⟨1, j, 1⟩ ∧ Goes n s' ⟨2, j, 1⟩ s'' ∧ InTab (l ++ [(⟨1, j, 1⟩ : Rc)]).length ⟨2, j, 1⟩ ∧ Phase1 ml m n (k + 1) s'' ((l ++ [(⟨1, j, 1⟩ : Rc)]) ++ [(⟨2, j, 1⟩ : Rc)]))) := by
  rcases h with ⟨hf, rfl⟩ | ⟨_, h1, _⟩
  · refine ⟨hf.clean.le, ?_⟩
    rcases Nat.lt_or_ge k n with hk | hk
    · by_cases hsv : serves ml m n k (tk ml m n k) = true
      · left
        have h1 := says_clean hn hml hk hf.clean
        rw [if_pos hsv] at h1
        exact ⟨_, _, by simp, h1, (clean_reused hf.clean hk hsv).1, tab_next_reused hn hk hm hsv, .inl ⟨first_reused hf hk hsv, by simp only [recs, if_pos hsv]⟩⟩
      · have hsv : serves ml m n k (tk ml m n k) = false := by simpa using hsv
        right
        have h1 := says_clean hn hml hk hf.clean
        rw [hsv] at h1
        have e0 : inc (s.tries k) = 1 := by rw [hf.tries k (Nat.le_refl _)]; exact inc_zero
        have e1 : (begun s k).tries k = 1 := by simp [begun, upd, e0]
        have hg := clean_began hf.clean hk hsv
        have hu := under_finished hg.2
        have g1 := hg.1
        have g2 := hu.1
        rw [e0] at g1
        rw [e1] at g2
        simp only [e0] at h1
        refine ⟨k, _, _, h1, g1, tab_next_began hn hk, g2, by have := tab_next_finished (ml := ml) (m := m) hn hk; simpa using this, .inl ⟨first_began hf hk hsv, ?_⟩⟩
        simp only [recs, hsv]
        simp
    · obtain rfl : k = n := by have := hf.clean.le; omega
      left
      have hg := clean_sealed hf.clean
      exact ⟨_, _, by simp, says_done hn hml hf.clean, hg.1, tab_next_sealed hn, .inr ⟨rfl, hg.2, rfl⟩⟩
  · rw [h1.sealed] at hs; cases hs
theorem phase1_end {k : Nat} {s : Sp} {l : List Rc} (h : Phase1 ml m n k s l) (hs : s.sealed = true) : Shut ml m n s ∧ l = all ml m n := by
  rcases h with ⟨hf, _⟩ | ⟨_, h1, h2⟩
  · rw [hf.clean.sealed] at hs; cases hs
  · exact ⟨h1, h2⟩
theorem phase1_length {k : Nat} {s : Sp} {l : List Rc} (hn : n ≤ 5) (h : Phase1 ml m n k s l) : l.length ≤ 11 := by
  rcases h with ⟨hf, rfl⟩ | ⟨_, _, rfl⟩
  · have := recs_length (ml := ml) (m := m) (n := n) k; have := hf.clean.le; omega
  · have := recs_length (ml := ml) (m := m) (n := n) n; simp [all]; omega
/-- The run that goes on, at the head of round i; s0: the state that it began with. -/
def Phase2 (ml : Nat) (m : Nat → Int) (n : Nat) (s0 : Sp) (i : Nat) (s : Sp) : Prop :=
  (∃ j0 j, (∀ k, k < n → s0.done k = decide (k < j0)) ∧ j0 ≤ j ∧ ((Clean ml m n j s ∧ i ≤ j + 1) ∨ (Under ml m n j s ∧ i = 0))) ∨ (Shut ml m n s ∧ i ≤ n + 2)
theorem phase2_start {s : Sp} (h : Met ml m n s) : Phase2 ml m n s 0 s := by
  rcases h with ⟨j, h⟩ | ⟨j, h⟩ | h
  · exact .inl ⟨j, j, h.done, Nat.le_refl _, .inl ⟨h, by omega⟩⟩
  · exact .inl ⟨j, j, h.done, Nat.le_refl _, .inr ⟨h, rfl⟩⟩
  · exact .inr ⟨h, by omega⟩
theorem phase2_next {i : Nat} {s s0 : Sp} (hn : n ≤ 5) (hml : ml ≤ 1000) (h : Phase2 ml m n s0 i s) (hs : s.sealed = false) :
    i ≤ n + 1 ∧ ((∃ r s', r.k ≠ 1 ∧ NextSays n ml m s r ∧ Goes n s r s' ∧ Phase2 ml m n s0 (i + 1) s') ∨
    (∃ (j : Nat) (c : Int) (s' s'' : Sp), j < n ∧ s0.done j = false ∧ NextSays n ml m s ⟨1, j, c⟩ ∧ Goes n s ⟨1, j, c⟩ s' ∧ Goes n s' ⟨2, j, c⟩ s'' ∧ Phase2 ml m n s0 (i + 1) s'')) := by
  rcases h with ⟨j0, j, h0, hj, ⟨hc, hi⟩ | ⟨hu, hi⟩⟩ | ⟨h1, _⟩
  · refine ⟨by have := hc.le; omega, ?_⟩
    rcases Nat.lt_or_ge j n with hk | hk
    · by_cases hsv : serves ml m n j (tk ml m n j) = true
      · left
        have h1 := says_clean hn hml hk hc
        rw [if_pos hsv] at h1
        have hg := clean_reused hc hk hsv
        exact ⟨_, _, by simp, h1, hg.1, .inl ⟨j0, j + 1, h0, by omega, .inl ⟨hg.2, by omega⟩⟩⟩
      · have hsv : serves ml m n j (tk ml m n j) = false := by simpa using hsv
        right
        have h1 := says_clean hn hml hk hc
        rw [hsv] at h1
        have hg := clean_began hc hk hsv
        have hu := under_finished hg.2
        have e1 : (begun s j).tries j = inc (s.tries j) := by simp [begun, upd]
        have g2 := hu.1
        rw [e1] at g2
        exact ⟨j, _, _, _, hk, by rw [h0 j hk]; simp; omega, h1, hg.1, g2, .inl ⟨j0, j + 1, h0, by omega, .inl ⟨hu.2, by omega⟩⟩⟩
    · obtain rfl : j = n := by have := hc.le; omega
      left
      have hg := clean_sealed hc
      exact ⟨_, _, by simp, says_done hn hml hc, hg.1, .inr ⟨hg.2, by omega⟩⟩
  · refine ⟨by omega, ?_⟩
    left
    have hg := under_spoilt hu
    exact ⟨_, _, by simp, says_under hn hml hu, hg.1, .inl ⟨j0, j, h0, hj, .inl ⟨hg.2, by omega⟩⟩⟩
  · rw [h1.sealed] at hs; cases hs
theorem phase2_end {i : Nat} {s s0 : Sp} (h : Phase2 ml m n s0 i s) (hs : s.sealed = true) : Shut ml m n s := by
  rcases h with ⟨j0, j, _, _, ⟨hc, _⟩ | ⟨hu, _⟩⟩ | ⟨h1, _⟩
  · rw [hc.sealed] at hs; cases hs
  · rw [hu.sealed] at hs; cases hs
  · exact h1
end Go.Proofs.YtndjhcmgngnfbaaGreatDoor
end
