/- The walks of the small functions: Rest, known, idle, busy, bytes4, number, sum. No condition. -/
import Derived.Test.YtndjhcmgngnfbaaGreatDoorProg
import Derived.Test.YtndjhcmgngnfbaaGreatDoorSplA
set_option linter.unusedSimpArgs false
set_option linter.unusedVariables false
set_option linter.all false
section
namespace Go.Proofs.YtndjhcmgngnfbaaGreatDoor
open Go Go.RowKit
theorem rest_walk (w : World) (a b c : Option Addr) (n1 c1 n2 c2 n3 c3 : Nat) (now : Int) (sealed : Bool) :
    Calls Tryz.prog 8 #[.agg #[.slice a n1 c1, .slice b n2 c2, .slice c n3 c3, .int .i64 now, .bool sealed]] w fun e w' => e = .returned (.bool sealed) ∧ Below w.heap.size w w' := by
  go_enter Tryz.func8, Tryz.ntmps8
  go_wp2
  all_goals go_ret
  exact ⟨rfl, (Below.refl _ _).alloc (Nat.le_refl _) _⟩
theorem known_walk (w : World) (p o : Nat) (a b c : Option Addr) (n1 c1 n2 c2 n3 c3 : Nat) (j : Int)
    (h0 : w.cell? ⟨p, o, none⟩ = some (.slice a n1 c1)) (h1 : w.cell? ⟨p, o + 1, none⟩ = some (.slice b n2 c2)) (h2 : w.cell? ⟨p, o + 2, none⟩ = some (.slice c n3 c3)) :
    Calls Tryz.prog 22 #[.pointer (some ⟨p, o, none⟩), .int .i64 j] w fun e w' => e = .returned (.bool (decide (0 ≤ j ∧ j < n1 ∧ j < n2 ∧ j < n3))) ∧ w' = w := by
  go_enter Tryz.func22, Tryz.ntmps22
  go_wp2
  all_goals go_ret
  all_goals refine ⟨?_, rfl⟩
  all_goals simp_all [Array.getD]
  all_goals omega
set_option maxHeartbeats 1600000 in
theorem idle_walk (w : World) (p o : Nat) (a c : Option Addr) (b2 ob n1 c1 n2 c2 n3 c3 : Nat) (j now : Int) (d : Bool)
    (h0 : w.cell? ⟨p, o, none⟩ = some (.slice a n1 c1)) (h1 : w.cell? ⟨p, o + 1, none⟩ = some (.slice (some ⟨b2, ob, none⟩) n2 c2)) (h2 : w.cell? ⟨p, o + 2, none⟩ = some (.slice c n3 c3))
    (h3 : w.cell? ⟨p, o + 3, none⟩ = some (.int .i64 now)) (hd : 0 ≤ j → j < n2 → w.cell? ⟨b2, ob + j.toNat, none⟩ = some (.bool d)) :
    Calls Tryz.prog 396 #[.pointer (some ⟨p, o, none⟩), .int .i64 j] w fun e w' => e = .returned (.bool (decide (now = -1) && decide (0 ≤ j ∧ j < n1 ∧ j < n2 ∧ j < n3) && !d)) ∧ w' = w := by
  go_enter Tryz.func396, Tryz.ntmps396
  go_wp2
  all_goals go_ret
  all_goals refine ⟨?_, rfl⟩
  all_goals simp_all [Array.getD]
  all_goals first | omega | (intros; omega) | skip
set_option maxHeartbeats 1600000 in
theorem busy_walk (w : World) (p o : Nat) (b c : Option Addr) (b1 oa n1 c1 n2 c2 n3 c3 : Nat) (j n now : Int) (t : Int)
    (h0 : w.cell? ⟨p, o, none⟩ = some (.slice (some ⟨b1, oa, none⟩) n1 c1)) (h1 : w.cell? ⟨p, o + 1, none⟩ = some (.slice b n2 c2)) (h2 : w.cell? ⟨p, o + 2, none⟩ = some (.slice c n3 c3))
    (h3 : w.cell? ⟨p, o + 3, none⟩ = some (.int .i64 now)) (hd : 0 ≤ j → j < n1 → w.cell? ⟨b1, oa + j.toNat, none⟩ = some (.int .i64 t)) :
    Calls Tryz.prog 398 #[.pointer (some ⟨p, o, none⟩), .int .i64 j, .int .i64 n] w fun e w' => e = .returned (.bool (decide (now = j) && decide (0 ≤ j ∧ j < n1 ∧ j < n2 ∧ j < n3) && decide (t = n))) ∧ w' = w := by
  go_enter Tryz.func398, Tryz.ntmps398
  go_wp2
  all_goals go_ret
  all_goals refine ⟨?_, rfl⟩
  all_goals simp_all [Array.getD]
  all_goals first | omega | (intros; omega) | rfl
theorem bytes4_walk (w : World) (n : Int) :
    Calls Tryz.prog 50 #[.int .i64 n] w fun e w' => e = .returned (.agg #[.int .u8 (n % 4294967296 / 16777216), .int .u8 (n % 4294967296 / 65536 % 256), .int .u8 (n % 4294967296 / 256 % 256), .int .u8 (n % 256)]) ∧ Below w.heap.size w w' := by
  go_enter Tryz.func50, Tryz.ntmps50
  go_wp2
  refine bodyPost_ret (v := .agg #[.int .u8 (n % 4294967296 / 16777216), .int .u8 (n % 4294967296 / 65536 % 256), .int .u8 (n % 4294967296 / 256 % 256), .int .u8 (n % 256)]) (by simp [results, Tryz.results50, go_sem]) rfl ⟨rfl, (Below.refl _ _).alloc (Nat.le_refl _) _⟩
theorem number_walk (w : World) (b off len cap : Nat) (zs : List Int) (hlen : zs.length = len) (hm : len ≤ 9223372036854775807)
    (hc : ∀ k, k < len → w.cell? ⟨b, off + k, none⟩ = some (.int .u8 (zs.getD k 0))) :
    Calls Tryz.prog 88 #[.slice (some ⟨b, off, none⟩) len cap] w fun e w' => e = .returned (.int .i64 (number4 zs)) ∧ w' = w := by
  go_enter Tryz.func88, Tryz.ntmps88
  go_wp2
  go_loop [3, 8] (fun n i => ∃ k : Nat, k ≤ len ∧ i = .int .i64 k ∧ n = .int .i64 (number4 (zs.take k))) (fun _ i => len - (intOf i).toNat)
  case atStart => exact ⟨0, Nat.zero_le _, rfl, rfl⟩
  case round =>
    obtain ⟨k, hk, rfl, rfl⟩ := hrel
    have hcell : k < len → w.cell? ⟨b, off + k, none⟩ = some (.int .u8 (zs.getD k 0)) := fun _ => hc k (by omega)
    go_wp2
    · go_round
      case rel =>
        subst hlen
        exact ⟨k + 1, by omega, by push_cast; rfl, by rw [number4_take zs k (by assumption)]; rfl⟩
      case measure => simp [intOf]; omega
    · have : k = len := by omega
      subst this
      go_ret
      exact ⟨by rw [← hlen]; simp, rfl⟩
theorem sum_walk (w : World) (b off b1 o1 c1 b2 o2 c2 cap n1 n2 : Nat) (xs ys : List Int) (h1 : xs.length = n1) (h2 : ys.length = n2) (hm1 : n1 ≤ 9223372036854775807) (hm2 : n2 ≤ 9223372036854775807)
    (l1 : w.cell? ⟨b, off, none⟩ = some (.slice (some ⟨b1, o1, none⟩) n1 c1)) (l2 : w.cell? ⟨b, off + 1, none⟩ = some (.slice (some ⟨b2, o2, none⟩) n2 c2))
    (hx : ∀ k, k < n1 → w.cell? ⟨b1, o1 + k, none⟩ = some (.int .u8 (xs.getD k 0))) (hy : ∀ k, k < n2 → w.cell? ⟨b2, o2 + k, none⟩ = some (.int .u8 (ys.getD k 0))) :
    Calls Tryz.prog 51 #[.slice (some ⟨b, off, none⟩) 2 cap] w fun e w' => e = .returned (.int .u16 (crcList (crcList 65535 xs) ys)) ∧ w' = w := by
  go_enter Tryz.func51, Tryz.ntmps51
  go_wp2
  refine wp_loop_rounds 3 ?_
  rw [rounds_succ]
  go_wp2
  go_loop [3, 17] (fun v i => ∃ k : Nat, k ≤ n1 ∧ i = .int .i64 k ∧ v = .int .u16 (crcList 65535 (xs.take k))) (fun _ i => n1 - (intOf i).toNat)
  case atStart => exact ⟨0, Nat.zero_le _, rfl, rfl⟩
  case round =>
    obtain ⟨k, hk, rfl, rfl⟩ := hrel
    have hcell : k < n1 → w.cell? ⟨b1, o1 + k, none⟩ = some (.int .u8 (xs.getD k 0)) := fun _ => hx k (by omega)
    go_wp2
    · generalize hz : bits BinOp.xor IntKind.u16 (crcList 65535 (xs.take k)) (IntKind.u16.wrap (IntKind.u16.wrap xs[k] * 256)) = z0
      go_loop [3, 26] (fun v i => ∃ m : Nat, m ≤ 8 ∧ i = .int .i64 m ∧ v = .int .u16 (crcBits m z0)) (fun _ i => 8 - (intOf i).toNat)
      case atStart => exact ⟨0, by omega, rfl, rfl⟩
      case round =>
        obtain ⟨m, hm, rfl, rfl⟩ := hrel
        go_wp2
        · go_round
          case rel =>
            have hh : 32768 ≤ crcBits m z0 := by assumption
            exact ⟨m + 1, by omega, by push_cast; rfl, by simp only [crcBits, crcBit, if_pos hh]⟩
          case measure => simp [intOf]; omega
        · go_round
          case rel =>
            have hh : ¬ 32768 ≤ crcBits m z0 := by omega
            exact ⟨m + 1, by omega, by push_cast; rfl, by simp only [crcBits, crcBit, if_neg hh]⟩
          case measure => simp [intOf]; omega
        · have : m = 8 := by omega
          subst this
          go_round
          case rel =>
            subst h1
            exact ⟨k + 1, by omega, by push_cast; rfl, by rw [crcList_take 65535 xs k (by assumption)]; unfold crcByte; rw [hz]⟩
          case measure => simp [intOf]; omega
    · have : k = n1 := by omega
      subst this
      have hfull : xs.take k = xs := by rw [← h1]; simp
      rw [hfull]
      rw [rounds_succ]
      go_wp2
      go_loop [3, 17] (fun v i => ∃ k : Nat, k ≤ n2 ∧ i = .int .i64 k ∧ v = .int .u16 (crcList (crcList 65535 xs) (ys.take k))) (fun _ i => n2 - (intOf i).toNat)
      case atStart => exact ⟨0, Nat.zero_le _, rfl, rfl⟩
      case round =>
        obtain ⟨k, hk, rfl, rfl⟩ := hrel
        have hcell : k < n2 → w.cell? ⟨b2, o2 + k, none⟩ = some (.int .u8 (ys.getD k 0)) := fun _ => hy k (by omega)
        go_wp2
        · generalize hz : bits BinOp.xor IntKind.u16 (crcList (crcList 65535 xs) (ys.take k)) (IntKind.u16.wrap (IntKind.u16.wrap ys[k] * 256)) = z0
          go_loop [3, 26] (fun v i => ∃ m : Nat, m ≤ 8 ∧ i = .int .i64 m ∧ v = .int .u16 (crcBits m z0)) (fun _ i => 8 - (intOf i).toNat)
          case atStart => exact ⟨0, by omega, rfl, rfl⟩
          case round =>
            obtain ⟨m, hm, rfl, rfl⟩ := hrel
            go_wp2
            · go_round
              case rel =>
                have hh : 32768 ≤ crcBits m z0 := by assumption
                exact ⟨m + 1, by omega, by push_cast; rfl, by simp only [crcBits, crcBit, if_pos hh]⟩
              case measure => simp [intOf]; omega
            · go_round
              case rel =>
                have hh : ¬ 32768 ≤ crcBits m z0 := by omega
                exact ⟨m + 1, by omega, by push_cast; rfl, by simp only [crcBits, crcBit, if_neg hh]⟩
              case measure => simp [intOf]; omega
            · have : m = 8 := by omega
              subst this
              go_round
              case rel =>
                subst h2
                exact ⟨k + 1, by omega, by push_cast; rfl, by rw [crcList_take (crcList 65535 xs) ys k (by assumption)]; unfold crcByte; rw [hz]⟩
              case measure => simp [intOf]; omega
        · have : k = n2 := by omega
          subst this
          have hfull2 : ys.take k = ys := by rw [← h2]; simp
          rw [hfull2]
          rw [rounds_succ]
          go_wp2
          go_ret
          exact ⟨rfl, rfl⟩
end Go.Proofs.YtndjhcmgngnfbaaGreatDoor
end
section
namespace Go.Proofs.YtndjhcmgngnfbaaGreatDoor
open Go Go.RowKit
theorem info5 : (Tryz.prog.info? 5).map (fun i => (i.zero, i.size, i.bytes)) = some (some (.int .u8 0), 1, 1) := by kernel_rfl
theorem add_block (a : Addr) (j : Nat) : (a.add j).block = a.block := by unfold Addr.add; split <;> rfl
theorem cells_of_new (w : World) (l : List Value) (t : TypeId) (j : Nat) (u : Value) (hj : l[j]? = some u) : (w.alloc (.cells ⟨l⟩ t)).cell? ((⟨w.heap.size, 0, none⟩ : Addr).add j) = some u := by
  have h : (w.alloc (.cells ⟨l⟩ t)).heap[w.heap.size]? = some (.cells ⟨l⟩ t (0, 0)) := by
    show (w.heap.push _)[w.heap.size]? = _
    simp
  have e : (⟨w.heap.size, 0, none⟩ : Addr).add j = ⟨w.heap.size, j, none⟩ := by simp [Addr.add]; intro h; omega
  rw [e]
  simp only [World.cell?, h]
  simpa using hj
set_option maxRecDepth 10000 in
set_option maxHeartbeats 2000000 in
theorem put_walk (w : World) (g len cap B0 : Nat) (k a b i e0 e1 e2 e3 e4 e5 e6 e7 e8 e9 e10 : Int) (hl : len ≤ 1000000) (xs : List Int) (hi : (len : Int) / 11 = i)
   (hown : w.ownsRow B0 5 1 (.slice (some ⟨g, 0, none⟩) len cap) len (xs.map (Value.int .u8)))
   (henc : ∀ w, Calls Tryz.prog 27 #[.int .i64 i, .agg #[.int .i64 k, .int .i64 a, .int .i64 b]] w fun e w' => e = .returned (.agg #[.int .u8 e0, .int .u8 e1, .int .u8 e2, .int .u8 e3, .int .u8 e4, .int .u8 e5, .int .u8 e6, .int .u8 e7, .int .u8 e8, .int .u8 e9, .int .u8 e10]) ∧ Below w.heap.size w w') :
   Calls Tryz.prog 11 #[.slice (some ⟨g, 0, none⟩) len cap, .agg #[.int .i64 k, .int .i64 a, .int .i64 b]] w fun e w' => ∃ g', e = .returned (.slice (some ⟨g', 0, none⟩) (len + 11) (len + 11)) ∧
     w'.ownsRow w.heap.size 5 1 (.slice (some ⟨g', 0, none⟩) (len + 11) (len + 11)) (len + 11) ((xs ++ [e0, e1, e2, e3, e4, e5, e6, e7, e8, e9, e10]).map (Value.int .u8)) ∧ Below w.heap.size w w' := by
  obtain ⟨i0, hi0, hz0, hz1, hz2⟩ := info_parts info5
  have hlen : xs.length = len := by have := hown.1; simpa using this
  have hg : g < w.heap.size := (hown.lt g rfl).2
  have HI : Hid ((len : Int) / 11 = i) := hi
  clear hi
  have HO : Hid (w.ownsRow B0 5 1 (.slice (some ⟨g, 0, none⟩) len cap) len (xs.map (Value.int .u8))) := hown
  have HL : Hid (xs.length = len) := hlen
  clear hown hlen
  go_enter Tryz.func11, Tryz.ntmps11
  go_wp2_with (first
    | (go_at_call 27; rw [HI.out]; refine (henc _).mono ?_; rintro e w1 ⟨rfl, hb1⟩; have hb1' : Below w.heap.size w w1 := ((Below.refl _ w).alloc (Nat.le_refl _) _).trans (hb1.mono (by simp)); have hb2' := hb1'.alloc hb1'.size (Obj.cells #[.int .u8 e0, .int .u8 e1, .int .u8 e2, .int .u8 e3, .int .u8 e4, .int .u8 e5, .int .u8 e6, .int .u8 e7, .int .u8 e8, .int .u8 e9, .int .u8 e10] 99); have hs1 := hb1'.size)
    | (at_make; refine wpList_make_own _ rfl _ _ 22 rfl w.heap.size 5 i0 (.int .u8 0) 1 Tryz.underlying22 hi0 hz0 hz1 _ _ _ (len + 11) rfl rfl (by omega) (by rw [hz2]; omega) (by unfold maxLen; omega) (by have := hb2'.size; omega) ?_; intro w3 hown3 hgrow3; rw [World.size_alloc] at hown3)
    | (at_builtin; refine wpList_append_fits _ rfl (.tmp 16) (.tmp 17) 22 rfl w.heap.size 5 i0 1 Tryz.underlying22 hi0 hz1 (w1.heap.size + 1) 0 (len + 11) _ rfl hown3 ⟨g, 0, none⟩ len cap (xs.map (Value.int .u8)) rfl (by simpa using HL.out) (fun j u hj => hgrow3.cell ((hb2'.cell (p := (⟨g, 0, none⟩ : Addr).add j) (by rw [add_block]; exact hg)).trans (HO.out.cells rfl j u hj)) (fun e => by cases e)) (ints_oneCell _ _) (by omega) ?_; intro w4 hown4 hgrow4; simp only [Nat.zero_add, List.nil_append] at hown4)
    | (at_builtin; refine wpList_append_fits _ rfl (.tmp 19) (.tmp 20) 22 rfl w.heap.size 5 i0 1 Tryz.underlying22 hi0 hz1 (w1.heap.size + 1) len (len + 11) _ rfl hown4 ⟨w1.heap.size, 0, none⟩ 11 11 (([e0, e1, e2, e3, e4, e5, e6, e7, e8, e9, e10] : List Int).map (Value.int .u8)) rfl rfl (fun j u hj => hgrow4.cell (hgrow3.cell (cells_of_new w1 _ 99 j u hj) (by simp)) (by rw [add_block]; simp)) (ints_oneCell _ _) (by omega) ?_; intro w5 hown5 hgrow5)
    )
  go_wp2
  refine bodyPost_ret (v := .slice (some ⟨w1.heap.size + 1, 0, none⟩) (len + 11) (len + 11)) (by simp [results, Tryz.results11, go_sem]) rfl ?_
  refine ⟨_, rfl, by rw [List.map_append]; exact hown5, ?_⟩
  exact ((hb2'.grown hgrow3 hb2'.size (fun k e => by cases e)).grown hgrow4 (hb2'.grown hgrow3 hb2'.size (fun k e => by cases e)).size (fun k e => by cases e; omega)).grown hgrow5 ((hb2'.grown hgrow3 hb2'.size (fun k e => by cases e)).grown hgrow4 (hb2'.grown hgrow3 hb2'.size (fun k e => by cases e)).size (fun k e => by cases e; omega)).size (fun k e => by cases e; omega)
end Go.Proofs.YtndjhcmgngnfbaaGreatDoor
end
