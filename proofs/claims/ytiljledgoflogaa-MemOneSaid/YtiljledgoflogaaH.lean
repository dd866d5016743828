/- The walks of MemSwaps and MemOne. -/
import Derived.Test.YtiljledgoflogaaG
namespace Go.Proofs.Ytiljledgoflogaa
open Go.RowKit
set_option linter.unusedSimpArgs false
set_option linter.unusedVariables false

theorem swaps_long (a0 : Option Addr) (n0 c0 : Nat) (z : Int) (h : 12 < n0) (w : World) : Calls Try.prog 5 #[.int .u64 z, .slice a0 n0 c0] w fun e w' => e = .returned (.bool true) ∧ Below w.heap.size w w' := by
  go_enter Try.func5, Try.ntmps5
  go_wp2_with fail
  refine (awake_ok _).mono ?_
  rintro e w0 ⟨rfl, bel0⟩
  go_wp2_with fail
  refine (awake_ok _).mono ?_
  rintro e w1 ⟨rfl, bel1⟩
  go_wp2
  go_ret
  exact ⟨rfl, bel0.trans (bel1.mono bel0.size)⟩

/-- What the word is behind some swaps. -/
def nowAt (was : Int) (l : List Int) : Int := l.foldl (fun n x => nextW 2 n was x) was
theorem nowAt_snoc (was : Int) (l : List Int) (k : Nat) (h : k < l.length) : nowAt was (l.take (k + 1)) = nextW 2 (nowAt was (l.take k)) was (l.getD k 0) := by
  unfold nowAt
  rw [List.take_succ_eq_append_getElem h, List.foldl_append]
  simp [h]
def one (s : Int) : List Reg := [⟨[s], 1⟩]

set_option maxRecDepth 100000 in
set_option maxHeartbeats 1000000 in
theorem swaps_walk (was : Int) (a0 : Option Addr) (c0 : Nat) (l : List Int) (hl : l.length ≤ 12) (w : World) (r0 : RowU w a0 l) : Calls Try.prog 5 #[.int .u64 was, .slice a0 l.length c0] w fun e w' => e = .returned (.bool true) ∧ Below w.heap.size w w' := by
  go_enter Try.func5, Try.ntmps5
  go_wp2_with fail
  refine (awake_ok _).mono ?_
  rintro e w0 ⟨rfl, bel0⟩
  go_wp2_with fail
  refine (new_lit w0 [1] _ 1 rfl rfl (by decide) (by decide)).mono ?_
  rintro e w1 ⟨p, lo, hi, rfl, hm, hs, hlo', hhi⟩
  have bel1 := below_same bel0 hs bel0.size
  have hlo : w.heap.size ≤ lo := Nat.le_trans bel0.size hlo'
  clear hs bel0 hlo' hhi
  go_wp2_with fail
  refine (cap_any hm 0).mono ?_
  rintro e w2 ⟨rfl, hs2⟩
  rw [show capOf ((([1] : List Int)).map fun z => (⟨List.replicate z.toNat 0, 1⟩ : Reg)) 0 = .agg #[.int .i64 0, .int .u64 1] from rfl]
  have bel2 := below_same bel1 hs2 bel1.size
  go_wp2_with fail
  refine (do_yes (hm.same hs2) 0 1 1 0 was 0 (by omega) (by rfl)).mono ?_
  rintro e w3 ⟨rfl, hm3, hs3⟩
  have bel3 := below_in bel2 hs3 hlo bel2.size
  replace hm3 : Mem lo hi w3 p (one was) (0 + 1) := hm3
  clear hm hs2 hs3 bel1 bel2
  go_wp2
  go_loopw [7, 8] (fun s i wr => ∃ j : Nat, j ≤ l.length ∧ i = .int .i64 j ∧ s = .int .u64 (nowAt was (l.take j)) ∧ Mem lo hi wr p (one (nowAt was (l.take j))) (j + 1) ∧ Below w.heap.size w wr) (fun _ i _ => l.length - (intOf i).toNat)
  case atStart => exact ⟨0, by omega, rfl, rfl, hm3, bel3⟩
  case round =>
    clear hm3 bel3
    obtain ⟨j, hj, rfl, rfl, hm, bel⟩ := hrel
    by_cases hlt : j < l.length
    · obtain ⟨b, off, rfl, hbl, hcell⟩ := r0.resolve_left (fun e => by have h0 : l.length = 0 := (by rw [e]; rfl); omega)
      have e1 := nowAt_snoc was l j hlt
      have hx := hcell j hlt
      obtain ⟨y, hye⟩ : ∃ x, x = l.getD j 0 := ⟨_, rfl⟩
      obtain ⟨s, hse⟩ : ∃ s, s = nowAt was (l.take j) := ⟨_, rfl⟩
      rw [← hye] at hx e1
      rw [← hse] at hm e1 ⊢
      have E1 := Lib.hid e1
      have HX := Lib.hid hx
      clear hcell e1 hye hse hx
      have gx := (bel.cell (p := ⟨b, off + j, none⟩) hbl).trans HX.out
      have hj0 : (0 : Int) ≤ (j : Int) := Int.natCast_nonneg _
      have hj1 : (j : Int) < (l.length : Int) := by omega
      go_wp2_with fail
      refine wp_region_held_drew (S := (fun v => v.cell? ⟨b, off + j, none⟩ = some (.int .u64 y))) (by kernel_rfl) ?_ (fun hHeld => ?_)
      · exact (Sep.drew (fun _ => False) wr).cell gx (fun x => x)
      change wpAnyH _ _ _ _ _ 15 _ _ _
      refine wpAnyH_take (i := 0) (oi := ⟨some 44, _, _, _, _, _⟩) (v := ?v1) rfl (by kernel_rfl) (by kernel_rfl) (by kernel_rfl) (fun _ _ _ h => h) (Or.inl ⟨by kernel_rfl, ?h1⟩) hHeld ?_
      case h1 => intro w hSw; (try dsimp only at hSw); go_simp; try with_reducible rfl
      try simp only [Act.put, List.setIfInBounds_toArray, List.set_cons_zero, List.set_cons_succ]
      refine wpAnyH_take (i := 1) (oi := ⟨some 45, _, _, _, _, _⟩) (v := ?v2) rfl (by kernel_rfl) (by kernel_rfl) (by kernel_rfl) (fun _ _ _ h => h) (Or.inl ⟨by kernel_rfl, ?h2⟩) hHeld ?_
      case h2 => intro w hSw; (try dsimp only at hSw); go_simp; try with_reducible rfl
      try simp only [Act.put, List.setIfInBounds_toArray, List.set_cons_zero, List.set_cons_succ]
      refine wpAnyH_take (i := 3) (oi := ⟨some 47, _, _, _, _, _⟩) (v := ?v3) rfl (by kernel_rfl) (by kernel_rfl) (by kernel_rfl) (fun _ _ _ h => h) (Or.inl ⟨by kernel_rfl, ?h3⟩) hHeld ?_
      case h3 => intro w hSw; (try dsimp only at hSw); go_simp; try with_reducible rfl
      try simp only [Act.put, List.setIfInBounds_toArray, List.set_cons_zero, List.set_cons_succ]
      refine wpAnyH_take (i := 4) (oi := ⟨some 48, _, _, _, _, _⟩) (v := ?v4) rfl (by kernel_rfl) (by kernel_rfl) (by kernel_rfl) (fun _ _ _ h => h) (Or.inl ⟨by kernel_rfl, ?h4⟩) hHeld ?_
      case h4 => intro w hSw; (try dsimp only at hSw); go_simp; try with_reducible rfl
      try simp only [Act.put, List.setIfInBounds_toArray, List.set_cons_zero, List.set_cons_succ]
      refine wpAnyH_take (i := 5) (oi := ⟨some 49, _, _, _, _, _⟩) (v := ?v5) rfl (by kernel_rfl) (by kernel_rfl) (by kernel_rfl) (fun _ _ _ h => h) (Or.inl ⟨by kernel_rfl, ?h5⟩) hHeld ?_
      case h5 => intro w hSw; (try dsimp only at hSw); go_simp; try with_reducible rfl
      try simp only [Act.put, List.setIfInBounds_toArray, List.set_cons_zero, List.set_cons_succ]
      refine wpAnyH_take (i := 6) (oi := ⟨some 50, _, _, _, _, _⟩) (v := ?v6) rfl (by kernel_rfl) (by kernel_rfl) (by kernel_rfl) (fun _ _ _ h => h) (Or.inl ⟨by kernel_rfl, ?h6⟩) hHeld ?_
      case h6 => intro w hSw; (try dsimp only at hSw); go_simp; try with_reducible rfl
      try simp only [Act.put, List.setIfInBounds_toArray, List.set_cons_zero, List.set_cons_succ]
      refine wpAnyH_take (i := 7) (oi := ⟨some 51, _, _, _, _, _⟩) (v := ?v7) rfl (by kernel_rfl) (by kernel_rfl) (by kernel_rfl) (fun _ _ _ h => h) (Or.inl ⟨by kernel_rfl, ?h7⟩) hHeld ?_
      case h7 => intro w hSw; (try dsimp only at hSw); go_simp; try with_reducible rfl
      try simp only [Act.put, List.setIfInBounds_toArray, List.set_cons_zero, List.set_cons_succ]
      refine wpAnyH_take (i := 8) (oi := ⟨some 52, _, _, _, _, _⟩) (v := ?v8) rfl (by kernel_rfl) (by kernel_rfl) (by kernel_rfl) (fun _ _ _ h => h) (Or.inl ⟨by kernel_rfl, ?h8⟩) hHeld ?_
      case h8 => intro w hSw; (try dsimp only at hSw); go_simp; try with_reducible rfl
      try simp only [Act.put, List.setIfInBounds_toArray, List.set_cons_zero, List.set_cons_succ]
      refine wpAnyH_ready (rs := [2]) (by kernel_rfl) (by simp) ?_
      refine AllReadyH.cons (o := ⟨some 46, _, _, _, _, _⟩) rfl (fun K hK => ?_) AllReadyH.nil
      rw [if_pos (by kernel_rfl)]
      go_simp
      refine (cap_any (hm.same (Sep.drew _ _)) 0).mono ?_
      rintro e w2 ⟨rfl, hs2⟩
      rw [show capOf (one s) 0 = .agg #[.int .i64 0, .int .u64 1] from rfl]
      refine hK.out _ _ ?_ (fun hHeld => ?_)
      · exact hs2.cell hHeld
      clear hK K
      try simp only [Act.put, List.setIfInBounds_toArray, List.set_cons_zero, List.set_cons_succ]
      refine wpAnyH_ready (rs := [9]) (by kernel_rfl) (by simp) ?_
      refine AllReadyH.cons (o := ⟨some 53, _, _, _, _, _⟩) rfl (fun K hK => ?_) AllReadyH.nil
      rw [if_pos (by kernel_rfl)]
      go_simp
      refine (do_yes (hm.same ((Sep.drew _ _).trans hs2)) 0 1 2 0 was y (by omega) (by rfl)).mono ?_
      rintro e w3 ⟨rfl, hm3, hs3⟩
      rw [show peekOf (one s) 0 0 = s from rfl]
      replace hm3 : Mem lo hi w3 p (one (nextW 2 s was y)) (j + 1 + 1) := hm3
      refine hK.out _ _ ?_ (fun hHeld => ?_)
      · exact Sep.cell hs3 hHeld (show ¬ (lo ≤ b ∧ b < hi) by omega)
      clear hK K
      try simp only [Act.put, List.setIfInBounds_toArray, List.set_cons_zero, List.set_cons_succ]
      refine wpAnyH_take (i := 10) (oi := ⟨some 43, _, _, _, _, _⟩) (v := ?v11) rfl (by kernel_rfl) (by kernel_rfl) (by kernel_rfl) (fun _ _ _ h => h) (Or.inl ⟨by kernel_rfl, ?h11⟩) hHeld ?_
      case h11 => intro w hSw; (try dsimp only at hSw); go_simp; try with_reducible rfl
      try simp only [Act.put, List.setIfInBounds_toArray, List.set_cons_zero, List.set_cons_succ]
      refine wpAnyH_take (i := 11) (oi := ⟨some 54, _, _, _, _, _⟩) (v := ?v12) rfl (by kernel_rfl) (by kernel_rfl) (by kernel_rfl) (fun _ _ _ h => h) (Or.inl ⟨by kernel_rfl, ?h12⟩) hHeld ?_
      case h12 => intro w hSw; (try dsimp only at hSw); go_simp; try with_reducible rfl
      try simp only [Act.put, List.setIfInBounds_toArray, List.set_cons_zero, List.set_cons_succ]
      refine wpAnyH_take (i := 12) (oi := ⟨some 55, _, _, _, _, _⟩) (v := ?v13) rfl (by kernel_rfl) (by kernel_rfl) (by kernel_rfl) (fun _ _ _ h => h) (Or.inl ⟨by kernel_rfl, ?h13⟩) hHeld ?_
      case h13 => intro w hSw; (try dsimp only at hSw); go_simp; try with_reducible rfl
      try simp only [Act.put, List.setIfInBounds_toArray, List.set_cons_zero, List.set_cons_succ]
      refine wpAnyH_take (i := 13) (oi := ⟨some 9, _, _, _, _, _⟩) (v := ?v14) rfl (by kernel_rfl) (by kernel_rfl) (by kernel_rfl) (fun _ _ _ h => h) (Or.inl ⟨by kernel_rfl, ?h14⟩) hHeld ?_
      case h14 => intro w hSw; (try dsimp only at hSw); go_simp; try with_reducible rfl
      try simp only [Act.put, List.setIfInBounds_toArray, List.set_cons_zero, List.set_cons_succ]
      refine wpAnyH_take (i := 14) (oi := ⟨some 10, _, _, _, _, _⟩) (v := ?v15) rfl (by kernel_rfl) (by kernel_rfl) (by kernel_rfl) (fun _ _ _ h => h) (Or.inl ⟨by kernel_rfl, ?h15⟩) hHeld ?_
      case h15 => intro w hSw; (try dsimp only at hSw); go_simp; try with_reducible rfl
      try simp only [Act.put, List.setIfInBounds_toArray, List.set_cons_zero, List.set_cons_succ]
      refine wpAnyH_done (by kernel_rfl) ?_ _
      have bel3 : Below w.heap.size w w3 := below_in (below_same bel ((Sep.drew _ _).trans hs2) bel.size) hs3 hlo (Nat.le_trans bel.size ((Sep.drew (fun _ => False) wr).trans hs2).size)
      clear hm hs2 hs3 gx bel
      by_cases hsw : s = was
      · subst hsw
        rw [show nextW 2 s s y = y from if_pos rfl] at hm3
        have E2 : Hid (nextW 2 s s y = y) := if_pos rfl
        go_wp2
        go_roundw
        case rel => exact ⟨j + 1, by omega, by go_num, by rw [E1.out, E2.out], by rw [E1.out, E2.out]; exact hm3, bel3⟩
        case measure => simp [intOf]; omega
      · have hne : (s == was) = false := beq_false_of_ne hsw
        rw [show nextW 2 s was y = s from if_neg hsw] at hm3
        have E2 : Hid (nextW 2 s was y = s) := if_neg hsw
        clear hsw
        go_wp2
        go_roundw
        case rel => exact ⟨j + 1, by omega, by go_num, by rw [E1.out, E2.out], by rw [E1.out, E2.out]; exact hm3, bel3⟩
        case measure => simp [intOf]; omega
    · obtain ⟨s, hse⟩ : ∃ s, s = nowAt was (l.take j) := ⟨_, rfl⟩
      rw [← hse] at hm ⊢
      clear hse
      go_wp2_with fail
      refine (peek_any hm 0 0).mono ?_
      rintro e w2 ⟨rfl, rfl⟩
      rw [show peekOf (one s) 0 0 = s from rfl]
      go_wp2
      go_ret
      exact ⟨rfl, bel⟩


theorem one_long (a0 : Option Addr) (n0 c0 : Nat) (op at_ x y : Int) (h : 20 < n0) (w : World) : Calls Try.prog 3 #[.slice a0 n0 c0, .agg #[.int .i64 op, .int .i64 at_, .int .u64 x, .int .u64 y]] w fun e w' => e = .returned (.bool true) ∧ Below w.heap.size w w' := by
  have bel : Below w.heap.size w (w.alloc (.cells #[.int .i64 op, .int .i64 at_, .int .u64 x, .int .u64 y] 25)) := (Below.refl _ _).alloc (Nat.le_refl _) _
  have hsz : (w.alloc (.cells #[.int .i64 op, .int .i64 at_, .int .u64 x, .int .u64 y] 25)).heap.size = w.heap.size + 1 := by simp
  have HS := Lib.hid hsz
  clear hsz
  go_enter Try.func3, Try.ntmps3
  go_wp2_with fail
  refine (awake_ok _).mono ?_
  rintro e w0 ⟨rfl, bel0⟩
  go_wp2_with fail
  refine (awake_ok _).mono ?_
  rintro e w1 ⟨rfl, bel1⟩
  go_wp2
  go_ret
  have b0 := bel.trans (bel0.mono (by rw [HS.out]; omega))
  exact ⟨rfl, b0.trans (bel1.mono b0.size)⟩

/-- A region of n words, those ahead of k as they were put. -/
def row (l : List Int) (k : Nat) : List Reg := [⟨l.take k ++ List.replicate (l.length - k) 0, 1⟩]
theorem row_len (l : List Int) (k : Nat) (h : k ≤ l.length) : (l.take k ++ List.replicate (l.length - k) 0).length = l.length := by simp; omega
theorem row_ok (l : List Int) (k : Nat) (h : k < l.length) : okB (row l k) 0 1 1 k = true := by
  unfold okB goodB sizeOf row
  simp
  omega
theorem row_step (l : List Int) (k : Nat) (h : k < l.length) : doL (row l k) (Int.toNat 0) (Int.toNat k) 1 (l.getD k 0) 0 = row l (k + 1) := by
  unfold doL row nextW
  simp
  rw [List.set_append_right _ _ (by simp; omega)]
  rw [List.take_succ_eq_append_getElem h]
  have e : l.length - k = (l.length - (k + 1)) + 1 := by omega
  rw [e, List.replicate_succ]
  simp [h]
  rw [show k - min k l.length = 0 by omega, List.set_cons_zero, List.take_succ_eq_append_getElem h, List.append_assoc]
  rfl
theorem row_all (l : List Int) : row l l.length = [⟨l, 1⟩] := by simp [row]
theorem peek_row (l : List Int) (k : Nat) : peekOf [⟨l, 1⟩] 0 k = l.getD k 0 := by
  simp [peekOf]


theorem peek_do (l : List Int) (i j : Nat) (op x y : Int) (hj : j ≠ i) : peekOf (doL [⟨l, 1⟩] (Int.toNat 0) (Int.toNat i) op x y) 0 j = l.getD j 0 := by
  unfold doL
  simp [peekOf, List.getElem?_set, Ne.symm hj]
theorem ok_row (l : List Int) (op at_ : Int) : okB [⟨l, 1⟩] 0 1 op at_ = decide (0 ≤ at_ ∧ at_ < (l.length : Int) ∧ 0 ≤ op ∧ op ≤ 3) := by
  simp [okB, goodB, sizeOf]

set_option maxRecDepth 100000 in
set_option maxHeartbeats 2000000 in
theorem one_walk (a0 : Option Addr) (c0 : Nat) (l : List Int) (op at_ x y : Int) (hl : l.length ≤ 20) (w : World) (r0 : RowU w a0 l) : Calls Try.prog 3 #[.slice a0 l.length c0, .agg #[.int .i64 op, .int .i64 at_, .int .u64 x, .int .u64 y]] w fun e w' => e = .returned (.bool true) ∧ Below w.heap.size w w' := by
  have hW0 : ∃ W0, W0 = w.alloc (.cells #[.int .i64 op, .int .i64 at_, .int .u64 x, .int .u64 y] 25) := ⟨_, rfl⟩
  obtain ⟨W0, hW0⟩ := hW0
  have belw : Below w.heap.size w W0 := by rw [hW0]; exact (Below.refl _ _).alloc (Nat.le_refl _) _
  have hsz : W0.heap.size = w.heap.size + 1 := by rw [hW0]; simp
  have hpb : W0.heap[w.heap.size]? = some (.cells #[.int .i64 op, .int .i64 at_, .int .u64 x, .int .u64 y] 25) := by rw [hW0]; exact heap_alloc_new _ _
  have HW := Lib.hid hW0
  have HS := Lib.hid hsz
  have HPB := Lib.hid hpb
  clear hW0 hsz hpb
  go_enter Try.func3, Try.ntmps3
  go_wp2_with fail
  rw [← HW.out]
  refine (awake_ok _).mono ?_
  rintro e w0 ⟨rfl, bel0⟩
  go_wp2_with fail
  refine (new_lit w0 [(l.length : Int)] _ 1 rfl rfl (by simp) (by intro z hz; simp at hz; omega)).mono ?_
  rintro e w1 ⟨p, lo, hi, rfl, hm, hs, hlo', hhi⟩
  have bel1 := below_same bel0 hs bel0.size
  have hlo : W0.heap.size ≤ lo := Nat.le_trans bel0.size hlo'
  clear hs bel0 hlo'
  go_wp2_with fail
  refine (cap_any hm 0).mono ?_
  rintro e w2 ⟨rfl, hs2⟩
  rw [show capOf ((([(l.length : Int)] : List Int)).map fun z => (⟨List.replicate z.toNat 0, 1⟩ : Reg)) 0 = .agg #[.int .i64 0, .int .u64 1] from rfl]
  have hcb : hi ≤ w2.heap.size := by rw [← hhi]; exact hs2.size
  have bel2 := (below_same bel1 hs2 bel1.size).alloc (Nat.le_trans bel1.size hs2.size) (.cells #[.int .i64 0, .int .u64 1] 33)
  have hm2 := (hm.same hs2).same (Sep.alloc _ _ (.cells #[.int .i64 0, .int .u64 1] 33))
  have hcbo : (w2.alloc (.cells #[.int .i64 0, .int .u64 1] 33)).heap[w2.heap.size]? = some (.cells #[.int .i64 0, .int .u64 1] 33) := heap_alloc_new _ _
  have d0 : (w2.alloc (.cells #[.int .i64 0, .int .u64 1] 33)).cell? ⟨w2.heap.size, 0, none⟩ = some (.int .i64 0) := by rw [cell_of_heap hcbo]; rfl
  have d1 : (w2.alloc (.cells #[.int .i64 0, .int .u64 1] 33)).cell? ⟨w2.heap.size, 1, none⟩ = some (.int .u64 1) := by rw [cell_of_heap hcbo]; rfl
  replace hm2 : Mem lo hi (w2.alloc (.cells #[.int .i64 0, .int .u64 1] 33)) p (row l 0) 0 := by
    have e : row l 0 = (([(l.length : Int)] : List Int)).map fun z => (⟨List.replicate z.toNat 0, 1⟩ : Reg) := by simp [row]
    rw [e]; exact hm2
  obtain ⟨cb, hcbe⟩ : ∃ cb, cb = w2.heap.size := ⟨_, rfl⟩
  rw [← hcbe] at hcb d0 d1
  have HCB := Lib.hid hcbe
  clear hm hs2 hhi bel1 hcbo hcbe
  go_wp2
  rw [← HCB.out]
  go_loopw [8] (fun i wr => ∃ j : Nat, j ≤ l.length ∧ i = .int .i64 j ∧ Mem lo hi wr p (row l j) j ∧ wr.cell? ⟨cb, 0, none⟩ = some (.int .i64 0) ∧ wr.cell? ⟨cb, 1, none⟩ = some (.int .u64 1) ∧ Below W0.heap.size W0 wr) (fun i _ => l.length - (intOf i).toNat)
  case atStart => exact ⟨0, by omega, rfl, hm2, d0, d1, bel2⟩
  case round =>
    clear hm2 d0 d1 bel2
    obtain ⟨j, hj, rfl, hm, d0, d1, bel⟩ := hrel
    by_cases hlt : j < l.length
    · obtain ⟨b, off, rfl, hbl, hcell⟩ := r0.resolve_left (fun e => by have h0 : l.length = 0 := (by rw [e]; rfl); omega)
      have hx := hcell j hlt
      have e1 := row_step l j hlt
      obtain ⟨z, hze⟩ : ∃ x, x = l.getD j 0 := ⟨_, rfl⟩
      rw [← hze] at hx e1
      have E1 := Lib.hid e1
      have HX := Lib.hid ((belw.cell (p := ⟨b, off + j, none⟩) hbl).trans hx)
      have hbl' : b < W0.heap.size := Nat.lt_of_lt_of_le hbl belw.size
      clear hcell hze hx e1
      have gx := (bel.cell (p := ⟨b, off + j, none⟩) hbl').trans HX.out
      have hj0 : (0 : Int) ≤ (j : Int) := Int.natCast_nonneg _
      have hj1 : (j : Int) < (l.length : Int) := by omega
      go_wp2_with fail
      refine wp_region_held_drew (S := (fun v => v.cell? ⟨cb, 0, none⟩ = some (.int .i64 0) ∧ v.cell? ⟨cb, 1, none⟩ = some (.int .u64 1) ∧ v.cell? ⟨b, off + j, none⟩ = some (.int .u64 z))) (by kernel_rfl) ?_ (fun hHeld => ?_)
      · exact ⟨(Sep.drew (fun _ => False) wr).cell d0 (fun x => x), (Sep.drew (fun _ => False) wr).cell d1 (fun x => x), (Sep.drew (fun _ => False) wr).cell gx (fun x => x)⟩
      change wpAnyH _ _ _ _ _ 9 _ _ _
      refine wpAnyH_take (i := 0) (oi := ⟨some 41, _, _, _, _, _⟩) (v := ?v16) rfl (by kernel_rfl) (by kernel_rfl) (by kernel_rfl) (fun _ _ _ h => h) (Or.inl ⟨by kernel_rfl, ?h16⟩) hHeld ?_
      case h16 => intro w hSw; (try dsimp only at hSw); go_simp; try with_reducible rfl
      try simp only [Act.put, List.setIfInBounds_toArray, List.set_cons_zero, List.set_cons_succ]
      refine wpAnyH_take (i := 1) (oi := ⟨some 42, _, _, _, _, _⟩) (v := ?v17) rfl (by kernel_rfl) (by kernel_rfl) (by kernel_rfl) (fun _ _ _ h => h) (Or.inl ⟨by kernel_rfl, ?h17⟩) hHeld ?_
      case h17 => intro w hSw; (try dsimp only at hSw); go_simp; try with_reducible rfl
      try simp only [Act.put, List.setIfInBounds_toArray, List.set_cons_zero, List.set_cons_succ]
      refine wpAnyH_take (i := 2) (oi := ⟨some 43, _, _, _, _, _⟩) (v := ?v18) rfl (by kernel_rfl) (by kernel_rfl) (by kernel_rfl) (fun _ _ _ h => h) (Or.inl ⟨by kernel_rfl, ?h18⟩) hHeld ?_
      case h18 => intro w hSw; (try dsimp only at hSw); go_simp; try with_reducible rfl
      try simp only [Act.put, List.setIfInBounds_toArray, List.set_cons_zero, List.set_cons_succ]
      refine wpAnyH_take (i := 3) (oi := ⟨some 44, _, _, _, _, _⟩) (v := ?v19) rfl (by kernel_rfl) (by kernel_rfl) (by kernel_rfl) (fun _ _ _ h => h) (Or.inl ⟨by kernel_rfl, ?h19⟩) hHeld ?_
      case h19 => intro w hSw; (try dsimp only at hSw); go_simp; try with_reducible rfl
      try simp only [Act.put, List.setIfInBounds_toArray, List.set_cons_zero, List.set_cons_succ]
      refine wpAnyH_take (i := 4) (oi := ⟨some 45, _, _, _, _, _⟩) (v := ?v20) rfl (by kernel_rfl) (by kernel_rfl) (by kernel_rfl) (fun _ _ _ h => h) (Or.inl ⟨by kernel_rfl, ?h20⟩) hHeld ?_
      case h20 => intro w hSw; (try dsimp only at hSw); go_simp; try with_reducible rfl
      try simp only [Act.put, List.setIfInBounds_toArray, List.set_cons_zero, List.set_cons_succ]
      refine wpAnyH_take (i := 5) (oi := ⟨some 46, _, _, _, _, _⟩) (v := ?v21) rfl (by kernel_rfl) (by kernel_rfl) (by kernel_rfl) (fun _ _ _ h => h) (Or.inl ⟨by kernel_rfl, ?h21⟩) hHeld ?_
      case h21 => intro w hSw; (try dsimp only at hSw); go_simp; try with_reducible rfl
      try simp only [Act.put, List.setIfInBounds_toArray, List.set_cons_zero, List.set_cons_succ]
      refine wpAnyH_take (i := 6) (oi := ⟨some 47, _, _, _, _, _⟩) (v := ?v22) rfl (by kernel_rfl) (by kernel_rfl) (by kernel_rfl) (fun _ _ _ h => h) (Or.inl ⟨by kernel_rfl, ?h22⟩) hHeld ?_
      case h22 => intro w hSw; (try dsimp only at hSw); go_simp; try with_reducible rfl
      try simp only [Act.put, List.setIfInBounds_toArray, List.set_cons_zero, List.set_cons_succ]
      refine wpAnyH_take (i := 7) (oi := ⟨some 48, _, _, _, _, _⟩) (v := ?v23) rfl (by kernel_rfl) (by kernel_rfl) (by kernel_rfl) (fun _ _ _ h => h) (Or.inl ⟨by kernel_rfl, ?h23⟩) hHeld ?_
      case h23 => intro w hSw; (try dsimp only at hSw); go_simp; try with_reducible rfl
      try simp only [Act.put, List.setIfInBounds_toArray, List.set_cons_zero, List.set_cons_succ]
      refine wpAnyH_ready (rs := [8]) (by kernel_rfl) (by simp) ?_
      refine AllReadyH.cons (o := ⟨some 49, _, _, _, _, _⟩) rfl (fun K hK => ?_) AllReadyH.nil
      rw [if_pos (by kernel_rfl)]
      go_simp
      refine (do_yes (hm.same (Sep.drew _ _)) 0 1 1 j z 0 (by omega) (row_ok l j hlt)).mono ?_
      rintro e w3 ⟨rfl, hm3, hs3⟩
      rw [E1.out] at hm3
      refine hK.out _ _ ?_ (fun hHeld => ?_)
      · exact ⟨Sep.cell hs3 hHeld.1 (show ¬ (lo ≤ cb ∧ cb < hi) by omega), Sep.cell hs3 hHeld.2.1 (show ¬ (lo ≤ cb ∧ cb < hi) by omega), Sep.cell hs3 hHeld.2.2 (show ¬ (lo ≤ b ∧ b < hi) by omega)⟩
      clear hK K
      try simp only [Act.put, List.setIfInBounds_toArray, List.set_cons_zero, List.set_cons_succ]
      refine wpAnyH_done (by kernel_rfl) ?_ _
      have bel3 : Below W0.heap.size W0 w3 := below_in (below_same bel (Sep.drew _ _) bel.size) hs3 hlo bel.size
      have d0' := hHeld.1
      have d1' := hHeld.2.1
      clear hm hs3 gx bel hHeld
      go_wp2
      go_roundw
      case rel => exact ⟨j + 1, by omega, by go_num, hm3, d0', d1', bel3⟩
      case measure => simp [intOf]; omega
    · rw [show j = l.length by omega, row_all] at hm
      obtain ⟨cnt, hcnt⟩ : ∃ cnt, cnt = l.length := ⟨_, rfl⟩
      have hc40 : cnt < 1000 := by omega
      rw [← hcnt] at hm
      clear hcnt
      have q0 : wr.cell? ⟨w.heap.size, 0, none⟩ = some (.int .i64 op) := (bel.cell (p := ⟨w.heap.size, 0, none⟩) (by rw [HS.out]; exact Nat.lt_succ_self _)).trans (by rw [cell_of_heap HPB.out]; rfl)
      have q1 : wr.cell? ⟨w.heap.size, 1, none⟩ = some (.int .i64 at_) := (bel.cell (p := ⟨w.heap.size, 1, none⟩) (by rw [HS.out]; exact Nat.lt_succ_self _)).trans (by rw [cell_of_heap HPB.out]; rfl)
      have q2 : wr.cell? ⟨w.heap.size, 2, none⟩ = some (.int .u64 x) := (bel.cell (p := ⟨w.heap.size, 2, none⟩) (by rw [HS.out]; exact Nat.lt_succ_self _)).trans (by rw [cell_of_heap HPB.out]; rfl)
      have q3 : wr.cell? ⟨w.heap.size, 3, none⟩ = some (.int .u64 y) := (bel.cell (p := ⟨w.heap.size, 3, none⟩) (by rw [HS.out]; exact Nat.lt_succ_self _)).trans (by rw [cell_of_heap HPB.out]; rfl)
      have hpl : w.heap.size < lo := by have := HS.out; omega
      go_wp2_with fail
      cases hok : okB [⟨l, 1⟩] 0 1 op at_ with
      | true =>
        refine (do_yes hm 0 1 op at_ x y (by omega) hok).mono ?_
        rintro e w3 ⟨rfl, hm3, hs3⟩
        have bel3 : Below W0.heap.size W0 w3 := below_in bel hs3 hlo bel.size
        rw [ok_row] at hok
        obtain ⟨k1, k2, k3, k4⟩ := of_decide_eq_true hok
        obtain ⟨i, rfl⟩ : ∃ i : Nat, at_ = i := ⟨at_.toNat, by omega⟩
        have hil : i < l.length := by omega
        have s0 := Sep.cell hs3 q0 (show ¬ (lo ≤ w.heap.size ∧ w.heap.size < hi) by omega)
        have s1 := Sep.cell hs3 q1 (show ¬ (lo ≤ w.heap.size ∧ w.heap.size < hi) by omega)
        rw [peek_row]
        obtain ⟨v, hv⟩ : ∃ v, v = l.getD i 0 := ⟨_, rfl⟩
        rw [← hv]
        have HV := Lib.hid hv
        clear hok hm hs3 q0 q1 q2 q3 bel d0 d1 k1 k2 hv
        go_wp2
        go_loopw [11] (fun t wr => ∃ j : Nat, j ≤ l.length ∧ t = .int .i64 j ∧ Mem lo hi wr p (doL [⟨l, 1⟩] (Int.toNat 0) (Int.toNat (i : Int)) op x y) (cnt + 1) ∧ wr.cell? ⟨w.heap.size, 0, none⟩ = some (.int .i64 op) ∧ wr.cell? ⟨w.heap.size, 1, none⟩ = some (.int .i64 i) ∧ Below W0.heap.size W0 wr) (fun t _ => l.length - (intOf t).toNat)
        case atStart => exact ⟨0, by omega, rfl, hm3, s0, s1, bel3⟩
        case round =>
          clear hm3 s0 s1 bel3
          obtain ⟨j, hj, rfl, hm, s0, s1, bel⟩ := hrel
          by_cases hlt : j < l.length
          · obtain ⟨b, off, rfl, hbl, hcell⟩ := r0.resolve_left (fun e => by have h0 : l.length = 0 := (by rw [e]; rfl); omega)
            have hbl' : b < W0.heap.size := Nat.lt_of_lt_of_le hbl belw.size
            by_cases hji : j = i
            · subst hji
              have gx := (bel.cell (p := ⟨b, off + j, none⟩) hbl').trans ((belw.cell (p := ⟨b, off + j, none⟩) hbl).trans (hcell j hlt))
              rw [← HV.out] at gx
              clear hcell
              go_wp2
              go_roundw
              case rel => exact ⟨j + 1, by omega, by go_num, hm, s0, s1, bel⟩
              case measure => simp [intOf]; omega
            · have gx := (bel.cell (p := ⟨b, off + j, none⟩) hbl').trans ((belw.cell (p := ⟨b, off + j, none⟩) hbl).trans (hcell j hlt))
              obtain ⟨z, hze⟩ : ∃ z, z = l.getD j 0 := ⟨_, rfl⟩
              rw [← hze] at gx
              have hne : ((j : Int) == (i : Int)) = false := beq_false_of_ne (by omega)
              have HZ := Lib.hid hze
              have hj0 : (0 : Int) ≤ (j : Int) := Int.natCast_nonneg _
              have hj1 : (j : Int) < (l.length : Int) := by omega
              clear hcell hze
              go_wp2_with fail
              refine wp_region_held_drew (S := (fun v => v.cell? ⟨b, off + j, none⟩ = some (.int .u64 z))) (by kernel_rfl) ?_ (fun hHeld => ?_)
              · exact (Sep.drew (fun _ => False) wr).cell gx (fun x => x)
              change wpAnyH _ _ _ _ _ 8 _ _ _
              refine wpAnyH_take (i := 0) (oi := ⟨some 76, _, _, _, _, _⟩) (v := ?v25) rfl (by kernel_rfl) (by kernel_rfl) (by kernel_rfl) (fun _ _ _ h => h) (Or.inl ⟨by kernel_rfl, ?h25⟩) hHeld ?_
              case h25 => intro w hSw; (try dsimp only at hSw); go_simp; try with_reducible rfl
              try simp only [Act.put, List.setIfInBounds_toArray, List.set_cons_zero, List.set_cons_succ]
              refine wpAnyH_take (i := 1) (oi := ⟨some 77, _, _, _, _, _⟩) (v := ?v26) rfl (by kernel_rfl) (by kernel_rfl) (by kernel_rfl) (fun _ _ _ h => h) (Or.inl ⟨by kernel_rfl, ?h26⟩) hHeld ?_
              case h26 => intro w hSw; (try dsimp only at hSw); go_simp; try with_reducible rfl
              try simp only [Act.put, List.setIfInBounds_toArray, List.set_cons_zero, List.set_cons_succ]
              refine wpAnyH_take (i := 3) (oi := ⟨some 79, _, _, _, _, _⟩) (v := ?v27) rfl (by kernel_rfl) (by kernel_rfl) (by kernel_rfl) (fun _ _ _ h => h) (Or.inl ⟨by kernel_rfl, ?h27⟩) hHeld ?_
              case h27 => intro w hSw; (try dsimp only at hSw); go_simp; try with_reducible rfl
              try simp only [Act.put, List.setIfInBounds_toArray, List.set_cons_zero, List.set_cons_succ]
              refine wpAnyH_take (i := 4) (oi := ⟨some 80, _, _, _, _, _⟩) (v := ?v28) rfl (by kernel_rfl) (by kernel_rfl) (by kernel_rfl) (fun _ _ _ h => h) (Or.inl ⟨by kernel_rfl, ?h28⟩) hHeld ?_
              case h28 => intro w hSw; (try dsimp only at hSw); go_simp; try with_reducible rfl
              try simp only [Act.put, List.setIfInBounds_toArray, List.set_cons_zero, List.set_cons_succ]
              refine wpAnyH_take (i := 5) (oi := ⟨some 81, _, _, _, _, _⟩) (v := ?v29) rfl (by kernel_rfl) (by kernel_rfl) (by kernel_rfl) (fun _ _ _ h => h) (Or.inl ⟨by kernel_rfl, ?h29⟩) hHeld ?_
              case h29 => intro w hSw; (try dsimp only at hSw); go_simp; try with_reducible rfl
              try simp only [Act.put, List.setIfInBounds_toArray, List.set_cons_zero, List.set_cons_succ]
              refine wpAnyH_take (i := 6) (oi := ⟨some 82, _, _, _, _, _⟩) (v := ?v30) rfl (by kernel_rfl) (by kernel_rfl) (by kernel_rfl) (fun _ _ _ h => h) (Or.inl ⟨by kernel_rfl, ?h30⟩) hHeld ?_
              case h30 => intro w hSw; (try dsimp only at hSw); go_simp; try with_reducible rfl
              try simp only [Act.put, List.setIfInBounds_toArray, List.set_cons_zero, List.set_cons_succ]
              refine wpAnyH_ready (rs := [2]) (by kernel_rfl) (by simp) ?_
              refine AllReadyH.cons (o := ⟨some 78, _, _, _, _, _⟩) rfl (fun K hK => ?_) AllReadyH.nil
              rw [if_pos (by kernel_rfl)]
              go_simp
              refine (peek_any (hm.same (Sep.drew _ _)) 0 j).mono ?_
              rintro e w4 ⟨rfl, rfl⟩
              rw [peek_do l i j op x y hji, ← HZ.out]
              refine hK.out _ _ ?_ (fun hHeld => ?_)
              · exact hHeld
              clear hK K
              try simp only [Act.put, List.setIfInBounds_toArray, List.set_cons_zero, List.set_cons_succ]
              refine wpAnyH_take (i := 7) (oi := ⟨some 83, _, _, _, _, _⟩) (v := ?v32) rfl (by kernel_rfl) (by kernel_rfl) (by kernel_rfl) (fun _ _ _ h => h) (Or.inl ⟨by kernel_rfl, ?h32⟩) hHeld ?_
              case h32 => intro w hSw; (try dsimp only at hSw); go_simp; try with_reducible rfl
              try simp only [Act.put, List.setIfInBounds_toArray, List.set_cons_zero, List.set_cons_succ]
              refine wpAnyH_done (by kernel_rfl) ?_ _
              go_wp2
              go_roundw
              case rel => exact ⟨j + 1, by omega, by go_num, hm.same (Sep.drew _ _), (Sep.drew (fun _ => False) wr).cell s0 (fun x => x), (Sep.drew (fun _ => False) wr).cell s1 (fun x => x), below_same bel (Sep.drew _ _) bel.size⟩
              case measure => simp [intOf]; omega
          · have hi0 : (0 : Int) ≤ (i : Int) := Int.natCast_nonneg _
            have hi1 : (i : Int) < (l.length : Int) := by omega
            go_wp2
            go_ret
            exact ⟨rfl, belw.trans (bel.mono (by rw [HS.out]; omega))⟩
      | false =>
        refine (do_no hm 0 1 op at_ x y hok).mono ?_
        rintro e w3 ⟨rfl, hs3⟩
        have bel3 : Below W0.heap.size W0 w3 := below_same bel hs3 bel.size
        have hm3 := hm.same hs3
        rw [ok_row] at hok
        have hno := of_decide_eq_false hok
        have s0 := hs3.cell q0
        have s1 := hs3.cell q1
        have HNO := Lib.hid hno
        clear hok hm hs3 q0 q1 q2 q3 bel d0 d1 hno
        go_wp2
        go_loopw [11] (fun t wr => ∃ j : Nat, j ≤ l.length ∧ t = .int .i64 j ∧ Mem lo hi wr p [⟨l, 1⟩] cnt ∧ wr.cell? ⟨w.heap.size, 0, none⟩ = some (.int .i64 op) ∧ wr.cell? ⟨w.heap.size, 1, none⟩ = some (.int .i64 at_) ∧ Below W0.heap.size W0 wr) (fun t _ => l.length - (intOf t).toNat)
        case atStart => exact ⟨0, by omega, rfl, hm3, s0, s1, bel3⟩
        case round =>
          clear hm3 s0 s1 bel3
          obtain ⟨j, hj, rfl, hm, s0, s1, bel⟩ := hrel
          by_cases hlt : j < l.length
          · obtain ⟨b, off, rfl, hbl, hcell⟩ := r0.resolve_left (fun e => by have h0 : l.length = 0 := (by rw [e]; rfl); omega)
            have hbl' : b < W0.heap.size := Nat.lt_of_lt_of_le hbl belw.size
            have gx := (bel.cell (p := ⟨b, off + j, none⟩) hbl').trans ((belw.cell (p := ⟨b, off + j, none⟩) hbl).trans (hcell j hlt))
            obtain ⟨z, hze⟩ : ∃ z, z = l.getD j 0 := ⟨_, rfl⟩
            rw [← hze] at gx
            have HZ := Lib.hid hze
            have hj0 : (0 : Int) ≤ (j : Int) := Int.natCast_nonneg _
            have hj1 : (j : Int) < (l.length : Int) := by omega
            clear hcell hze
            cases hje : ((j : Int) == at_)
            all_goals
              go_wp2_with fail
              refine wp_region_held_drew (S := (fun v => v.cell? ⟨b, off + j, none⟩ = some (.int .u64 z))) (by kernel_rfl) ?_ (fun hHeld => ?_)
              · exact (Sep.drew (fun _ => False) wr).cell gx (fun x => x)
              change wpAnyH _ _ _ _ _ 8 _ _ _
              refine wpAnyH_take (i := 0) (oi := ⟨some 76, _, _, _, _, _⟩) (v := ?v33) rfl (by kernel_rfl) (by kernel_rfl) (by kernel_rfl) (fun _ _ _ h => h) (Or.inl ⟨by kernel_rfl, ?h33⟩) hHeld ?_
              case h33 => intro w hSw; (try dsimp only at hSw); go_simp; try with_reducible rfl
              try simp only [Act.put, List.setIfInBounds_toArray, List.set_cons_zero, List.set_cons_succ]
              refine wpAnyH_take (i := 1) (oi := ⟨some 77, _, _, _, _, _⟩) (v := ?v34) rfl (by kernel_rfl) (by kernel_rfl) (by kernel_rfl) (fun _ _ _ h => h) (Or.inl ⟨by kernel_rfl, ?h34⟩) hHeld ?_
              case h34 => intro w hSw; (try dsimp only at hSw); go_simp; try with_reducible rfl
              try simp only [Act.put, List.setIfInBounds_toArray, List.set_cons_zero, List.set_cons_succ]
              refine wpAnyH_take (i := 3) (oi := ⟨some 79, _, _, _, _, _⟩) (v := ?v35) rfl (by kernel_rfl) (by kernel_rfl) (by kernel_rfl) (fun _ _ _ h => h) (Or.inl ⟨by kernel_rfl, ?h35⟩) hHeld ?_
              case h35 => intro w hSw; (try dsimp only at hSw); go_simp; try with_reducible rfl
              try simp only [Act.put, List.setIfInBounds_toArray, List.set_cons_zero, List.set_cons_succ]
              refine wpAnyH_take (i := 4) (oi := ⟨some 80, _, _, _, _, _⟩) (v := ?v36) rfl (by kernel_rfl) (by kernel_rfl) (by kernel_rfl) (fun _ _ _ h => h) (Or.inl ⟨by kernel_rfl, ?h36⟩) hHeld ?_
              case h36 => intro w hSw; (try dsimp only at hSw); go_simp; try with_reducible rfl
              try simp only [Act.put, List.setIfInBounds_toArray, List.set_cons_zero, List.set_cons_succ]
              refine wpAnyH_take (i := 5) (oi := ⟨some 81, _, _, _, _, _⟩) (v := ?v37) rfl (by kernel_rfl) (by kernel_rfl) (by kernel_rfl) (fun _ _ _ h => h) (Or.inl ⟨by kernel_rfl, ?h37⟩) hHeld ?_
              case h37 => intro w hSw; (try dsimp only at hSw); go_simp; try with_reducible rfl
              try simp only [Act.put, List.setIfInBounds_toArray, List.set_cons_zero, List.set_cons_succ]
              refine wpAnyH_take (i := 6) (oi := ⟨some 82, _, _, _, _, _⟩) (v := ?v38) rfl (by kernel_rfl) (by kernel_rfl) (by kernel_rfl) (fun _ _ _ h => h) (Or.inl ⟨by kernel_rfl, ?h38⟩) hHeld ?_
              case h38 => intro w hSw; (try dsimp only at hSw); go_simp; try with_reducible rfl
              try simp only [Act.put, List.setIfInBounds_toArray, List.set_cons_zero, List.set_cons_succ]
              refine wpAnyH_ready (rs := [2]) (by kernel_rfl) (by simp) ?_
              refine AllReadyH.cons (o := ⟨some 78, _, _, _, _, _⟩) rfl (fun K hK => ?_) AllReadyH.nil
              rw [if_pos (by kernel_rfl)]
              go_simp
              refine (peek_any (hm.same (Sep.drew _ _)) 0 j).mono ?_
              rintro e w4 ⟨rfl, rfl⟩
              rw [peek_row, ← HZ.out]
              refine hK.out _ _ ?_ (fun hHeld => ?_)
              · exact hHeld
              clear hK K
              try simp only [Act.put, List.setIfInBounds_toArray, List.set_cons_zero, List.set_cons_succ]
              refine wpAnyH_take (i := 7) (oi := ⟨some 83, _, _, _, _, _⟩) (v := ?v40) rfl (by kernel_rfl) (by kernel_rfl) (by kernel_rfl) (fun _ _ _ h => h) (Or.inl ⟨by kernel_rfl, ?h40⟩) hHeld ?_
              case h40 => intro w hSw; (try dsimp only at hSw); go_simp; try with_reducible rfl
              try simp only [Act.put, List.setIfInBounds_toArray, List.set_cons_zero, List.set_cons_succ]
              refine wpAnyH_done (by kernel_rfl) ?_ _
              go_wp2
              go_roundw
              case rel => exact ⟨j + 1, by omega, by go_num, hm.same (Sep.drew _ _), (Sep.drew (fun _ => False) wr).cell s0 (fun x => x), (Sep.drew (fun _ => False) wr).cell s1 (fun x => x), below_same bel (Sep.drew _ _) bel.size⟩
              case measure => simp [intOf]; omega
          · have fin : Below w.heap.size w wr := belw.trans (bel.mono (by rw [HS.out]; omega))
            clear bel
            by_cases n1 : at_ < 0
            · go_wp2
              go_ret
              exact ⟨rfl, fin⟩
            · have n1' : 0 ≤ at_ := by omega
              by_cases n2 : at_ < (l.length : Int)
              · by_cases n3 : op < 0
                · go_wp2
                  go_ret
                  exact ⟨rfl, fin⟩
                · have n3' : 0 ≤ op := by omega
                  have n4 : ¬ op ≤ 3 := fun h => HNO.out ⟨n1', n2, n3', h⟩
                  go_wp2
                  go_ret
                  exact ⟨rfl, fin⟩
              · go_wp2
                go_ret
                exact ⟨rfl, fin⟩

end Go.Proofs.Ytiljledgoflogaa
