/- The walks of MemAdds and MemSwaps. -/
import Derived.Test.YtiljledgoflogaaF
namespace Go.Proofs.Ytiljledgoflogaa
open Go.RowKit
set_option linter.unusedSimpArgs false
set_option linter.unusedVariables false

/-- What is known of a slice of words that came in. -/
def RowU (w : World) (a : Option Addr) (l : List Int) : Prop := l = [] ∨ ∃ b off, a = some ⟨b, off, none⟩ ∧ b < w.heap.size ∧ ∀ i, i < l.length → w.cell? ⟨b, off + i, none⟩ = some (.int .u64 (l.getD i 0))
theorem RowU.at {w w' : World} {a : Option Addr} {l : List Int} (h : RowU w a l) (hb : Below w.heap.size w w') {i : Nat} (hi : i < l.length) : ∃ b off, a = some ⟨b, off, none⟩ ∧ b < w.heap.size := by
  obtain ⟨b, off, ha, hlt, _⟩ := h.resolve_left (fun e => by have h0 : l.length = 0 := (by rw [e]; rfl); omega)
  exact ⟨b, off, ha, hlt⟩

/-- The sum modulo 2^64, one by one. -/
def wsum (l : List Int) : Int := l.foldl (fun a x => IntKind.u64.wrap (a + x)) 0
theorem wrap_u64 (x : Int) : IntKind.u64.wrap x = x % 18446744073709551616 := by
  simp [IntKind.wrap, IntKind.bits, IntKind.signed]
theorem wsum_acc (l : List Int) : ∀ a, l.foldl (fun a x => IntKind.u64.wrap (a + x)) (IntKind.u64.wrap a) = IntKind.u64.wrap (a + l.sum) := by
  induction l with
  | nil => intro a; simp
  | cons x l ih =>
    intro a
    simp only [List.foldl_cons, List.sum_cons]
    rw [show IntKind.u64.wrap (IntKind.u64.wrap a + x) = IntKind.u64.wrap (a + x) by simp only [wrap_u64]; omega, ih, Int.add_assoc]
theorem wsum_sum (l : List Int) : wsum l = IntKind.u64.wrap l.sum := by
  have := wsum_acc l 0
  rw [show IntKind.u64.wrap 0 = 0 by rw [wrap_u64]; rfl] at this
  unfold wsum
  simpa using this
theorem wsum_rev (l : List Int) : wsum l.reverse = wsum l := by
  rw [wsum_sum, wsum_sum, List.sum_reverse]
theorem wsum_snoc (l : List Int) (k : Nat) (h : k < l.length) : wsum (l.take (k + 1)) = IntKind.u64.wrap (wsum (l.take k) + l.getD k 0) := by
  unfold wsum
  rw [List.take_succ_eq_append_getElem h, List.foldl_append]
  simp [h]

theorem adds_long (a0 : Option Addr) (n0 c0 : Nat) (h : 40 < n0) (w : World) : Calls Try.prog 4 #[.slice a0 n0 c0] w fun e w' => e = .returned (.bool true) ∧ Below w.heap.size w w' := by
  go_enter Try.func4, Try.ntmps4
  go_wp2_with fail
  refine (awake_ok _).mono ?_
  rintro e w0 ⟨rfl, bel0⟩
  go_wp2_with fail
  refine (awake_ok _).mono ?_
  rintro e w1 ⟨rfl, bel1⟩
  go_wp2
  go_ret
  exact ⟨rfl, bel0.trans (bel1.mono bel0.size)⟩

/-- Two regions of one word each. -/
def two (s t : Int) : List Reg := [⟨[s], 1⟩, ⟨[t], 1⟩]

set_option maxRecDepth 100000 in
set_option maxHeartbeats 1000000 in
theorem adds_walk (a0 : Option Addr) (c0 : Nat) (l : List Int) (hl : l.length ≤ 40) (w : World) (r0 : RowU w a0 l) : Calls Try.prog 4 #[.slice a0 l.length c0] w fun e w' => e = .returned (.bool true) ∧ Below w.heap.size w w' := by
  go_enter Try.func4, Try.ntmps4
  go_wp2_with fail
  refine (awake_ok _).mono ?_
  rintro e w0 ⟨rfl, bel0⟩
  go_wp2_with fail
  refine (new_lit w0 [1, 1] _ 2 rfl rfl (by decide) (by decide)).mono ?_
  rintro e w1 ⟨p, lo, hi, rfl, hm, hs, hlo', hhi⟩
  have bel1 := below_same bel0 hs bel0.size
  have hlo : w.heap.size ≤ lo := Nat.le_trans bel0.size hlo'
  clear hs bel0 hlo' hhi
  go_wp2
  go_loopw [5, 6] (fun s i wr => ∃ j : Nat, j ≤ l.length ∧ i = .int .i64 j ∧ s = .int .u64 (wsum (l.take j)) ∧ Mem lo hi wr p (two (wsum (l.take j)) (wsum (l.reverse.take j))) (2 * j) ∧ Below w.heap.size w wr) (fun _ i _ => l.length - (intOf i).toNat)
  case atStart => exact ⟨0, by omega, rfl, rfl, hm, bel1⟩
  case round =>
    clear hm bel1
    obtain ⟨j, hj, rfl, rfl, hm, bel⟩ := hrel
    by_cases hlt : j < l.length
    · obtain ⟨b, off, rfl, hbl, hcell⟩ := r0.resolve_left (fun e => by have h0 : l.length = 0 := (by rw [e]; rfl); omega)
      obtain ⟨m, hme⟩ : ∃ m, m = l.length - 1 - j := ⟨_, rfl⟩
      have hml : m < l.length := by omega
      have e1 := wsum_snoc l j hlt
      have e2 := wsum_snoc l.reverse j (by simpa using hlt)
      have hrev : l.reverse.getD j 0 = l.getD m 0 := by subst hme; simp [List.getD, hlt, hml]
      rw [hrev] at e2
      clear hrev
      have hx := hcell j hlt
      have hy := hcell m hml
      obtain ⟨x, hxe⟩ : ∃ x, x = l.getD j 0 := ⟨_, rfl⟩
      obtain ⟨y, hye⟩ : ∃ x, x = l.getD m 0 := ⟨_, rfl⟩
      obtain ⟨s, hse⟩ : ∃ s, s = wsum (l.take j) := ⟨_, rfl⟩
      obtain ⟨t, hte⟩ : ∃ s, s = wsum (l.reverse.take j) := ⟨_, rfl⟩
      rw [← hxe] at hx e1
      rw [← hye] at hy e2
      rw [← hse] at hm e1 ⊢
      rw [← hte] at hm e2
      have E1 := Lib.hid e1
      have E2 := Lib.hid e2
      have HX := Lib.hid hx
      have HY := Lib.hid hy
      have HM := Lib.hid hme
      clear hcell e1 e2 hxe hye hse hte hx hy hme
      have gx := (bel.cell (p := ⟨b, off + j, none⟩) hbl).trans HX.out
      have hj0 : (0 : Int) ≤ (j : Int) := Int.natCast_nonneg _
      have hj1 : (j : Int) < (l.length : Int) := by omega
      go_wp2_with fail
      refine wp_region_held_drew (S := (fun v => v.cell? ⟨b, off + j, none⟩ = some (.int .u64 x))) (by kernel_rfl) ?_ (fun hHeld => ?_)
      · exact (Sep.drew (fun _ => False) wr).cell gx (fun x => x)
      change wpAnyH _ _ _ _ _ 14 _ _ _
      refine wpAnyH_take (i := 0) (oi := ⟨some 35, _, _, _, _, _⟩) (v := ?v1) rfl (by kernel_rfl) (by kernel_rfl) (by kernel_rfl) (fun _ _ _ h => h) (Or.inl ⟨by kernel_rfl, ?h1⟩) hHeld ?_
      case h1 => intro w hSw; (try dsimp only at hSw); go_simp; try with_reducible rfl
      try simp only [Act.put, List.setIfInBounds_toArray, List.set_cons_zero, List.set_cons_succ]
      refine wpAnyH_take (i := 1) (oi := ⟨some 36, _, _, _, _, _⟩) (v := ?v2) rfl (by kernel_rfl) (by kernel_rfl) (by kernel_rfl) (fun _ _ _ h => h) (Or.inl ⟨by kernel_rfl, ?h2⟩) hHeld ?_
      case h2 => intro w hSw; (try dsimp only at hSw); go_simp; try with_reducible rfl
      try simp only [Act.put, List.setIfInBounds_toArray, List.set_cons_zero, List.set_cons_succ]
      refine wpAnyH_take (i := 3) (oi := ⟨some 38, _, _, _, _, _⟩) (v := ?v3) rfl (by kernel_rfl) (by kernel_rfl) (by kernel_rfl) (fun _ _ _ h => h) (Or.inl ⟨by kernel_rfl, ?h3⟩) hHeld ?_
      case h3 => intro w hSw; (try dsimp only at hSw); go_simp; try with_reducible rfl
      try simp only [Act.put, List.setIfInBounds_toArray, List.set_cons_zero, List.set_cons_succ]
      refine wpAnyH_take (i := 4) (oi := ⟨some 39, _, _, _, _, _⟩) (v := ?v4) rfl (by kernel_rfl) (by kernel_rfl) (by kernel_rfl) (fun _ _ _ h => h) (Or.inl ⟨by kernel_rfl, ?h4⟩) hHeld ?_
      case h4 => intro w hSw; (try dsimp only at hSw); go_simp; try with_reducible rfl
      try simp only [Act.put, List.setIfInBounds_toArray, List.set_cons_zero, List.set_cons_succ]
      refine wpAnyH_take (i := 5) (oi := ⟨some 40, _, _, _, _, _⟩) (v := ?v5) rfl (by kernel_rfl) (by kernel_rfl) (by kernel_rfl) (fun _ _ _ h => h) (Or.inl ⟨by kernel_rfl, ?h5⟩) hHeld ?_
      case h5 => intro w hSw; (try dsimp only at hSw); go_simp; try with_reducible rfl
      try simp only [Act.put, List.setIfInBounds_toArray, List.set_cons_zero, List.set_cons_succ]
      refine wpAnyH_take (i := 6) (oi := ⟨some 41, _, _, _, _, _⟩) (v := ?v6) rfl (by kernel_rfl) (by kernel_rfl) (by kernel_rfl) (fun _ _ _ h => h) (Or.inl ⟨by kernel_rfl, ?h6⟩) hHeld ?_
      case h6 => intro w hSw; (try dsimp only at hSw); go_simp; try with_reducible rfl
      try simp only [Act.put, List.setIfInBounds_toArray, List.set_cons_zero, List.set_cons_succ]
      refine wpAnyH_take (i := 7) (oi := ⟨some 42, _, _, _, _, _⟩) (v := ?v7) rfl (by kernel_rfl) (by kernel_rfl) (by kernel_rfl) (fun _ _ _ h => h) (Or.inl ⟨by kernel_rfl, ?h7⟩) hHeld ?_
      case h7 => intro w hSw; (try dsimp only at hSw); go_simp; try with_reducible rfl
      try simp only [Act.put, List.setIfInBounds_toArray, List.set_cons_zero, List.set_cons_succ]
      refine wpAnyH_ready (rs := [2]) (by kernel_rfl) (by simp) ?_
      refine AllReadyH.cons (o := ⟨some 37, _, _, _, _, _⟩) rfl (fun K hK => ?_) AllReadyH.nil
      rw [if_pos (by kernel_rfl)]
      go_simp
      refine (cap_any (hm.same (Sep.drew _ _)) 0).mono ?_
      rintro e w2 ⟨rfl, hs2⟩
      rw [show capOf (two s t) 0 = .agg #[.int .i64 0, .int .u64 1] from rfl]
      refine hK.out _ _ ?_ (fun hHeld => ?_)
      · exact hs2.cell hHeld
      clear hK K
      try simp only [Act.put, List.setIfInBounds_toArray, List.set_cons_zero, List.set_cons_succ]
      refine wpAnyH_ready (rs := [8]) (by kernel_rfl) (by simp) ?_
      refine AllReadyH.cons (o := ⟨some 43, _, _, _, _, _⟩) rfl (fun K hK => ?_) AllReadyH.nil
      rw [if_pos (by kernel_rfl)]
      go_simp
      refine (do_yes (hm.same ((Sep.drew _ _).trans hs2)) 0 1 3 0 x 0 (by omega) (by rfl)).mono ?_
      rintro e w3 ⟨rfl, hm3, hs3⟩
      rw [show peekOf (two s t) 0 0 = s from rfl]
      replace hm3 : Mem lo hi w3 p (two (IntKind.u64.wrap (s + x)) t) (2 * j + 1) := hm3
      refine hK.out _ _ ?_ (fun hHeld => ?_)
      · exact Sep.cell hs3 hHeld (show ¬ (lo ≤ b ∧ b < hi) by omega)
      clear hK K
      try simp only [Act.put, List.setIfInBounds_toArray, List.set_cons_zero, List.set_cons_succ]
      refine wpAnyH_take (i := 9) (oi := ⟨some 34, _, _, _, _, _⟩) (v := ?v10) rfl (by kernel_rfl) (by kernel_rfl) (by kernel_rfl) (fun _ _ _ h => h) (Or.inl ⟨by kernel_rfl, ?h10⟩) hHeld ?_
      case h10 => intro w hSw; (try dsimp only at hSw); go_simp; try with_reducible rfl
      try simp only [Act.put, List.setIfInBounds_toArray, List.set_cons_zero, List.set_cons_succ]
      refine wpAnyH_take (i := 10) (oi := ⟨some 44, _, _, _, _, _⟩) (v := ?v11) rfl (by kernel_rfl) (by kernel_rfl) (by kernel_rfl) (fun _ _ _ h => h) (Or.inl ⟨by kernel_rfl, ?h11⟩) hHeld ?_
      case h11 => intro w hSw; (try dsimp only at hSw); go_simp; try with_reducible rfl
      try simp only [Act.put, List.setIfInBounds_toArray, List.set_cons_zero, List.set_cons_succ]
      refine wpAnyH_take (i := 11) (oi := ⟨some 45, _, _, _, _, _⟩) (v := ?v12) rfl (by kernel_rfl) (by kernel_rfl) (by kernel_rfl) (fun _ _ _ h => h) (Or.inl ⟨by kernel_rfl, ?h12⟩) hHeld ?_
      case h12 => intro w hSw; (try dsimp only at hSw); go_simp; try with_reducible rfl
      try simp only [Act.put, List.setIfInBounds_toArray, List.set_cons_zero, List.set_cons_succ]
      refine wpAnyH_take (i := 12) (oi := ⟨some 7, _, _, _, _, _⟩) (v := ?v13) rfl (by kernel_rfl) (by kernel_rfl) (by kernel_rfl) (fun _ _ _ h => h) (Or.inl ⟨by kernel_rfl, ?h13⟩) hHeld ?_
      case h13 => intro w hSw; (try dsimp only at hSw); go_simp; try with_reducible rfl
      try simp only [Act.put, List.setIfInBounds_toArray, List.set_cons_zero, List.set_cons_succ]
      refine wpAnyH_take (i := 13) (oi := ⟨some 8, _, _, _, _, _⟩) (v := ?v14) rfl (by kernel_rfl) (by kernel_rfl) (by kernel_rfl) (fun _ _ _ h => h) (Or.inl ⟨by kernel_rfl, ?h14⟩) hHeld ?_
      case h14 => intro w hSw; (try dsimp only at hSw); go_simp; try with_reducible rfl
      try simp only [Act.put, List.setIfInBounds_toArray, List.set_cons_zero, List.set_cons_succ]
      refine wpAnyH_done (by kernel_rfl) ?_ _
      have bel3 : Below w.heap.size w w3 := below_in (below_same bel ((Sep.drew _ _).trans hs2) bel.size) hs3 hlo (Nat.le_trans bel.size ((Sep.drew (fun _ => False) wr).trans hs2).size)
      clear hm hs2 hs3 gx bel
      go_wp2_with fail
      have gy := (bel3.cell (p := ⟨b, off + m, none⟩) hbl).trans HY.out
      have hw1 : IntKind.i64.wrap ((l.length : Int) - 1) = (l.length : Int) - 1 := IntWalk.i64_in _ (by omega)
      have hw2 : IntKind.i64.wrap ((l.length : Int) - 1 - (j : Int)) = (m : Int) := by rw [IntWalk.i64_in _ (by omega)]; have := HM.out; omega
      have hm0 : (0 : Int) ≤ (m : Int) := Int.natCast_nonneg _
      have hm1 : (m : Int) < (l.length : Int) := by omega
      refine wp_region_held_drew (S := (fun v => v.cell? ⟨b, off + m, none⟩ = some (.int .u64 y))) (by kernel_rfl) ?_ (fun hHeld => ?_)
      · exact (Sep.drew (fun _ => False) w3).cell gy (fun x => x)
      change wpAnyH _ _ _ _ _ 13 _ _ _
      refine wpAnyH_take (i := 0) (oi := ⟨some 59, _, _, _, _, _⟩) (v := ?v15) rfl (by kernel_rfl) (by kernel_rfl) (by kernel_rfl) (fun _ _ _ h => h) (Or.inl ⟨by kernel_rfl, ?h15⟩) hHeld ?_
      case h15 => intro w hSw; (try dsimp only at hSw); go_simp; try with_reducible rfl
      try simp only [Act.put, List.setIfInBounds_toArray, List.set_cons_zero, List.set_cons_succ]
      refine wpAnyH_take (i := 1) (oi := ⟨some 60, _, _, _, _, _⟩) (v := ?v16) rfl (by kernel_rfl) (by kernel_rfl) (by kernel_rfl) (fun _ _ _ h => h) (Or.inl ⟨by kernel_rfl, ?h16⟩) hHeld ?_
      case h16 => intro w hSw; (try dsimp only at hSw); go_simp; try with_reducible rfl
      try simp only [Act.put, List.setIfInBounds_toArray, List.set_cons_zero, List.set_cons_succ]
      refine wpAnyH_take (i := 3) (oi := ⟨some 62, _, _, _, _, _⟩) (v := ?v17) rfl (by kernel_rfl) (by kernel_rfl) (by kernel_rfl) (fun _ _ _ h => h) (Or.inl ⟨by kernel_rfl, ?h17⟩) hHeld ?_
      case h17 => intro w hSw; (try dsimp only at hSw); go_simp; try with_reducible rfl
      try simp only [Act.put, List.setIfInBounds_toArray, List.set_cons_zero, List.set_cons_succ]
      refine wpAnyH_take (i := 4) (oi := ⟨some 63, _, _, _, _, _⟩) (v := ?v18) rfl (by kernel_rfl) (by kernel_rfl) (by kernel_rfl) (fun _ _ _ h => h) (Or.inl ⟨by kernel_rfl, ?h18⟩) hHeld ?_
      case h18 => intro w hSw; (try dsimp only at hSw); go_simp; try with_reducible rfl
      try simp only [Act.put, List.setIfInBounds_toArray, List.set_cons_zero, List.set_cons_succ]
      refine wpAnyH_take (i := 5) (oi := ⟨some 64, _, _, _, _, _⟩) (v := ?v19) rfl (by kernel_rfl) (by kernel_rfl) (by kernel_rfl) (fun _ _ _ h => h) (Or.inl ⟨by kernel_rfl, ?h19⟩) hHeld ?_
      case h19 => intro w hSw; (try dsimp only at hSw); go_simp; try with_reducible rfl
      try simp only [Act.put, List.setIfInBounds_toArray, List.set_cons_zero, List.set_cons_succ]
      refine wpAnyH_take (i := 6) (oi := ⟨some 65, _, _, _, _, _⟩) (v := ?v20) rfl (by kernel_rfl) (by kernel_rfl) (by kernel_rfl) (fun _ _ _ h => h) (Or.inl ⟨by kernel_rfl, ?h20⟩) hHeld ?_
      case h20 => intro w hSw; (try dsimp only at hSw); go_simp; try with_reducible rfl
      try simp only [Act.put, List.setIfInBounds_toArray, List.set_cons_zero, List.set_cons_succ]
      refine wpAnyH_take (i := 7) (oi := ⟨some 66, _, _, _, _, _⟩) (v := ?v21) rfl (by kernel_rfl) (by kernel_rfl) (by kernel_rfl) (fun _ _ _ h => h) (Or.inl ⟨by kernel_rfl, ?h21⟩) hHeld ?_
      case h21 => intro w hSw; (try dsimp only at hSw); go_simp; try with_reducible rfl
      try simp only [Act.put, List.setIfInBounds_toArray, List.set_cons_zero, List.set_cons_succ]
      refine wpAnyH_take (i := 8) (oi := ⟨some 67, _, _, _, _, _⟩) (v := ?v22) rfl (by kernel_rfl) (by kernel_rfl) (by kernel_rfl) (fun _ _ _ h => h) (Or.inl ⟨by kernel_rfl, ?h22⟩) hHeld ?_
      case h22 => intro w hSw; (try dsimp only at hSw); go_simp; try with_reducible rfl
      try simp only [Act.put, List.setIfInBounds_toArray, List.set_cons_zero, List.set_cons_succ]
      refine wpAnyH_take (i := 9) (oi := ⟨some 68, _, _, _, _, _⟩) (v := ?v23) rfl (by kernel_rfl) (by kernel_rfl) (by kernel_rfl) (fun _ _ _ h => h) (Or.inl ⟨by kernel_rfl, ?h23⟩) hHeld ?_
      case h23 => intro w hSw; (try dsimp only at hSw); go_simp; try with_reducible rfl
      try simp only [Act.put, List.setIfInBounds_toArray, List.set_cons_zero, List.set_cons_succ]
      refine wpAnyH_take (i := 10) (oi := ⟨some 69, _, _, _, _, _⟩) (v := ?v24) rfl (by kernel_rfl) (by kernel_rfl) (by kernel_rfl) (fun _ _ _ h => h) (Or.inl ⟨by kernel_rfl, ?h24⟩) hHeld ?_
      case h24 => intro w hSw; (try dsimp only at hSw); go_simp; try with_reducible rfl
      try simp only [Act.put, List.setIfInBounds_toArray, List.set_cons_zero, List.set_cons_succ]
      refine wpAnyH_take (i := 11) (oi := ⟨some 70, _, _, _, _, _⟩) (v := ?v25) rfl (by kernel_rfl) (by kernel_rfl) (by kernel_rfl) (fun _ _ _ h => h) (Or.inl ⟨by kernel_rfl, ?h25⟩) hHeld ?_
      case h25 => intro w hSw; (try dsimp only at hSw); go_simp; try with_reducible rfl
      try simp only [Act.put, List.setIfInBounds_toArray, List.set_cons_zero, List.set_cons_succ]
      refine wpAnyH_ready (rs := [2]) (by kernel_rfl) (by simp) ?_
      refine AllReadyH.cons (o := ⟨some 61, _, _, _, _, _⟩) rfl (fun K hK => ?_) AllReadyH.nil
      rw [if_pos (by kernel_rfl)]
      go_simp
      refine (cap_any (hm3.same (Sep.drew _ _)) 1).mono ?_
      rintro e w4 ⟨rfl, hs4⟩
      rw [show capOf (two (IntKind.u64.wrap (s + x)) t) 1 = .agg #[.int .i64 1, .int .u64 1] from rfl]
      refine hK.out _ _ ?_ (fun hHeld => ?_)
      · exact hs4.cell hHeld
      clear hK K
      try simp only [Act.put, List.setIfInBounds_toArray, List.set_cons_zero, List.set_cons_succ]
      refine wpAnyH_ready (rs := [12]) (by kernel_rfl) (by simp) ?_
      refine AllReadyH.cons (o := ⟨some 71, _, _, _, _, _⟩) rfl (fun K hK => ?_) AllReadyH.nil
      rw [if_pos (by kernel_rfl)]
      go_simp
      refine (do_yes (hm3.same ((Sep.drew _ _).trans hs4)) 1 1 3 0 y 0 (by omega) (by rfl)).mono ?_
      rintro e w5 ⟨rfl, hm5, hs5⟩
      replace hm5 : Mem lo hi w5 p (two (IntKind.u64.wrap (s + x)) (IntKind.u64.wrap (t + y))) (2 * j + 1 + 1) := hm5
      refine hK.out _ _ ?_ (fun hHeld => ?_)
      · exact Sep.cell hs5 hHeld (show ¬ (lo ≤ b ∧ b < hi) by omega)
      clear hK K
      try simp only [Act.put, List.setIfInBounds_toArray, List.set_cons_zero, List.set_cons_succ]
      refine wpAnyH_done (by kernel_rfl) ?_ _
      clear hw1 hw2
      have bel5 : Below w.heap.size w w5 := below_in (below_same bel3 ((Sep.drew _ _).trans hs4) bel3.size) hs5 hlo (Nat.le_trans bel3.size ((Sep.drew (fun _ => False) w3).trans hs4).size)
      go_wp2
      go_roundw
      case rel => exact ⟨j + 1, by omega, by go_num, by rw [E1.out], by rw [E1.out, E2.out]; exact hm5, bel5⟩
      case measure => simp [intOf]; omega
    · rw [List.take_of_length_le (by omega), List.take_of_length_le (by simp; omega), wsum_rev] at hm
      rw [List.take_of_length_le (by omega)]
      obtain ⟨s, hse⟩ : ∃ s, s = wsum l := ⟨_, rfl⟩
      rw [← hse] at hm ⊢
      clear hse
      go_wp2_with fail
      refine (peek_any hm 0 0).mono ?_
      rintro e w2 ⟨rfl, rfl⟩
      rw [show peekOf (two s s) 0 0 = s from rfl]
      go_wp2_with fail
      refine (peek_any hm 1 0).mono ?_
      rintro e w2 ⟨rfl, rfl⟩
      rw [show peekOf (two s s) 1 0 = s from rfl]
      go_wp2
      go_ret
      exact ⟨rfl, bel⟩
end Go.Proofs.Ytiljledgoflogaa
