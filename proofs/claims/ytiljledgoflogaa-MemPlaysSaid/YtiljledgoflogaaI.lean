/- The walks of MemStale and MemRegions. -/
import Derived.Test.YtiljledgoflogaaG
namespace Go.Proofs.Ytiljledgoflogaa
open Go.RowKit
set_option linter.unusedSimpArgs false
set_option linter.unusedVariables false

/-- An access, as data. -/
structure Acc where
  op : Int
  at_ : Int
  x : Int
  y : Int
  deriving Inhabited
/-- What is known of a slice of accesses that came in. -/
def RowA (w : World) (a : Option Addr) (l : List Acc) : Prop := l = [] ∨ ∃ b off, a = some ⟨b, off, none⟩ ∧ b < w.heap.size ∧ ∀ i, i < l.length →
  w.cell? ⟨b, off + i * 4, none⟩ = some (.int .i64 (l.getD i default).op) ∧ w.cell? ⟨b, off + i * 4 + 1, none⟩ = some (.int .i64 (l.getD i default).at_) ∧
  w.cell? ⟨b, off + i * 4 + 2, none⟩ = some (.int .u64 (l.getD i default).x) ∧ w.cell? ⟨b, off + i * 4 + 3, none⟩ = some (.int .u64 (l.getD i default).y)

theorem stale_long (a0 : Option Addr) (n0 c0 : Nat) (z : Int) (h : 40 < n0) (w : World) : Calls Try.prog 7 #[.slice a0 n0 c0, .int .u8 z] w fun e w' => e = .returned (.bool true) ∧ Below w.heap.size w w' := by
  go_enter Try.func7, Try.ntmps7
  go_wp2_with fail
  refine (awake_ok _).mono ?_
  rintro e w0 ⟨rfl, bel0⟩
  go_wp2_with fail
  refine (awake_ok _).mono ?_
  rintro e w1 ⟨rfl, bel1⟩
  go_wp2
  go_ret
  exact ⟨rfl, bel0.trans (bel1.mono bel0.size)⟩
theorem regions_long (a0 : Option Addr) (n0 c0 : Nat) (z : Int) (h : 40 < n0) (w : World) : Calls Try.prog 6 #[.slice a0 n0 c0, .int .u8 z] w fun e w' => e = .returned (.bool true) ∧ Below w.heap.size w w' := by
  go_enter Try.func6, Try.ntmps6
  go_wp2_with fail
  refine (awake_ok _).mono ?_
  rintro e w0 ⟨rfl, bel0⟩
  go_wp2_with fail
  refine (awake_ok _).mono ?_
  rintro e w1 ⟨rfl, bel1⟩
  go_wp2
  go_ret
  exact ⟨rfl, bel0.trans (bel1.mono bel0.size)⟩

theorem field_ep (x y : Int) (w : World) : (Instr.field 33 (.agg #[.int .i64 x, .int .u64 y]) 1).run Try.prog w = .ok (.int .u64 y) w := by kernel_rfl

def stale (e : Nat) : List Reg := [⟨List.replicate 8 0, e⟩, ⟨List.replicate 8 0, 1⟩]
theorem stale_bad (e : Nat) (h : 1 < e) (op at_ : Int) : okB (stale e) 0 1 op at_ = false := by
  have : goodB (stale e) 0 1 = false := decide_eq_false (by simp [stale]; omega)
  unfold okB
  rw [this]
  rfl
theorem stale_peek (e j : Nat) (i : Int) (h : j < 8) (hi : i = 0 ∨ i = 1) : peekOf (stale e) i j = 0 := by
  rcases hi with rfl | rfl
  · rcases (show j = 0 ∨ j = 1 ∨ j = 2 ∨ j = 3 ∨ j = 4 ∨ j = 5 ∨ j = 6 ∨ j = 7 by omega) with rfl | rfl | rfl | rfl | rfl | rfl | rfl | rfl <;> rfl
  · rcases (show j = 0 ∨ j = 1 ∨ j = 2 ∨ j = 3 ∨ j = 4 ∨ j = 5 ∨ j = 6 ∨ j = 7 by omega) with rfl | rfl | rfl | rfl | rfl | rfl | rfl | rfl <;> rfl

set_option maxRecDepth 100000 in
set_option maxHeartbeats 2000000 in
theorem stale_walk (a0 : Option Addr) (c0 : Nat) (l : List Acc) (m : Nat) (hl : l.length ≤ 40) (hmb : m ≤ 255) (w : World) (r0 : RowA w a0 l) : Calls Try.prog 7 #[.slice a0 l.length c0, .int .u8 m] w fun e w' => e = .returned (.bool true) ∧ Below w.heap.size w w' := by
  have hfd := field_ep
  go_enter Try.func7, Try.ntmps7
  go_wp2_with fail
  refine (awake_ok _).mono ?_
  rintro e w0 ⟨rfl, bel0⟩
  go_wp2_with fail
  refine (new_lit w0 [8, 8] _ 2 rfl rfl (by decide) (by decide)).mono ?_
  rintro e w1 ⟨p, lo, hi, rfl, hm, hs, hlo', hhi⟩
  have bel1 := below_same bel0 hs bel0.size
  have hlo : w.heap.size ≤ lo := Nat.le_trans bel0.size hlo'
  clear hs bel0 hlo'
  go_wp2_with fail
  refine (cap_any hm 0).mono ?_
  rintro e w2 ⟨rfl, hs2⟩
  rw [show capOf ((([8, 8] : List Int)).map fun z => (⟨List.replicate z.toNat 0, 1⟩ : Reg)) 0 = .agg #[.int .i64 0, .int .u64 1] from rfl]
  have hcb : hi ≤ w2.heap.size := by rw [← hhi]; exact hs2.size
  have bel2 := (below_same bel1 hs2 bel1.size).alloc (Nat.le_trans bel1.size hs2.size) (.cells #[.int .i64 0, .int .u64 1] 33)
  have hm2 : Mem lo hi (w2.alloc (.cells #[.int .i64 0, .int .u64 1] 33)) p (stale 1) 0 := (hm.same hs2).same (Sep.alloc _ _ (.cells #[.int .i64 0, .int .u64 1] 33))
  have hcbo : (w2.alloc (.cells #[.int .i64 0, .int .u64 1] 33)).heap[w2.heap.size]? = some (.cells #[.int .i64 0, .int .u64 1] 33) := heap_alloc_new _ _
  have d0 : (w2.alloc (.cells #[.int .i64 0, .int .u64 1] 33)).cell? ⟨w2.heap.size, 0, none⟩ = some (.int .i64 0) := by rw [cell_of_heap hcbo]; rfl
  have d1 : (w2.alloc (.cells #[.int .i64 0, .int .u64 1] 33)).cell? ⟨w2.heap.size, 1, none⟩ = some (.int .u64 1) := by rw [cell_of_heap hcbo]; rfl
  obtain ⟨cb, hcbe⟩ : ∃ cb, cb = w2.heap.size := ⟨_, rfl⟩
  rw [← hcbe] at hcb d0 d1
  have HCB := Lib.hid hcbe
  clear hm hs2 hhi bel1 hcbo hcbe
  go_wp2
  rw [← HCB.out]
  go_loopw [8] (fun i wr => ∃ j : Nat, j ≤ m % 5 + 1 ∧ i = .int .i64 j ∧ Mem lo hi wr p (stale (1 + j)) 0 ∧ wr.cell? ⟨cb, 0, none⟩ = some (.int .i64 0) ∧ wr.cell? ⟨cb, 1, none⟩ = some (.int .u64 1) ∧ Below w.heap.size w wr) (fun i _ => m % 5 + 1 - (intOf i).toNat)
  case atStart => exact ⟨0, by omega, rfl, hm2, d0, d1, bel2⟩
  case round =>
    clear hm2 d0 d1 bel2
    obtain ⟨j, hj, rfl, hm, d0, d1, bel⟩ := hrel
    by_cases hlt : j ≤ m % 5
    · go_wp2_with fail
      refine (bump_at hm (i := 0) (by simp [stale]) 0 rfl ⟨List.replicate 8 0, 1 + j⟩ rfl (by show 1 + j < 1000000; omega)).mono ?_
      rintro e w3 ⟨rfl, hm3, hs3⟩
      replace hm3 : Mem lo hi w3 p (stale (1 + (j + 1))) 0 := hm3
      have bel3 := below_in bel hs3 hlo bel.size
      have d0' := Sep.cell hs3 d0 (show ¬ (lo ≤ cb ∧ cb < hi) by omega)
      have d1' := Sep.cell hs3 d1 (show ¬ (lo ≤ cb ∧ cb < hi) by omega)
      clear hm d0 d1 bel hs3
      go_wp2
      go_roundw
      case rel => exact ⟨j + 1, by omega, by go_num, hm3, d0', d1', bel3⟩
      case measure => simp [intOf]; omega
    · obtain ⟨ep, hep⟩ : ∃ ep, ep = m % 5 + 2 := ⟨_, rfl⟩
      rw [show 1 + j = ep by omega] at hm
      have hep1 : 1 < ep := by omega
      have hep9 : ep < 100 := by omega
      have HEP := Lib.hid hep
      clear hep
      go_wp2
      go_loopw [9] (fun i wr => ∃ j : Nat, j ≤ l.length ∧ i = .int .i64 j ∧ Mem lo hi wr p (stale ep) 0 ∧ wr.cell? ⟨cb, 0, none⟩ = some (.int .i64 0) ∧ wr.cell? ⟨cb, 1, none⟩ = some (.int .u64 1) ∧ Below w.heap.size w wr) (fun i _ => l.length - (intOf i).toNat)
      case atStart => exact ⟨0, by omega, rfl, hm, d0, d1, bel⟩
      case round =>
        clear hm d0 d1 bel
        obtain ⟨j, hj, rfl, hm, d0, d1, bel⟩ := hrel
        by_cases hlt : j < l.length
        · obtain ⟨b, off, rfl, hbl, hcell⟩ := r0.resolve_left (fun e => by have h0 : l.length = 0 := (by rw [e]; rfl); omega)
          obtain ⟨⟨op, at_, x, y⟩, hA⟩ : ∃ A, A = l.getD j default := ⟨_, rfl⟩
          have hc := hcell j hlt
          rw [← hA] at hc
          dsimp only at hc
          obtain ⟨hc0, hc1, hc2, hc3⟩ := hc
          have g0 := (bel.cell (p := ⟨b, off + j * 4, none⟩) hbl).trans hc0
          have g1 := (bel.cell (p := ⟨b, off + j * 4 + 1, none⟩) hbl).trans hc1
          have g2 := (bel.cell (p := ⟨b, off + j * 4 + 2, none⟩) hbl).trans hc2
          have g3 := (bel.cell (p := ⟨b, off + j * 4 + 3, none⟩) hbl).trans hc3
          have hj0 : (0 : Int) ≤ (j : Int) := Int.natCast_nonneg _
          have hj1 : (j : Int) < (l.length : Int) := by omega
          have hbad := stale_bad ep hep1 op at_
          have HBAD := Lib.hid hbad
          clear hcell hA hc0 hc1 hc2 hc3 hbad
          go_wp2_with fail
          refine wp_region_held_drew (S := (fun v => v.cell? ⟨cb, 0, none⟩ = some (.int .i64 0) ∧ v.cell? ⟨cb, 1, none⟩ = some (.int .u64 1) ∧ v.cell? ⟨b, off + j * 4, none⟩ = some (.int .i64 op) ∧ v.cell? ⟨b, off + j * 4 + 1, none⟩ = some (.int .i64 at_) ∧ v.cell? ⟨b, off + j * 4 + 2, none⟩ = some (.int .u64 x) ∧ v.cell? ⟨b, off + j * 4 + 3, none⟩ = some (.int .u64 y))) (by kernel_rfl) ?_ (fun hHeld => ?_)
          · exact ⟨(Sep.drew (fun _ => False) wr).cell d0 (fun x => x), (Sep.drew (fun _ => False) wr).cell d1 (fun x => x), (Sep.drew (fun _ => False) wr).cell g0 (fun x => x), (Sep.drew (fun _ => False) wr).cell g1 (fun x => x), (Sep.drew (fun _ => False) wr).cell g2 (fun x => x), (Sep.drew (fun _ => False) wr).cell g3 (fun x => x)⟩
          change wpAnyH _ _ _ _ _ 12 _ _ _
          refine wpAnyH_take (i := 0) (oi := ⟨some 54, _, _, _, _, _⟩) (v := ?v1) rfl (by kernel_rfl) (by kernel_rfl) (by kernel_rfl) (fun _ _ _ h => h) (Or.inl ⟨by kernel_rfl, ?h1⟩) hHeld ?_
          case h1 => intro w hSw; (try dsimp only at hSw); go_simp; try with_reducible rfl
          try simp only [Act.put, List.setIfInBounds_toArray, List.set_cons_zero, List.set_cons_succ]
          refine wpAnyH_take (i := 1) (oi := ⟨some 55, _, _, _, _, _⟩) (v := ?v2) rfl (by kernel_rfl) (by kernel_rfl) (by kernel_rfl) (fun _ _ _ h => h) (Or.inl ⟨by kernel_rfl, ?h2⟩) hHeld ?_
          case h2 => intro w hSw; (try dsimp only at hSw); go_simp; try with_reducible rfl
          try simp only [Act.put, List.setIfInBounds_toArray, List.set_cons_zero, List.set_cons_succ]
          refine wpAnyH_take (i := 2) (oi := ⟨some 56, _, _, _, _, _⟩) (v := ?v3) rfl (by kernel_rfl) (by kernel_rfl) (by kernel_rfl) (fun _ _ _ h => h) (Or.inl ⟨by kernel_rfl, ?h3⟩) hHeld ?_
          case h3 => intro w hSw; (try dsimp only at hSw); go_simp; try with_reducible rfl
          try simp only [Act.put, List.setIfInBounds_toArray, List.set_cons_zero, List.set_cons_succ]
          refine wpAnyH_take (i := 3) (oi := ⟨some 57, _, _, _, _, _⟩) (v := ?v4) rfl (by kernel_rfl) (by kernel_rfl) (by kernel_rfl) (fun _ _ _ h => h) (Or.inl ⟨by kernel_rfl, ?h4⟩) hHeld ?_
          case h4 => intro w hSw; (try dsimp only at hSw); go_simp; try with_reducible rfl
          try simp only [Act.put, List.setIfInBounds_toArray, List.set_cons_zero, List.set_cons_succ]
          refine wpAnyH_take (i := 4) (oi := ⟨some 58, _, _, _, _, _⟩) (v := ?v5) rfl (by kernel_rfl) (by kernel_rfl) (by kernel_rfl) (fun _ _ _ h => h) (Or.inl ⟨by kernel_rfl, ?h5⟩) hHeld ?_
          case h5 => intro w hSw; (try dsimp only at hSw); go_simp; try with_reducible rfl
          try simp only [Act.put, List.setIfInBounds_toArray, List.set_cons_zero, List.set_cons_succ]
          refine wpAnyH_take (i := 5) (oi := ⟨some 59, _, _, _, _, _⟩) (v := ?v6) rfl (by kernel_rfl) (by kernel_rfl) (by kernel_rfl) (fun _ _ _ h => h) (Or.inl ⟨by kernel_rfl, ?h6⟩) hHeld ?_
          case h6 => intro w hSw; (try dsimp only at hSw); go_simp; try with_reducible rfl
          try simp only [Act.put, List.setIfInBounds_toArray, List.set_cons_zero, List.set_cons_succ]
          refine wpAnyH_ready (rs := [6]) (by kernel_rfl) (by simp) ?_
          refine AllReadyH.cons (o := ⟨some 60, _, _, _, _, _⟩) rfl (fun K hK => ?_) AllReadyH.nil
          rw [if_pos (by kernel_rfl)]
          go_simp
          refine (do_no (hm.same (Sep.drew _ _)) 0 1 op at_ x y HBAD.out).mono ?_
          rintro e w3 ⟨rfl, hs3⟩
          refine hK.out _ _ ?_ (fun hHeld => ?_)
          · exact ⟨hs3.cell hHeld.1, hs3.cell hHeld.2.1, hs3.cell hHeld.2.2.1, hs3.cell hHeld.2.2.2.1, hs3.cell hHeld.2.2.2.2.1, hs3.cell hHeld.2.2.2.2.2⟩
          clear hK K
          try simp only [Act.put, List.setIfInBounds_toArray, List.set_cons_zero, List.set_cons_succ]
          refine wpAnyH_take (i := 7) (oi := ⟨some 53, _, _, _, _, _⟩) (v := ?v8) rfl (by kernel_rfl) (by kernel_rfl) (by kernel_rfl) (fun _ _ _ h => h) (Or.inl ⟨by kernel_rfl, ?h8⟩) hHeld ?_
          case h8 => intro w hSw; (try dsimp only at hSw); go_simp; try with_reducible rfl
          try simp only [Act.put, List.setIfInBounds_toArray, List.set_cons_zero, List.set_cons_succ]
          refine wpAnyH_take (i := 8) (oi := ⟨some 61, _, _, _, _, _⟩) (v := ?v9) rfl (by kernel_rfl) (by kernel_rfl) (by kernel_rfl) (fun _ _ _ h => h) (Or.inl ⟨by kernel_rfl, ?h9⟩) hHeld ?_
          case h9 => intro w hSw; (try dsimp only at hSw); go_simp; try with_reducible rfl
          try simp only [Act.put, List.setIfInBounds_toArray, List.set_cons_zero, List.set_cons_succ]
          refine wpAnyH_take (i := 9) (oi := ⟨some 62, _, _, _, _, _⟩) (v := ?v10) rfl (by kernel_rfl) (by kernel_rfl) (by kernel_rfl) (fun _ _ _ h => h) (Or.inl ⟨by kernel_rfl, ?h10⟩) hHeld ?_
          case h10 => intro w hSw; (try dsimp only at hSw); go_simp; try with_reducible rfl
          try simp only [Act.put, List.setIfInBounds_toArray, List.set_cons_zero, List.set_cons_succ]
          refine wpAnyH_take (i := 10) (oi := ⟨some 10, _, _, _, _, _⟩) (v := ?v11) rfl (by kernel_rfl) (by kernel_rfl) (by kernel_rfl) (fun _ _ _ h => h) (Or.inl ⟨by kernel_rfl, ?h11⟩) hHeld ?_
          case h11 => intro w hSw; (try dsimp only at hSw); go_simp; try with_reducible rfl
          try simp only [Act.put, List.setIfInBounds_toArray, List.set_cons_zero, List.set_cons_succ]
          refine wpAnyH_take (i := 11) (oi := ⟨some 11, _, _, _, _, _⟩) (v := ?v12) rfl (by kernel_rfl) (by kernel_rfl) (by kernel_rfl) (fun _ _ _ h => h) (Or.inl ⟨by kernel_rfl, ?h12⟩) hHeld ?_
          case h12 => intro w hSw; (try dsimp only at hSw); go_simp; try with_reducible rfl
          try simp only [Act.put, List.setIfInBounds_toArray, List.set_cons_zero, List.set_cons_succ]
          refine wpAnyH_done (by kernel_rfl) ?_ _
          have hd : Same wr w3 := (Sep.drew _ _).trans hs3
          have bel3 := below_same bel hd bel.size
          have hm3 := hm.same hd
          have d0' := hHeld.1
          have d1' := hHeld.2.1
          clear hm d0 d1 bel hs3 hHeld g0 g1 g2 g3 hd
          go_wp2
          go_roundw
          case rel => exact ⟨j + 1, by omega, by go_num, hm3, d0', d1', bel3⟩
          case measure => simp [intOf]; omega
        · go_wp2
          go_loopw [12] (fun i wr => ∃ j : Nat, j ≤ 8 ∧ i = .int .i64 j ∧ Mem lo hi wr p (stale ep) 0 ∧ Below w.heap.size w wr) (fun i _ => 8 - (intOf i).toNat)
          case atStart => exact ⟨0, by omega, rfl, hm, bel⟩
          case round =>
            clear hm d0 d1 bel
            obtain ⟨j, hj, rfl, hm, bel⟩ := hrel
            by_cases hlt : j < 8
            · go_wp2_with fail
              refine (peek_any hm 0 j).mono ?_
              rintro e w4 ⟨rfl, rfl⟩
              rw [stale_peek ep j 0 hlt (.inl rfl)]
              go_wp2_with fail
              refine (peek_any hm 1 j).mono ?_
              rintro e w4 ⟨rfl, rfl⟩
              rw [stale_peek ep j 1 hlt (.inr rfl)]
              go_wp2
              go_roundw
              case rel => exact ⟨j + 1, by omega, by go_num, hm, bel⟩
              case measure => simp [intOf]; omega
            · go_wp2_with fail
              refine (cap_any hm 0).mono ?_
              rintro e w4 ⟨rfl, hs4⟩
              rw [show capOf (stale ep) 0 = .agg #[.int .i64 0, .int .u64 ep] from rfl]
              go_wp2_with fail
              refine (do_yes (hm.same hs4) 0 ep 0 0 0 0 (by omega) (by simp [okB, goodB, sizeOf, stale])).mono ?_
              rintro e w5 ⟨rfl, hm5, hs5⟩
              replace hm5 : Mem lo hi w5 p (stale ep) 1 := hm5
              have bel5 := below_in (below_same bel hs4 bel.size) hs5 hlo (Nat.le_trans bel.size hs4.size)
              clear hm hs4 hs5 bel
              go_wp2_with fail
              refine (cap_any hm5 1).mono ?_
              rintro e w6 ⟨rfl, hs6⟩
              rw [show capOf (stale ep) 1 = .agg #[.int .i64 1, .int .u64 1] from rfl]
              go_wp2_with fail
              refine (do_yes (hm5.same hs6) 1 1 0 0 0 0 (by omega) (by simp [okB, goodB, sizeOf, stale])).mono ?_
              rintro e w7 ⟨rfl, hm7, hs7⟩
              replace hm7 : Mem lo hi w7 p (stale ep) 2 := hm7
              have bel7 := below_in (below_same bel5 hs6 bel5.size) hs7 hlo (Nat.le_trans bel5.size hs6.size)
              clear hm5 hs6 hs7 bel5
              go_wp2_with fail
              refine (count_any hm7).mono ?_
              rintro e w8 ⟨rfl, rfl⟩
              go_wp2_with fail
              refine (cap_any hm7 0).mono ?_
              rintro e w9 ⟨rfl, hs9⟩
              rw [show capOf (stale ep) 0 = .agg #[.int .i64 0, .int .u64 ep] from rfl, HEP.out]
              have bel9 := below_same bel7 hs9 bel7.size
              go_wp2
              go_ret
              exact ⟨by simp; try omega, bel9⟩

/-- Whatever is done, in one step: what is left of the other regions, and of the epochs. -/
def DoAny (lo hi p : Nat) (w : World) (L : List Reg) (k cnt : Nat) (e : Ending) (w' : World) : Prop :=
  ∃ (v : Int) (ok : Bool) (L' : List Reg) (cnt' : Nat), e = .returned (.tuple #[.int .u64 v, .bool ok]) ∧ Mem lo hi w' p L' cnt' ∧ In lo hi w w' ∧ cnt' ≤ cnt + 1 ∧ L'.length = L.length ∧ (∀ i, i ≠ k → L'.getD i default = L.getD i default) ∧ (L'.getD k default).ep = (L.getD k default).ep
theorem do_any {lo hi p cnt : Nat} {w : World} {L : List Reg} (h : Mem lo hi w p L cnt) (hc : cnt < 1000000000) (k : Nat) (ce op at_ x y : Int) :
    Calls Try.prog 23 #[.pointer (some ⟨p, 0, none⟩), .agg #[.int .i64 k, .int .u64 ce], .agg #[.int .i64 op, .int .i64 at_, .int .u64 x, .int .u64 y]] w (DoAny lo hi p w L k cnt) := by
  cases hok : okB L k ce op at_ with
  | false =>
    refine (do_no h k ce op at_ x y hok).mono ?_
    rintro e w' ⟨rfl, hs⟩
    exact ⟨_, _, L, cnt, rfl, h.same hs, hs.sep _, by omega, rfl, fun _ _ => rfl, rfl⟩
  | true =>
    refine (do_yes h k ce op at_ x y hc hok).mono ?_
    rintro e w' ⟨rfl, hm, hs⟩
    obtain ⟨i, j, hi, hj, hL, hjl, _⟩ := ok_parts hok
    obtain rfl : k = i := by omega
    refine ⟨_, _, _, _, rfl, hm, hs, Nat.le_refl _, by simp [doL], fun q hq => ?_, ?_⟩
    · unfold doL
      by_cases hql : q < L.length
      · rw [getD_set L _ q _ hql, if_neg (by simpa using hq.symm)]
      · simp only [List.getD]
        rw [List.getElem?_eq_none (by simp; omega), List.getElem?_eq_none (by omega)]
    · unfold doL
      rw [getD_set L _ k _ hL, if_pos (by simp)]
      simp

/-- Five regions of six words; those ahead of j have a 7 in their own word. -/
def five (j : Nat) : List Reg := (List.range 5).map fun i => ⟨if i < j then (List.replicate 6 0).set i 7 else List.replicate 6 0, 1⟩
theorem five_ok (j : Nat) (h : j < 5) : okB (five j) j 1 1 j = true := by
  rcases (show j = 0 ∨ j = 1 ∨ j = 2 ∨ j = 3 ∨ j = 4 by omega) with rfl | rfl | rfl | rfl | rfl <;> rfl
theorem five_cap (j : Nat) (h : j < 5) : capOf (five j) j = .agg #[.int .i64 j, .int .u64 1] := by
  rcases (show j = 0 ∨ j = 1 ∨ j = 2 ∨ j = 3 ∨ j = 4 by omega) with rfl | rfl | rfl | rfl | rfl <;> rfl
theorem five_do (j : Nat) (h : j < 5) : doL (five j) (Int.toNat j) (Int.toNat j) 1 7 0 = five (j + 1) := by
  rcases (show j = 0 ∨ j = 1 ∨ j = 2 ∨ j = 3 ∨ j = 4 by omega) with rfl | rfl | rfl | rfl | rfl <;> rfl
theorem five_get (i : Nat) (h : i < 5) : (five 5).getD i default = ⟨(List.replicate 6 0).set i 7, 1⟩ := by
  rcases (show i = 0 ∨ i = 1 ∨ i = 2 ∨ i = 3 ∨ i = 4 by omega) with rfl | rfl | rfl | rfl | rfl <;> rfl
theorem five_peek (L : List Reg) (hL : L.length = 5) (i j : Nat) (hi : i < 5) (hj : j < 6) (hg : L.getD i default = (five 5).getD i default) : peekOf L i j = if j = i then 7 else 0 := by
  unfold peekOf
  rw [if_pos (by omega)]
  simp only [Int.toNat_natCast]
  rw [hg, five_get i hi]
  simp only [List.getD, List.getElem?_set]
  by_cases hji : j = i
  · subst hji
    simp [hj]
  · rw [if_neg (fun e => hji e.symm), if_neg hji]
    rcases (show j = 0 ∨ j = 1 ∨ j = 2 ∨ j = 3 ∨ j = 4 ∨ j = 5 by omega) with rfl | rfl | rfl | rfl | rfl | rfl <;> rfl

set_option maxRecDepth 100000 in
set_option maxHeartbeats 2000000 in
theorem regions_walk (a0 : Option Addr) (c0 : Nat) (l : List Acc) (m : Nat) (hl : l.length ≤ 40) (hmb : m ≤ 255) (w : World) (r0 : RowA w a0 l) : Calls Try.prog 6 #[.slice a0 l.length c0, .int .u8 m] w fun e w' => e = .returned (.bool true) ∧ Below w.heap.size w w' := by
  have hfd := field_ep
  obtain ⟨k, hk⟩ : ∃ k, k = m % 5 := ⟨_, rfl⟩
  have hk5 : k < 5 := by omega
  have HK : Hid ((m : Int) % 5 = (k : Int)) := by show (m : Int) % 5 = (k : Int); omega
  clear hk
  go_enter Try.func6, Try.ntmps6
  go_wp2_with fail
  refine (awake_ok _).mono ?_
  rintro e w0 ⟨rfl, bel0⟩
  go_wp2_with fail
  refine (new_lit w0 [6, 6, 6, 6, 6] _ 5 rfl rfl (by decide) (by decide)).mono ?_
  rintro e w1 ⟨p, lo, hi, rfl, hm, hs, hlo', hhi⟩
  have bel1 := below_same bel0 hs bel0.size
  have hlo : w.heap.size ≤ lo := Nat.le_trans bel0.size hlo'
  replace hm : Mem lo hi w1 p (five 0) 0 := hm
  have hiw := hm.le
  clear hs bel0 hlo' hhi
  go_wp2
  rw [HK.out]
  go_loopw [8] (fun i wr => ∃ j : Nat, j ≤ 5 ∧ i = .int .i64 j ∧ Mem lo hi wr p (five j) j ∧ Below w.heap.size w wr) (fun i _ => 5 - (intOf i).toNat)
  case atStart => exact ⟨0, by omega, rfl, hm, bel1⟩
  case round =>
    clear hm bel1
    obtain ⟨j, hj, rfl, hm, bel⟩ := hrel
    by_cases hlt : j < 5
    · go_wp2_with fail
      refine (cap_any hm j).mono ?_
      rintro e w2 ⟨rfl, hs2⟩
      rw [five_cap j hlt]
      go_wp2_with fail
      refine (do_yes (hm.same hs2) j 1 1 j 7 0 (by omega) (five_ok j hlt)).mono ?_
      rintro e w3 ⟨rfl, hm3, hs3⟩
      rw [five_do j hlt] at hm3
      have bel3 := below_in (below_same bel hs2 bel.size) hs3 hlo (Nat.le_trans bel.size hs2.size)
      clear hm hs2 hs3 bel
      go_wp2
      go_roundw
      case rel => exact ⟨j + 1, by omega, by go_num, hm3, bel3⟩
      case measure => simp [intOf]; omega
    · rw [show j = 5 by omega] at hm
      go_wp2
      go_loopw [9] (fun i wr => ∃ (j : Nat) (L : List Reg) (cnt : Nat), j ≤ l.length ∧ i = .int .i64 j ∧ Mem lo hi wr p L cnt ∧ cnt ≤ 5 + j ∧ L.length = 5 ∧ (∀ q, q ≠ k → L.getD q default = (five 5).getD q default) ∧ (L.getD k default).ep = 1 ∧ Below w.heap.size w wr) (fun i _ => l.length - (intOf i).toNat)
      case atStart => exact ⟨0, five 5, 5, by omega, rfl, hm, by omega, rfl, fun _ _ => rfl, by rw [five_get k hk5], bel⟩
      case round =>
        clear hm bel
        obtain ⟨j, L, cnt, hj, rfl, hm, hcnt, hL5, hoth, hep, bel⟩ := hrel
        have HO := Lib.hid hoth
        have HE := Lib.hid hep
        have HL := Lib.hid hL5
        clear hoth hep hL5
        by_cases hlt : j < l.length
        · obtain ⟨b, off, rfl, hbl, hcell⟩ := r0.resolve_left (fun e => by have h0 : l.length = 0 := (by rw [e]; rfl); omega)
          obtain ⟨⟨op, at_, x, y⟩, hA⟩ : ∃ A, A = l.getD j default := ⟨_, rfl⟩
          have hc := hcell j hlt
          rw [← hA] at hc
          dsimp only at hc
          obtain ⟨hc0, hc1, hc2, hc3⟩ := hc
          have g0 := (bel.cell (p := ⟨b, off + j * 4, none⟩) hbl).trans hc0
          have g1 := (bel.cell (p := ⟨b, off + j * 4 + 1, none⟩) hbl).trans hc1
          have g2 := (bel.cell (p := ⟨b, off + j * 4 + 2, none⟩) hbl).trans hc2
          have g3 := (bel.cell (p := ⟨b, off + j * 4 + 3, none⟩) hbl).trans hc3
          have hj0 : (0 : Int) ≤ (j : Int) := Int.natCast_nonneg _
          have hj1 : (j : Int) < (l.length : Int) := by omega
          clear hcell hA hc0 hc1 hc2 hc3
          go_wp2_with fail
          refine wp_region_held_drew (S := (fun v => v.cell? ⟨b, off + j * 4, none⟩ = some (.int .i64 op) ∧ v.cell? ⟨b, off + j * 4 + 1, none⟩ = some (.int .i64 at_) ∧ v.cell? ⟨b, off + j * 4 + 2, none⟩ = some (.int .u64 x) ∧ v.cell? ⟨b, off + j * 4 + 3, none⟩ = some (.int .u64 y))) (by kernel_rfl) ?_ (fun hHeld => ?_)
          · exact ⟨(Sep.drew (fun _ => False) wr).cell g0 (fun x => x), (Sep.drew (fun _ => False) wr).cell g1 (fun x => x), (Sep.drew (fun _ => False) wr).cell g2 (fun x => x), (Sep.drew (fun _ => False) wr).cell g3 (fun x => x)⟩
          change wpAnyH _ _ _ _ _ 9 _ _ _
          refine wpAnyH_take (i := 0) (oi := ⟨some 52, _, _, _, _, _⟩) (v := ?v13) rfl (by kernel_rfl) (by kernel_rfl) (by kernel_rfl) (fun _ _ _ h => h) (Or.inl ⟨by kernel_rfl, ?h13⟩) hHeld ?_
          case h13 => intro w hSw; (try dsimp only at hSw); go_simp; try with_reducible rfl
          try simp only [Act.put, List.setIfInBounds_toArray, List.set_cons_zero, List.set_cons_succ]
          refine wpAnyH_take (i := 1) (oi := ⟨some 53, _, _, _, _, _⟩) (v := ?v14) rfl (by kernel_rfl) (by kernel_rfl) (by kernel_rfl) (fun _ _ _ h => h) (Or.inl ⟨by kernel_rfl, ?h14⟩) hHeld ?_
          case h14 => intro w hSw; (try dsimp only at hSw); go_simp; try with_reducible rfl
          try simp only [Act.put, List.setIfInBounds_toArray, List.set_cons_zero, List.set_cons_succ]
          refine wpAnyH_take (i := 2) (oi := ⟨some 54, _, _, _, _, _⟩) (v := ?v15) rfl (by kernel_rfl) (by kernel_rfl) (by kernel_rfl) (fun _ _ _ h => h) (Or.inl ⟨by kernel_rfl, ?h15⟩) hHeld ?_
          case h15 => intro w hSw; (try dsimp only at hSw); go_simp; try with_reducible rfl
          try simp only [Act.put, List.setIfInBounds_toArray, List.set_cons_zero, List.set_cons_succ]
          refine wpAnyH_take (i := 4) (oi := ⟨some 56, _, _, _, _, _⟩) (v := ?v16) rfl (by kernel_rfl) (by kernel_rfl) (by kernel_rfl) (fun _ _ _ h => h) (Or.inl ⟨by kernel_rfl, ?h16⟩) hHeld ?_
          case h16 => intro w hSw; (try dsimp only at hSw); go_simp; try with_reducible rfl
          try simp only [Act.put, List.setIfInBounds_toArray, List.set_cons_zero, List.set_cons_succ]
          refine wpAnyH_take (i := 5) (oi := ⟨some 57, _, _, _, _, _⟩) (v := ?v17) rfl (by kernel_rfl) (by kernel_rfl) (by kernel_rfl) (fun _ _ _ h => h) (Or.inl ⟨by kernel_rfl, ?h17⟩) hHeld ?_
          case h17 => intro w hSw; (try dsimp only at hSw); go_simp; try with_reducible rfl
          try simp only [Act.put, List.setIfInBounds_toArray, List.set_cons_zero, List.set_cons_succ]
          refine wpAnyH_take (i := 6) (oi := ⟨some 58, _, _, _, _, _⟩) (v := ?v18) rfl (by kernel_rfl) (by kernel_rfl) (by kernel_rfl) (fun _ _ _ h => h) (Or.inl ⟨by kernel_rfl, ?h18⟩) hHeld ?_
          case h18 => intro w hSw; (try dsimp only at hSw); go_simp; try with_reducible rfl
          try simp only [Act.put, List.setIfInBounds_toArray, List.set_cons_zero, List.set_cons_succ]
          refine wpAnyH_take (i := 7) (oi := ⟨some 59, _, _, _, _, _⟩) (v := ?v19) rfl (by kernel_rfl) (by kernel_rfl) (by kernel_rfl) (fun _ _ _ h => h) (Or.inl ⟨by kernel_rfl, ?h19⟩) hHeld ?_
          case h19 => intro w hSw; (try dsimp only at hSw); go_simp; try with_reducible rfl
          try simp only [Act.put, List.setIfInBounds_toArray, List.set_cons_zero, List.set_cons_succ]
          refine wpAnyH_ready (rs := [3]) (by kernel_rfl) (by simp) ?_
          refine AllReadyH.cons (o := ⟨some 55, _, _, _, _, _⟩) rfl (fun K hK => ?_) AllReadyH.nil
          rw [if_pos (by kernel_rfl)]
          go_simp
          refine (cap_any (hm.same (Sep.drew _ _)) k).mono ?_
          rintro e w2 ⟨rfl, hs2⟩
          rw [show capOf L k = .agg #[.int .i64 k, .int .u64 1] from by rw [capOf_at (by have := HL.out; omega), HE.out]; rfl]
          refine hK.out _ _ ?_ (fun hHeld => ?_)
          · exact ⟨hs2.cell hHeld.1, hs2.cell hHeld.2.1, hs2.cell hHeld.2.2.1, hs2.cell hHeld.2.2.2⟩
          clear hK K
          try simp only [Act.put, List.setIfInBounds_toArray, List.set_cons_zero, List.set_cons_succ]
          refine wpAnyH_ready (rs := [8]) (by kernel_rfl) (by simp) ?_
          refine AllReadyH.cons (o := ⟨some 60, _, _, _, _, _⟩) rfl (fun K hK => ?_) AllReadyH.nil
          rw [if_pos (by kernel_rfl)]
          go_simp
          refine (do_any (hm.same ((Sep.drew _ _).trans hs2)) (by omega) k 1 op at_ x y).mono ?_
          rintro e w3 ⟨v, ok, L3, cnt3, rfl, hm3, hs3, hcn3, hl3, ho3, he3⟩
          refine hK.out _ _ ?_ (fun hHeld => ?_)
          · exact ⟨Sep.cell hs3 hHeld.1 (show ¬ (lo ≤ b ∧ b < hi) by omega), Sep.cell hs3 hHeld.2.1 (show ¬ (lo ≤ b ∧ b < hi) by omega), Sep.cell hs3 hHeld.2.2.1 (show ¬ (lo ≤ b ∧ b < hi) by omega), Sep.cell hs3 hHeld.2.2.2 (show ¬ (lo ≤ b ∧ b < hi) by omega)⟩
          clear hK K
          try simp only [Act.put, List.setIfInBounds_toArray, List.set_cons_zero, List.set_cons_succ]
          refine wpAnyH_done (by kernel_rfl) ?_ _
          have bel3 := below_in (below_same bel ((Sep.drew _ _).trans hs2) bel.size) hs3 hlo (Nat.le_trans bel.size ((Sep.drew (fun _ => False) wr).trans hs2).size)
          have HO3 := Lib.hid ho3
          have HE3 := Lib.hid he3
          have HL3 := Lib.hid hl3
          clear hm hs2 hs3 hHeld g0 g1 g2 g3 ho3 he3 hl3 bel
          go_wp2
          go_roundw
          case rel => exact ⟨j + 1, L3, cnt3, by omega, by go_num, hm3, by omega, by rw [HL3.out]; exact HL.out, fun q hq => (HO3.out q hq).trans (HO.out q hq), HE3.out.trans HE.out, bel3⟩
          case measure => simp [intOf]; omega
        · obtain ⟨k2, hk2⟩ : ∃ k2, k2 = (k + 1) % 5 := ⟨_, rfl⟩
          have hk25 : k2 < 5 := by omega
          have hk2k : k2 ≠ k := by omega
          have HK2 : Hid (((k : Int) + 1) % 5 = (k2 : Int)) := by show ((k : Int) + 1) % 5 = (k2 : Int); omega
          clear hk2
          have hcap2 : capOf L k2 = .agg #[.int .i64 k2, .int .u64 1] := by rw [capOf_at (by have := HL.out; omega), HO.out k2 hk2k, five_get k2 hk25]; rfl
          have HC2 := Lib.hid hcap2
          clear hcap2
          go_wp2_with fail
          rw [HK2.out]
          refine (cap_any hm k2).mono ?_
          rintro e w2 ⟨rfl, hs2⟩
          rw [HC2.out]
          have hcb : hi ≤ w2.heap.size := Nat.le_trans hm.le hs2.size
          have bel2 := (below_same bel hs2 bel.size).alloc (Nat.le_trans bel.size hs2.size) (.cells #[.int .i64 k2, .int .u64 1] 33)
          have hm2 : Mem lo hi (w2.alloc (.cells #[.int .i64 k2, .int .u64 1] 33)) p L cnt := (hm.same hs2).same (Sep.alloc _ _ _)
          have hcbo : (w2.alloc (.cells #[.int .i64 k2, .int .u64 1] 33)).heap[w2.heap.size]? = some (.cells #[.int .i64 k2, .int .u64 1] 33) := heap_alloc_new _ _
          have d0 : (w2.alloc (.cells #[.int .i64 k2, .int .u64 1] 33)).cell? ⟨w2.heap.size, 0, none⟩ = some (.int .i64 k2) := by rw [cell_of_heap hcbo]; rfl
          have d1 : (w2.alloc (.cells #[.int .i64 k2, .int .u64 1] 33)).cell? ⟨w2.heap.size, 1, none⟩ = some (.int .u64 1) := by rw [cell_of_heap hcbo]; rfl
          obtain ⟨cb, hcbe⟩ : ∃ cb, cb = w2.heap.size := ⟨_, rfl⟩
          rw [← hcbe] at hcb d0 d1
          have HCB := Lib.hid hcbe
          clear hm hs2 hcbo hcbe bel
          go_wp2_with fail
          rw [← HCB.out]
          refine (bump_at hm2 (i := k) (by have := HL.out; omega) k rfl _ rfl (by rw [HE.out]; decide)).mono ?_
          rintro e w3 ⟨rfl, hm3, hs3⟩
          have bel3 := below_in bel2 hs3 hlo bel2.size
          have d0' := Sep.cell hs3 d0 (show ¬ (lo ≤ cb ∧ cb < hi) by omega)
          have d1' := Sep.cell hs3 d1 (show ¬ (lo ≤ cb ∧ cb < hi) by omega)
          obtain ⟨M, hM⟩ : ∃ M, M = L.set k ⟨(L.getD k default).ws, (L.getD k default).ep + 1⟩ := ⟨_, rfl⟩
          rw [← hM] at hm3
          have HM5 : Hid (M.length = 5) := by show M.length = 5; rw [hM, List.length_set]; exact HL.out
          have HMO : Hid (∀ q, q < 5 → q ≠ k → M.getD q default = (five 5).getD q default) := fun q hq hqk => by rw [hM, getD_set L k q _ (by have := HL.out; omega), if_neg (fun e => hqk e.symm)]; exact HO.out q hqk
          have HME : Hid ((M.getD k default).ep = 2) := by show (M.getD k default).ep = 2; rw [hM, getD_set L k k _ (by have := HL.out; omega), if_pos rfl]; show (L.getD k default).ep + 1 = 2; rw [HE.out]
          clear hm2 d0 d1 bel2 hs3 hM
          go_wp2
          go_loopw [11, 12] (fun i _ wr => ∃ j : Nat, j ≤ 5 ∧ i = .int .i64 j ∧ w3 = wr) (fun i _ _ => 5 - (intOf i).toNat)
          case atStart => exact ⟨0, by omega, rfl, rfl⟩
          case round =>
            obtain ⟨i, hi5, rfl, rfl⟩ := hrel
            by_cases hlt : i < 5
            · have hdl : decide ((i : Int) < 5) = true := decide_eq_true (by omega)
              go_wp2
              go_loopw [12] (fun t wr => ∃ j : Nat, j ≤ 6 ∧ t = .int .i64 j ∧ w3 = wr) (fun t _ => 6 - (intOf t).toNat)
              case atStart => exact ⟨0, by omega, rfl, rfl⟩
              case round =>
                obtain ⟨j, hj6, rfl, rfl⟩ := hrel
                by_cases hlj : j < 6
                · by_cases hik : i = k
                  · subst hik
                    go_wp2
                    go_roundw
                    case rel => exact ⟨i + 1, by omega, by go_num, trivial⟩
                    case measure => simp [intOf]; omega
                  · have hnik : ((i : Int) == (k : Int)) = false := beq_false_of_ne (by omega)
                    have hpk := five_peek M HM5.out i j hlt hlj (HMO.out i hlt hik)
                    by_cases hji : j = i
                    · subst hji
                      rw [if_pos rfl] at hpk
                      have HPK := Lib.hid hpk
                      clear hpk
                      go_wp2_with fail
                      refine (peek_any hm3 j j).mono ?_
                      rintro e w4 ⟨rfl, rfl⟩
                      rw [HPK.out]
                      go_wp2
                      go_roundw
                      case rel => exact ⟨j + 1, by omega, by go_num, trivial⟩
                      case measure => simp [intOf]; omega
                    · rw [if_neg hji] at hpk
                      have HPK := Lib.hid hpk
                      have hnji : ((j : Int) == (i : Int)) = false := beq_false_of_ne (by omega)
                      clear hpk
                      go_wp2_with fail
                      refine (peek_any hm3 i j).mono ?_
                      rintro e w4 ⟨rfl, rfl⟩
                      rw [HPK.out]
                      go_wp2
                      go_roundw
                      case rel => exact ⟨j + 1, by omega, by go_num, trivial⟩
                      case measure => simp [intOf]; omega
                · go_wp2
                  go_roundw
                  case rel => exact ⟨i + 1, by omega, by go_num, trivial⟩
                  case measure => simp [intOf]; omega
            · have hg1 : goodB M k2 1 = true := by
                refine decide_eq_true ⟨by omega, by have := HM5.out; omega, ?_⟩
                have := HMO.out k2 hk25 hk2k
                rw [five_get k2 hk25] at this
                simp only [Int.toNat_natCast]
                rw [this]
                rfl
              have hg2 : goodB M k 2 = true := by
                refine decide_eq_true ⟨by omega, by have := HM5.out; omega, ?_⟩
                simp only [Int.toNat_natCast]
                rw [HME.out]
                rfl
              have hcp : capOf M k = .agg #[.int .i64 k, .int .u64 2] := by rw [capOf_at (by have := HM5.out; omega), HME.out]; rfl
              have HG1 := Lib.hid hg1
              have HG2 := Lib.hid hg2
              have HCP := Lib.hid hcp
              clear hg1 hg2 hcp
              go_wp2_with fail
              refine (good_any hm3 k2 1).mono ?_
              rintro e w4 ⟨rfl, hs4⟩
              rw [HG1.out]
              have hm4 := hm3.same hs4
              have bel4 := below_same bel3 hs4 bel3.size
              go_wp2_with fail
              refine (cap_any hm4 k).mono ?_
              rintro e w5 ⟨rfl, hs5⟩
              rw [HCP.out]
              have hm5 := hm4.same hs5
              have bel5 := below_same bel4 hs5 bel4.size
              go_wp2_with fail
              refine (good_any hm5 k 2).mono ?_
              rintro e w6 ⟨rfl, hs6⟩
              rw [HG2.out]
              have hm6 := hm5.same hs6
              have bel6 := below_same bel5 hs6 bel5.size
              go_wp2_with fail
              refine (cap_any hm6 k).mono ?_
              rintro e w7 ⟨rfl, hs7⟩
              rw [HCP.out]
              have bel7 := below_same bel6 hs7 bel6.size
              go_wp2
              go_ret
              exact ⟨rfl, bel7⟩
end Go.Proofs.Ytiljledgoflogaa
