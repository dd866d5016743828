/- The walk of ProgStale. -/
import Derived.Test.YtiljledgoflogaaO
namespace Go.Proofs.Ytiljledgoflogaa
open Go.RowKit
set_option linter.unusedSimpArgs false
set_option linter.unusedVariables false

theorem pstale_long (a0 : Option Addr) (n0 c0 : Nat) (r z : Int) (h : 30 < n0) (w : World) : Calls Try.prog 10 #[.slice a0 n0 c0, .int .i64 r, .int .u64 z] w fun e w' => e = .returned (.bool true) ∧ Below w.heap.size w w' := by
  go_enter Try.func10, Try.ntmps10
  go_wp2_with fail
  refine (awake3_ok _).mono ?_
  rintro e w0 ⟨rfl, hs0⟩
  go_wp2_with fail
  refine (awake3_ok _).mono ?_
  rintro e w1 ⟨rfl, hs1⟩
  go_wp2
  go_ret
  exact ⟨rfl, Same.below (hs0.trans hs1)⟩

/-- The memory of these laws: one region of 8 words. -/
abbrev fresh8 : List Reg := [⟨List.replicate 8 0, 1⟩]
theorem fresh8_good {r z : Int} (h : goodB fresh8 r z = true) : r = 0 ∧ z = 1 := by
  have := of_decide_eq_true h
  obtain ⟨h1, h2, h3⟩ := this
  have hr : r = 0 := by simp at h2; omega
  subst hr
  exact ⟨rfl, h3.symm⟩
theorem fresh8_peek (j : Nat) (h : j < 8) : peekOf fresh8 0 j = 0 := by
  rcases (show j = 0 ∨ j = 1 ∨ j = 2 ∨ j = 3 ∨ j = 4 ∨ j = 5 ∨ j = 6 ∨ j = 7 by omega) with rfl | rfl | rfl | rfl | rfl | rfl | rfl | rfl <;> rfl
theorem bad_all {L : List Reg} {r z : Int} (h : goodB L r z = false) (op at_ : Int) : okB L r z op at_ = false := by
  unfold okB
  rw [h]
  rfl

section
variable {lo hi p cnt : Nat} {w : World} {L : List Reg} {F : Nat → Prop}
/-- Run by a capability that is not good: nothing is done. -/
theorem run_bad {v : Value} {l : List Acc} {told : List Int} (hm : Mem lo hi w p L cnt) (hlp : LP F w v l told) (ci ce most : Int) (hbad : goodB L ci ce = false) (hc : cnt + l.length < 1000000000) (hk : told.length + l.length ≤ 1000)
    (hF : ∀ b, w.heap.size ≤ b → F b) (hFd : ∀ b, F b → ¬ (lo ≤ b ∧ b < hi)) :
    Calls Try.prog 41 #[v, .pointer (some ⟨p, 0, none⟩), .agg #[.int .i64 ci, .int .u64 ce], .int .i64 most] w fun e w' =>
      ∃ rv, e = .returned (.tuple #[rv, .int .i64 0, .bool l.isEmpty]) ∧ Mem lo hi w' p L cnt ∧ In lo hi w w' := by
  have hR : runs ci ce L l most.toNat = (L, [], l) := by
    cases l with
    | nil => exact runs_nil
    | cons A l =>
      cases most.toNat with
      | zero => exact runs_zero
      | succ n => exact runs_no (bad_all hbad _ _)
  refine (run_any hm hlp ci ce most hc hk hF hFd).mono ?_
  rw [hR]
  rintro e w' ⟨rv, rfl, _, hm', hin⟩
  exact ⟨rv, rfl, hm', hin⟩
end

set_option maxRecDepth 100000 in
set_option maxHeartbeats 2000000 in
theorem pstale_walk (a0 : Option Addr) (c0 : Nat) (l : List Acc) (r z : Int) (hl : l.length ≤ 30) (w : World) (r0 : ArgA w (.slice a0 l.length c0) l) : Calls Try.prog 10 #[.slice a0 l.length c0, .int .i64 r, .int .u64 z] w fun e w' => e = .returned (.bool true) ∧ Below w.heap.size w w' := by
  obtain ⟨n, hn⟩ : ∃ n, n = l.length := ⟨_, rfl⟩
  have R0 := Lib.hid r0
  have hl' : n ≤ 30 := by omega
  rw [← hn] at R0 ⊢
  have HN := Lib.hid hn
  clear r0 hl hn
  go_enter Try.func10, Try.ntmps10
  go_wp2_with fail
  refine (awake3_ok _).mono ?_
  rintro e w0 ⟨rfl, hs0⟩
  have bel0 : Below w.heap.size w w0 := Same.below hs0
  go_wp2_with fail
  refine (new_lit w0 [8] _ 1 rfl rfl (by decide) (by decide)).mono ?_
  rintro e w1 ⟨p, lo, hi, rfl, hm, hs, hlo', hhi⟩
  have bel1 := below_same bel0 hs bel0.size
  have hlo : w.heap.size ≤ lo := Nat.le_trans bel0.size hlo'
  have hsa : Same w w1 := hs0.trans hs
  replace hm : Mem lo hi w1 p fresh8 0 := hm
  clear hs bel0 hlo' hs0
  go_wp2_with fail
  have hm1 := hm.same (Sep.alloc (fun _ => False) w1 (.cells #[.int .i64 r, .int .u64 z] 33))
  have hsa1 := hsa.thenAlloc (.cells #[.int .i64 r, .int .u64 z] 33)
  have hcbo : (w1.alloc (.cells #[.int .i64 r, .int .u64 z] 33)).heap[w1.heap.size]? = some (.cells #[.int .i64 r, .int .u64 z] 33) := heap_alloc_new _ _
  refine (good_any hm1 r z).mono ?_
  rintro e w2 ⟨rfl, hs2⟩
  have hcb2 := hs2.obj hcbo
  have d0 : w2.cell? ⟨w1.heap.size, 0, none⟩ = some (.int .i64 r) := by rw [cell_of_heap hcb2]; rfl
  have d1 : w2.cell? ⟨w1.heap.size, 1, none⟩ = some (.int .u64 z) := by rw [cell_of_heap hcb2]; rfl
  rw [hhi] at d0 d1
  have hm2 := hm1.same hs2
  have hsa2 : Same w w2 := hsa1.trans hs2
  clear hm hm1 hs2 hcbo hsa hsa1 hcb2 bel1
  cases hg : goodB fresh8 r z with
  | true =>
    obtain ⟨rfl, rfl⟩ := fresh8_good hg
    clear hg
    go_wp2
    go_ret
    exact ⟨rfl, Same.below hsa2⟩
  | false =>
    have HG := Lib.hid hg
    clear hg
    go_wp2
    have HCBN : Hid (¬ (lo ≤ hi ∧ hi < hi)) := by
      show ¬ (lo ≤ hi ∧ hi < hi)
      omega
    refine wp_region_held_drew (S := (fun v => v.cell? ⟨hi, 0, none⟩ = some (.int .i64 r) ∧ v.cell? ⟨hi, 1, none⟩ = some (.int .u64 z))) (by kernel_rfl) ?_ (fun hHeld => ?_)
    · exact ⟨(Sep.drew (fun _ => False) w2).cell d0 (fun x => x), (Sep.drew (fun _ => False) w2).cell d1 (fun x => x)⟩
    change wpAnyH _ _ _ _ _ 12 _ _ _
    refine wpAnyH_take (i := 0) (oi := ⟨some 46, _, _, _, _, _⟩) (v := ?v1) rfl (by kernel_rfl) (by kernel_rfl) (by kernel_rfl) (fun _ _ _ h => h) (Or.inl ⟨by kernel_rfl, ?h1⟩) hHeld ?_
    case h1 => intro w hSw; (try dsimp only at hSw); go_simp; try with_reducible rfl
    try simp only [Act.put, List.setIfInBounds_toArray, List.set_cons_zero, List.set_cons_succ]
    refine wpAnyH_take (i := 2) (oi := ⟨some 48, _, _, _, _, _⟩) (v := ?v2) rfl (by kernel_rfl) (by kernel_rfl) (by kernel_rfl) (fun _ _ _ h => h) (Or.inl ⟨by kernel_rfl, ?h2⟩) hHeld ?_
    case h2 => intro w hSw; (try dsimp only at hSw); go_simp; try with_reducible rfl
    try simp only [Act.put, List.setIfInBounds_toArray, List.set_cons_zero, List.set_cons_succ]
    refine wpAnyH_take (i := 3) (oi := ⟨some 49, _, _, _, _, _⟩) (v := ?v3) rfl (by kernel_rfl) (by kernel_rfl) (by kernel_rfl) (fun _ _ _ h => h) (Or.inl ⟨by kernel_rfl, ?h3⟩) hHeld ?_
    case h3 => intro w hSw; (try dsimp only at hSw); go_simp; try with_reducible rfl
    try simp only [Act.put, List.setIfInBounds_toArray, List.set_cons_zero, List.set_cons_succ]
    refine wpAnyH_ready (rs := [1]) (by kernel_rfl) (by simp) ?_
    refine AllReadyH.cons (o := ⟨some 47, _, _, _, _, _⟩) rfl (fun K hK => ?_) AllReadyH.nil
    rw [if_pos (by kernel_rfl)]
    go_simp
    refine (list_arg (F := fun q => hi ≤ q) (l := l) (R0.out.same (hsa2.trans (Sep.drew _ _))) (by have := HN.out; omega) (fun q hq => Nat.le_trans (hm2.same (Sep.drew _ _)).le hq)).mono ?_
    rintro e w3 ⟨v3, rfl, hlp3, hs3⟩
    have hs23 : Same w2 w3 := (Sep.drew (fun _ => False) w2).trans hs3
    refine hK.out _ _ ?_ (fun hHeld => ?_)
    · exact ⟨hs23.cell d0, hs23.cell d1⟩
    clear hK K
    try simp only [Act.put, List.setIfInBounds_toArray, List.set_cons_zero, List.set_cons_succ]
    refine wpAnyH_ready (rs := [4]) (by kernel_rfl) (by simp) ?_
    refine AllReadyH.cons (o := ⟨some 50, _, _, _, _, _⟩) rfl (fun K hK => ?_) AllReadyH.nil
    rw [if_pos (by kernel_rfl)]
    go_simp
    refine (run_bad (F := fun q => hi ≤ q) (hm2.same hs23) hlp3 r z 40 HG.out (by have := HN.out; omega) (by have := HN.out; simp; omega) (fun q hq => Nat.le_trans (hm2.same hs23).le hq) (fun q hq => by omega)).mono ?_
    rintro e w4 ⟨rv, rfl, hm4, hin4⟩
    have bel4 : Below w.heap.size w w4 := below_in (Same.below (hsa2.trans hs23)) hin4 hlo (hsa2.trans hs23).size
    refine hK.out _ _ ?_ (fun hHeld => ?_)
    · exact ⟨hin4.cell hHeld.1 HCBN.out, hin4.cell hHeld.2 HCBN.out⟩
    clear hK K
    try simp only [Act.put, List.setIfInBounds_toArray, List.set_cons_zero, List.set_cons_succ]
    refine wpAnyH_take (i := 5) (oi := ⟨some 45, _, _, _, _, _⟩) (v := ?v6) rfl (by kernel_rfl) (by kernel_rfl) (by kernel_rfl) (fun _ _ _ h => h) (Or.inl ⟨by kernel_rfl, ?h6⟩) hHeld ?_
    case h6 => intro w hSw; (try dsimp only at hSw); go_simp; try with_reducible rfl
    try simp only [Act.put, List.setIfInBounds_toArray, List.set_cons_zero, List.set_cons_succ]
    refine wpAnyH_take (i := 6) (oi := ⟨some 51, _, _, _, _, _⟩) (v := ?v7) rfl (by kernel_rfl) (by kernel_rfl) (by kernel_rfl) (fun _ _ _ h => h) (Or.inl ⟨by kernel_rfl, ?h7⟩) hHeld ?_
    case h7 => intro w hSw; (try dsimp only at hSw); go_simp; try with_reducible rfl
    try simp only [Act.put, List.setIfInBounds_toArray, List.set_cons_zero, List.set_cons_succ]
    refine wpAnyH_take (i := 7) (oi := ⟨some 52, _, _, _, _, _⟩) (v := ?v8) rfl (by kernel_rfl) (by kernel_rfl) (by kernel_rfl) (fun _ _ _ h => h) (Or.inl ⟨by kernel_rfl, ?h8⟩) hHeld ?_
    case h8 => intro w hSw; (try dsimp only at hSw); go_simp; try with_reducible rfl
    try simp only [Act.put, List.setIfInBounds_toArray, List.set_cons_zero, List.set_cons_succ]
    refine wpAnyH_take (i := 8) (oi := ⟨some 53, _, _, _, _, _⟩) (v := ?v9) rfl (by kernel_rfl) (by kernel_rfl) (by kernel_rfl) (fun _ _ _ h => h) (Or.inl ⟨by kernel_rfl, ?h9⟩) hHeld ?_
    case h9 => intro w hSw; (try dsimp only at hSw); go_simp; try with_reducible rfl
    try simp only [Act.put, List.setIfInBounds_toArray, List.set_cons_zero, List.set_cons_succ]
    refine wpAnyH_take (i := 9) (oi := ⟨some 10, _, _, _, _, _⟩) (v := ?v10) rfl (by kernel_rfl) (by kernel_rfl) (by kernel_rfl) (fun _ _ _ h => h) (Or.inl ⟨by kernel_rfl, ?h10⟩) hHeld ?_
    case h10 => intro w hSw; (try dsimp only at hSw); go_simp; try with_reducible rfl
    try simp only [Act.put, List.setIfInBounds_toArray, List.set_cons_zero, List.set_cons_succ]
    refine wpAnyH_take (i := 10) (oi := ⟨some 11, _, _, _, _, _⟩) (v := ?v11) rfl (by kernel_rfl) (by kernel_rfl) (by kernel_rfl) (fun _ _ _ h => h) (Or.inl ⟨by kernel_rfl, ?h11⟩) hHeld ?_
    case h11 => intro w hSw; (try dsimp only at hSw); go_simp; try with_reducible rfl
    try simp only [Act.put, List.setIfInBounds_toArray, List.set_cons_zero, List.set_cons_succ]
    refine wpAnyH_take (i := 11) (oi := ⟨some 12, _, _, _, _, _⟩) (v := ?v12) rfl (by kernel_rfl) (by kernel_rfl) (by kernel_rfl) (fun _ _ _ h => h) (Or.inl ⟨by kernel_rfl, ?h12⟩) hHeld ?_
    case h12 => intro w hSw; (try dsimp only at hSw); go_simp; try with_reducible rfl
    try simp only [Act.put, List.setIfInBounds_toArray, List.set_cons_zero, List.set_cons_succ]
    refine wpAnyH_done (by kernel_rfl) ?_ _
    clear d0 d1 hHeld hs3 hs23 hlp3 hin4 hsa2 hm2
    go_wp2
    go_loopw [13] (fun i wr => ∃ j : Nat, j ≤ 8 ∧ i = .int .i64 j ∧ Mem lo hi wr p fresh8 0 ∧ Below w.heap.size w wr) (fun i _ => 8 - (intOf i).toNat)
    case atStart => exact ⟨0, by omega, rfl, hm4, bel4⟩
    case round =>
      clear hm4 bel4
      obtain ⟨j, hj, rfl, hm, bel⟩ := hrel
      by_cases hlt : j < 8
      · go_wp2_with fail
        refine (peek_any hm 0 j).mono ?_
        rintro e w5 ⟨rfl, rfl⟩
        rw [fresh8_peek j hlt]
        go_wp2
        go_roundw
        case rel => exact ⟨j + 1, by omega, by go_num, hm, bel⟩
        case measure => simp [intOf]; omega
      · cases l with
        | nil =>
          obtain rfl : n = 0 := HN.out
          go_wp2_with fail
          refine (count_any hm).mono ?_
          rintro e w5 ⟨rfl, rfl⟩
          go_wp2
          go_ret
          exact ⟨rfl, bel⟩
        | cons A l =>
          have hn0 : ((n : Int) == 0) = false := beq_false_of_ne (by have := HN.out; simp at this; omega)
          go_wp2_with fail
          refine (count_any hm).mono ?_
          rintro e w5 ⟨rfl, rfl⟩
          go_wp2
          go_ret
          exact ⟨rfl, bel⟩
end Go.Proofs.Ytiljledgoflogaa
