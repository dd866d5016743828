/- The walk of ProgSteps. -/
import Derived.Test.YtiljledgoflogaaP
import Derived.BigQuiet
namespace Go.Proofs.Ytiljledgoflogaa
open Go.RowKit
set_option linter.unusedSimpArgs false
set_option linter.unusedVariables false

theorem psteps_long (a0 : Option Addr) (n0 c0 : Nat) (z : Int) (h : 20 < n0) (w : World) : Calls Try.prog 11 #[.slice a0 n0 c0, .int .u8 z] w fun e w' => e = .returned (.bool true) ∧ Below w.heap.size w w' := by
  go_enter Try.func11, Try.ntmps11
  go_wp2_with fail
  refine (awake3_ok _).mono ?_
  rintro e w0 ⟨rfl, hs0⟩
  go_wp2_with fail
  refine (awake3_ok _).mono ?_
  rintro e w1 ⟨rfl, hs1⟩
  go_wp2
  go_ret
  exact ⟨rfl, Same.below (hs0.trans hs1)⟩

theorem LP.one {F : Nat → Prop} {w : World} {v : Value} {l : List Acc} {told : List Int} (h : LP F w v l told) :
    ∃ o a n cap op at_ x y nx, v = .agg #[.bool o, .slice a n cap, .int .i64 op, .int .i64 at_, .int .u64 x, .int .u64 y, nx] ∧ ∀ a m w, (Go.store a nx m).run Try.prog w = Go.stored Try.prog w a nx m := by
  rcases h.form with ⟨_, a, cap, rfl⟩ | ⟨A, l', lb, tb, _, rfl⟩
  · exact ⟨_, _, _, _, _, _, _, _, _, rfl, fun a m w => Go.run_store_nilFunc _ _ _ _⟩
  · exact ⟨_, _, _, _, _, _, _, _, _, rfl, fun a m w => Go.run_store_func _ _ _ _ _ _ _⟩
/-- What is known of the regions: one, whose epoch is small. -/
def OneReg (k : Nat) (L : List Reg) : Prop := L.length = 1 ∧ (L.getD 0 default).ep ≤ k
theorem OneReg.doL {k : Nat} {L : List Reg} (h : OneReg k L) (i j : Nat) (op x y : Int) : OneReg k (doL L i j op x y) := by
  obtain ⟨X, rfl⟩ : ∃ X, L = [X] := by
    obtain ⟨h1, _⟩ := h
    match L, h1 with
    | [X], _ => exact ⟨X, rfl⟩
  cases i with
  | zero => exact h
  | succ i => exact h
theorem OneReg.bump {k : Nat} {L : List Reg} (h : OneReg k L) : OneReg (k + 1) (L.set 0 ⟨(L.getD 0 default).ws, (L.getD 0 default).ep + 1⟩) := by
  obtain ⟨h1, h2⟩ := h
  match L, h1 with
  | [X], _ => exact ⟨rfl, Nat.succ_le_succ h2⟩
theorem drop_get {l l' : List Acc} {A : Acc} {j : Nat} (h : A :: l' = l.drop j) : j < l.length ∧ A = l.getD j default ∧ l' = l.drop (j + 1) := by
  have hj : j < l.length := by
    rcases Nat.lt_or_ge j l.length with h' | h'
    · exact h'
    · rw [List.drop_eq_nil_of_le h'] at h; cases h
  rw [List.drop_eq_getElem_cons hj] at h
  obtain ⟨rfl, rfl⟩ := List.cons.inj h
  exact ⟨hj, by simp [List.getD, hj], rfl⟩

set_option maxRecDepth 100000 in
set_option maxHeartbeats 2000000 in
theorem psteps_walk (a0 : Option Addr) (c0 : Nat) (l : List Acc) (m : Nat) (hl : l.length ≤ 20) (hmb : m ≤ 255) (w : World) (r0 : RowA w a0 l) (q0 : ArgA w (.slice a0 l.length c0) l) : Calls Try.prog 11 #[.slice a0 l.length c0, .int .u8 m] w fun e w' => e = .returned (.bool true) ∧ Below w.heap.size w w' := by
  obtain ⟨n, hn⟩ : ∃ n, n = l.length := ⟨_, rfl⟩
  have Q0 := Lib.hid q0
  have R0 := Lib.hid r0
  have hl' : n ≤ 20 := by omega
  rw [← hn] at Q0 ⊢
  have HN := Lib.hid hn
  clear r0 q0 hl hn
  go_enter Try.func11, Try.ntmps11
  go_wp2_with fail
  refine (awake3_ok _).mono ?_
  rintro e w0 ⟨rfl, hs0⟩
  go_wp2_with fail
  refine (new_lit w0 [8] _ 1 rfl rfl (by decide) (by decide)).mono ?_
  rintro e w1 ⟨p, lo, hi, rfl, hm, hs, hlo', hhi⟩
  have hlo : w.heap.size ≤ lo := Nat.le_trans hs0.size hlo'
  have hsa : Same w w1 := hs0.trans hs
  replace hm : Mem lo hi w1 p fresh8 0 := hm
  clear hs hlo' hs0
  go_wp2_with fail
  refine (cap_any hm 0).mono ?_
  rintro e w2 ⟨rfl, hs2⟩
  rw [show capOf fresh8 0 = .agg #[.int .i64 0, .int .u64 1] from rfl]
  have hm2 := (hm.same hs2).same (Sep.alloc (fun _ => False) w2 (.cells #[.int .i64 0, .int .u64 1] 33))
  have hsa2 := (hsa.trans hs2).thenAlloc (.cells #[.int .i64 0, .int .u64 1] 33)
  have hcbo : (w2.alloc (.cells #[.int .i64 0, .int .u64 1] 33)).heap[w2.heap.size]? = some (.cells #[.int .i64 0, .int .u64 1] 33) := heap_alloc_new _ _
  have hcb : hi ≤ w2.heap.size := (hm.same hs2).le
  clear hm hs2 hsa
  go_wp2_with fail
  refine (list_arg (F := fun q => hi ≤ q) (Q0.out.same hsa2) (by have := HN.out; omega) (fun q hq => Nat.le_trans hm2.le hq)).mono ?_
  rintro e w4 ⟨v4, rfl, hlp4, hs4⟩
  have hcb4 := hs4.obj hcbo
  have hm4 := hm2.same hs4
  have hsa4 : Same w w4 := hsa2.trans hs4
  obtain ⟨b7, hb7⟩ : ∃ b, b = w2.heap.size := ⟨_, rfl⟩
  obtain ⟨b8, hb8⟩ : ∃ b, b = w4.heap.size := ⟨_, rfl⟩
  rw [← hb7] at hcb hcb4
  have h78 : b7 < b8 := by rw [hb8]; exact lt_of_block hcb4
  have hb8h : hi ≤ b8 := by omega
  obtain ⟨o, ra, rn, rc, op, at_, x, y, nx, rfl, hstx⟩ := hlp4.one
  have hpo : (w4.alloc (.cells #[.bool o, .slice ra rn rc, .int .i64 op, .int .i64 at_, .int .u64 x, .int .u64 y, nx] 87)).heap[b8]? = some (.cells #[.bool o, .slice ra rn rc, .int .i64 op, .int .i64 at_, .int .u64 x, .int .u64 y, nx] 87) := by rw [hb8]; exact heap_alloc_new _ _
  have hs5 : Same w4 (w4.alloc (.cells #[.bool o, .slice ra rn rc, .int .i64 op, .int .i64 at_, .int .u64 x, .int .u64 y, nx] 87)) := Sep.alloc _ _ _
  have hlp5 := (hlp4.imp2 (G := fun q => hi ≤ q ∧ q ≠ b8) (fun q hq hlt => ⟨hq, by omega⟩)).same hs5
  have hm5 := hm4.same hs5
  have hin5 : In lo hi w (w4.alloc (.cells #[.bool o, .slice ra rn rc, .int .i64 op, .int .i64 at_, .int .u64 x, .int .u64 y, nx] 87)) := Same.sep (hsa4.trans hs5) _
  have hcb5 := hs5.obj hcb4
  have HB7 := Lib.hid hb7
  have HB8 := Lib.hid hb8
  have HHI := Lib.hid hhi
  clear hb7 hb8 hhi hlp4 hm4 hm2 hsa2 hsa4 hs4 hcbo hcb4 hs5
  go_wp2
  rw [← HB7.out, ← HB8.out]
  go_loopw [9] (fun i wr => ∃ (j : Nat) (c : Array Value) (lj : List Acc) (tj : List Int) (L : List Reg), i = .int .i64 j ∧ j ≤ n ∧ lj = l.drop j ∧ wr.heap[b8]? = some (.cells c 87) ∧ LP (fun q => hi ≤ q ∧ q ≠ b8) wr (.agg c) lj tj ∧ tj.length = j ∧ OneReg (1 + j) L ∧ Mem lo hi wr p L j ∧
      wr.heap[b7]? = some (.cells #[.int .i64 0, .int .u64 1] 33) ∧ In lo hi w wr) (fun i _ => n - (intOf i).toNat)
  case atStart => exact ⟨0, _, l, [], fresh8, rfl, Nat.zero_le _, rfl, hpo, hlp5, rfl, ⟨rfl, Nat.le_refl _⟩, hm5, hcb5, hin5⟩
  case round =>
    clear hpo hlp5 hm5 hcb5 hin5
    obtain ⟨j, c, lj, tj, L, rfl, hjn1, hlj, hpo, hlp, htl, hone, hm, hco, hin⟩ := hrel
    have n7 : ¬ (lo ≤ b7 ∧ b7 < hi) := by omega
    have n8 : ¬ (lo ≤ b8 ∧ b8 < hi) := by omega
    have HTL := Lib.hid htl
    clear htl
    rcases hlp.form with ⟨rfl, ra, rc, hform⟩ | ⟨A, l', lb, tb, rfl, hform⟩
    · obtain rfl : c = _ := (Value.agg.injEq _ _).mp hform
      have hjn : l.length ≤ j := by
        rcases Nat.lt_or_ge j l.length with h | h
        · have : (l.drop j).length = 0 := by rw [← hlj]; rfl
          simp at this; omega
        · exact h
      have htn : tj.length = n := by have := HTL.out; have := HN.out; omega
      have hjnn : ¬ j < n := by have := HN.out; omega
      rw [htn] at hpo
      obtain ⟨d0, d1, d2, d3, d4, d5, d6, df⟩ := cells7 hpo
      clear hform hlp hlj hone
      go_wp2_with fail
      refine (access_none _ _ _ _).mono ?_
      rintro e w6 ⟨rfl, hs6⟩
      have hs66 := hs6.thenAlloc (.cells #[.int .i64 0, .int .i64 0, .int .u64 0, .int .u64 0] 25)
      have hin6 := hin.trans (Same.sep hs66 _)
      have hm6 := hm.same hs66
      have HC6 := Lib.hid (Same.obj hs66 hco)
      have HP6 := Lib.hid (Same.obj hs66 hpo)
      obtain ⟨e0, e1, e2, e3, e4, e5, e6, ef⟩ := cells7 HP6.out
      clear d0 d1 d2 d3 d4 d5 d6 df hs6 hs66 hin hm hco hpo
      go_wp2_with fail
      refine (over_any _ _ _ _ _ _ _ _ _ _).mono ?_
      rintro e w7 ⟨rfl, hs7⟩
      have hin7 := hin6.trans (Same.sep hs7 _)
      have hc7 := Same.obj hs7 HC6.out
      have hp7 := Same.obj hs7 HP6.out
      obtain ⟨d0, d1, d2, d3, d4, d5, d6, df⟩ := cells7 hp7
      have c70 : w7.cell? ⟨b7, 0, none⟩ = some (.int .i64 0) := by rw [cell_of_heap hc7]; rfl
      have c71 : w7.cell? ⟨b7, 1, none⟩ = some (.int .u64 1) := by rw [cell_of_heap hc7]; rfl
      clear e0 e1 e2 e3 e4 e5 e6 ef hs7 hin6 hm6 hc7 hp7
      go_wp2_with fail
      refine (step_over _ _ _ _ _ _ ⟨_, rfl⟩ _).mono ?_
      rintro e w8 ⟨rfl, hs8⟩
      have hin8 := (hin7.trans (Same.sep hs8 _))
      have bel : Below w.heap.size w w8 := In.below hin8 hlo (Nat.le_refl _)
      clear c70 c71 d0 d1 d2 d3 d4 d5 d6 df hs8 hin7 hin8
      go_wp2
      go_ret
      exact ⟨rfl, bel.alloc bel.size _⟩
    · obtain rfl : c = _ := (Value.agg.injEq _ _).mp hform
      obtain ⟨hjl, hA, hl2⟩ := drop_get hlj
      have hjn : j < n := by have := HN.out; omega
      obtain ⟨b, off, rfl, hbl, hcell⟩ := R0.out.resolve_left (fun e => by rw [e] at hjl; cases hjl)
      have hc := hcell j hjl
      rw [← hA] at hc
      obtain ⟨hc0, hc1, hc2, hc3⟩ := hc
      have nb : ¬ (lo ≤ b ∧ b < hi) := by omega
      have g0 := hin.cell hc0 nb
      have g1 := hin.cell hc1 nb
      have g2 := hin.cell hc2 nb
      have g3 := hin.cell hc3 nb
      have HPO := Lib.hid hpo
      have HCO := Lib.hid hco
      have HA := Lib.hid hA
      have HL2 := Lib.hid hl2
      have HLP := Lib.hid hlp
      obtain ⟨d0, d1, d2, d3, d4, d5, d6, df⟩ := cells7 hpo
      clear hpo hco hA hl2 hlp hcell hc0 hc1 hc2 hc3 hform hlj hjl
      go_wp2_with fail
      refine (access_some _ _ _ _ _ _).mono ?_
      rintro e w6 ⟨rfl, hs6⟩
      obtain ⟨op, at_, x, y⟩ := A
      dsimp only at g0 g1 g2 g3 ⊢
      have a0 := fun o => (Sep.alloc (fun _ => False) w6 o).cell (hs6.cell d0) (fun x => x)
      have a1 := fun o => (Sep.alloc (fun _ => False) w6 o).cell (hs6.cell d1) (fun x => x)
      have a2 := fun o => (Sep.alloc (fun _ => False) w6 o).cell (hs6.cell d2) (fun x => x)
      have a3 := fun o => (Sep.alloc (fun _ => False) w6 o).cell (hs6.cell d3) (fun x => x)
      have a4 := fun o => (Sep.alloc (fun _ => False) w6 o).cell (hs6.cell d4) (fun x => x)
      have a5 := fun o => (Sep.alloc (fun _ => False) w6 o).cell (hs6.cell d5) (fun x => x)
      have a6 := fun o => (Sep.alloc (fun _ => False) w6 o).cell (hs6.cell d6) (fun x => x)
      have hs66 := hs6.thenAlloc (.cells #[.int .i64 op, .int .i64 at_, .int .u64 x, .int .u64 y] 25)
      have hno : (w6.alloc (.cells #[.int .i64 op, .int .i64 at_, .int .u64 x, .int .u64 y] 25)).heap[w6.heap.size]? = some (.cells #[.int .i64 op, .int .i64 at_, .int .u64 x, .int .u64 y] 25) := heap_alloc_new _ _
      clear d0 d1 d2 d3 d4 d5 d6
      go_wp2_with fail
      refine (over_any _ _ _ _ _ _ _ _ _ _).mono ?_
      rintro e w7 ⟨rfl, hs7⟩
      have hs77 := hs66.trans hs7
      have hno7 := hs7.obj hno
      have t0 : w7.cell? ⟨w6.heap.size, 0, none⟩ = some (.int .i64 op) := by rw [cell_of_heap hno7]; rfl
      have t1 : w7.cell? ⟨w6.heap.size, 1, none⟩ = some (.int .i64 at_) := by rw [cell_of_heap hno7]; rfl
      have t2 : w7.cell? ⟨w6.heap.size, 2, none⟩ = some (.int .u64 x) := by rw [cell_of_heap hno7]; rfl
      have t3 : w7.cell? ⟨w6.heap.size, 3, none⟩ = some (.int .u64 y) := by rw [cell_of_heap hno7]; rfl
      have f0 := hs77.cell g0 (fun x => x)
      have f1 := hs77.cell g1 (fun x => x)
      have f2 := hs77.cell g2 (fun x => x)
      have f3 := hs77.cell g3 (fun x => x)
      have hs6' := hs6
      clear a0 a1 a2 a3 a4 a5 a6 g0 g1 g2 g3 hs6 hs66 hs7 hno
      have hj0 : (0 : Int) ≤ (j : Int) := Int.natCast_nonneg _
      have hj1 : (j : Int) < (n : Int) := by omega
      have H7 := Lib.hid (Same.obj hs77 HCO.out)
      have H8 := Lib.hid (Same.obj hs77 HPO.out)
      have HLP7 := Lib.hid (HLP.out.same hs77)
      have HT := Lib.hid hno7
      have hm7 := hm.same hs77
      have hin7 : In lo hi w w7 := hin.trans (Same.sep hs77 _)
      obtain ⟨b10, hb10⟩ : ∃ b, b = w6.heap.size := ⟨_, rfl⟩
      have HB10 := Lib.hid hb10
      have n10 : ¬ (lo ≤ b10 ∧ b10 < hi) := by
        have h1 := hm.le
        have h2 := (hs6'.size)
        omega
      rw [← hb10] at t0 t1 t2 t3 HT
      clear hm hin HCO HPO HLP hno7 hs77 hb10 hs6'
      by_cases hjm : j = m
      · subst hjm
        go_wp2
        rw [← HB10.out]
        go_quiet (fail)
        clear f0 f1 f2 f3 t0 t1 t2 t3
        go_wp2_with fail
        refine (bump_at (hm7.same (Sep.drewN _ _ _)) (i := 0) (by rw [hone.1]; decide) 0 rfl _ rfl (by have := hone.2; omega)).mono ?_
        rintro e w8 ⟨rfl, hm8, hs8'⟩
        have hs8 : In lo hi w7 w8 := (Sep.drewN _ _ _).trans hs8'
        have hone8 := hone.bump
        have hin8 := hin7.trans hs8
        have H78 := Lib.hid (Sep.obj hs8 H7.out n7)
        have H88 := Lib.hid (Sep.obj hs8 H8.out n8)
        have HT8 := Lib.hid (Sep.obj hs8 HT.out n10)
        have HLP8 := Lib.hid (HLP7.out.stay hs8 (fun q hq _ => by omega))
        obtain ⟨M, hM⟩ : ∃ M, M = L.set 0 ⟨(L.getD 0 default).ws, (L.getD 0 default).ep + 1⟩ := ⟨_, rfl⟩
        rw [← hM] at hone8 hm8
        have ho8 : OneReg (1 + (j + 1)) M := hone8
        clear hM hone hone8 hm7 hs8 hin7 H7 H8 HT HLP7
        have c70 : w8.cell? ⟨b7, 0, none⟩ = some (.int .i64 0) := by rw [cell_of_heap H78.out]; rfl
        have c71 : w8.cell? ⟨b7, 1, none⟩ = some (.int .u64 1) := by rw [cell_of_heap H78.out]; rfl
        obtain ⟨d0, d1, d2, d3, d4, d5, d6, d8f⟩ := cells7 H88.out
        cases hok : okB M 0 1 op at_ with
        | false =>
          have HOK := Lib.hid hok
          clear hok
          go_wp2_with fail
          refine (step_no hm8 HLP8.out 0 1 HOK.out).mono ?_
          rintro e w9 ⟨rfl, hs9⟩
          have hin9 := hin8.trans (Same.sep hs9 _)
          have HT9 := Lib.hid (Same.obj hs9 HT8.out)
          clear c70 c71 d0 d1 d2 d3 d4 d5 d6 hm8 hs9 hin8
          go_wp2_with fail
          refine (access_some _ _ _ _ _ _).mono ?_
          rintro e w10 ⟨rfl, hs10⟩
          have HT10 := Lib.hid (Same.obj hs10 ((Sep.alloc (fun _ => False) w9 _).obj HT9.out (fun x => x)))
          have u0 := fun o => cell_of_heap (j := 0) ((Sep.alloc (fun _ => False) w10 o).obj HT10.out (fun x => x))
          have u1 := fun o => cell_of_heap (j := 1) ((Sep.alloc (fun _ => False) w10 o).obj HT10.out (fun x => x))
          have u2 := fun o => cell_of_heap (j := 2) ((Sep.alloc (fun _ => False) w10 o).obj HT10.out (fun x => x))
          have u3 := fun o => cell_of_heap (j := 3) ((Sep.alloc (fun _ => False) w10 o).obj HT10.out (fun x => x))
          simp only [List.getElem?_toArray, List.getElem?_cons_zero, List.getElem?_cons_succ] at u0 u1 u2 u3
          have hin10 : In lo hi w w10 := (hin9.trans (Sep.alloc _ _ _)).trans (Same.sep hs10 _)
          have bel : Below w.heap.size w w10 := hin10.below hlo (Nat.le_refl _)
          go_wp2
          go_ret
          exact ⟨rfl, bel.alloc bel.size _⟩
        | true =>
          have HOK := Lib.hid hok
          clear hok
          go_wp2_with fail
          refine (step_yes hm8 HLP8.out 0 1 HOK.out (by omega) (by have := HTL.out; omega) (fun q hq => by
            have h1 := lt_of_block H88.out
            have h2 := hm8.le
            omega) (fun q hq => by omega)).mono ?_
          rintro e w9 ⟨v9, rfl, hlp9, hm9, hs9⟩
          have hin9 := hin8.trans hs9
          have H79 := Lib.hid (Sep.obj hs9 H78.out n7)
          have H89 := Lib.hid (Sep.obj hs9 H88.out n8)
          obtain ⟨M', hM'⟩ : ∃ M', M' = doL M (Int.toNat 0) at_.toNat op x y := ⟨_, rfl⟩
          have ho9 : OneReg (1 + (j + 1)) M' := by rw [hM']; exact ho8.doL _ _ _ _ _
          obtain ⟨was, hwas⟩ : ∃ was, was = peekOf M 0 at_ := ⟨_, rfl⟩
          rw [← hM'] at hm9
          dsimp only at hlp9
          rw [← hwas] at hlp9
          have htl9 : Hid ((tj ++ [was]).length = j + 1) := by show (tj ++ [was]).length = j + 1; simp [HTL.out]
          obtain ⟨o9, ra9, rn9, rc9, op9, at9, x9, y9, nx9, rfl, hst9⟩ := hlp9.one
          obtain ⟨q0, q1, q2, q3, q4, q5, q6, qf⟩ := cells7 H89.out
          have a0 := fun o => (Sep.alloc (fun _ => False) w9 o).cell q0 (fun x => x)
          have a1 := fun o => (Sep.alloc (fun _ => False) w9 o).cell q1 (fun x => x)
          have a2 := fun o => (Sep.alloc (fun _ => False) w9 o).cell q2 (fun x => x)
          have a3 := fun o => (Sep.alloc (fun _ => False) w9 o).cell q3 (fun x => x)
          have a4 := fun o => (Sep.alloc (fun _ => False) w9 o).cell q4 (fun x => x)
          have a5 := fun o => (Sep.alloc (fun _ => False) w9 o).cell q5 (fun x => x)
          have a6 := fun o => (Sep.alloc (fun _ => False) w9 o).cell q6 (fun x => x)
          have af : ∀ o k, (w9.alloc o).frozen? ⟨b8, k, none⟩ = false := fun o k => free_of_heap ((Sep.alloc (fun _ => False) w9 o).obj H89.out (fun x => x))
          have HLP9 := Lib.hid hlp9
          clear c70 c71 d0 d1 d2 d3 d4 d5 d6 hm8 hs9 hin8 q0 q1 q2 q3 q4 q5 q6 qf hM' hwas hlp9
          go_wp2
          go_roundw
          case rel =>
            have ha := Sep.alloc (fun _ => False) w9 (.cells #[.bool o9, .slice ra9 rn9 rc9, .int .i64 op9, .int .i64 at9, .int .u64 x9, .int .u64 y9, nx9] 87)
            have h7 := sep7 (w9.alloc (.cells #[.bool o9, .slice ra9 rn9 rc9, .int .i64 op9, .int .i64 at9, .int .u64 x9, .int .u64 y9, nx9] 87)) b8 (.bool o9) (.slice ra9 rn9 rc9) (.int .i64 op9) (.int .i64 at9) (.int .u64 x9) (.int .u64 y9) nx9
            exact ⟨j + 1, _, l', tj ++ [was], M', by go_num, by omega, HL2.out, heap7 (ha.obj H89.out (fun x => x)) rfl, (HLP9.out.same ha).stay h7 (fun q hq _ => hq.2), htl9.out, ho9, (hm9.same ha).stay h7 (fun q h1 h2 h3 => by omega), h7.obj (ha.obj H79.out (fun x => x)) (show ¬ (b7 = b8) by omega), in_then (hin9.trans (Same.sep ha _)) (by have := hm9.lop; omega) h7⟩
          case measure => simp [intOf]; omega
      · have hnjm : ((j : Int) == (m : Int)) = false := beq_false_of_ne (by omega)
        go_wp2
        rw [← HB10.out]
        go_quiet (fail)
        clear f0 f1 f2 f3 t0 t1 t2 t3
        generalize hw8 : w7.drewN nq = w8
        have hs8 : Same w7 w8 := by rw [← hw8]; exact Sep.drewN _ _ _
        obtain ⟨M, hM⟩ : ∃ M, M = L := ⟨_, rfl⟩
        have ho8 : OneReg (1 + (j + 1)) M := by rw [hM]; exact ⟨hone.1, by have := hone.2; omega⟩
        have hm8 : Mem lo hi w8 p M j := by rw [hM]; exact hm7.same hs8
        have hin8 : In lo hi w w8 := hin7.trans (Same.sep hs8 _)
        have H78 := Lib.hid (Same.obj hs8 H7.out)
        have H88 := Lib.hid (Same.obj hs8 H8.out)
        have HT8 := Lib.hid (Same.obj hs8 HT.out)
        have HLP8 := Lib.hid (HLP7.out.same hs8)
        clear hw8 hM hone hm7 hin7 H7 H8 HT HLP7 hnjm hs8
        have c70 : w8.cell? ⟨b7, 0, none⟩ = some (.int .i64 0) := by rw [cell_of_heap H78.out]; rfl
        have c71 : w8.cell? ⟨b7, 1, none⟩ = some (.int .u64 1) := by rw [cell_of_heap H78.out]; rfl
        obtain ⟨d0, d1, d2, d3, d4, d5, d6, d8f⟩ := cells7 H88.out
        cases hok : okB M 0 1 op at_ with
        | false =>
          have HOK := Lib.hid hok
          clear hok
          go_wp2_with fail
          refine (step_no hm8 HLP8.out 0 1 HOK.out).mono ?_
          rintro e w9 ⟨rfl, hs9⟩
          have hin9 := hin8.trans (Same.sep hs9 _)
          have HT9 := Lib.hid (Same.obj hs9 HT8.out)
          clear c70 c71 d0 d1 d2 d3 d4 d5 d6 hm8 hs9 hin8
          go_wp2_with fail
          refine (access_some _ _ _ _ _ _).mono ?_
          rintro e w10 ⟨rfl, hs10⟩
          have HT10 := Lib.hid (Same.obj hs10 ((Sep.alloc (fun _ => False) w9 _).obj HT9.out (fun x => x)))
          have u0 := fun o => cell_of_heap (j := 0) ((Sep.alloc (fun _ => False) w10 o).obj HT10.out (fun x => x))
          have u1 := fun o => cell_of_heap (j := 1) ((Sep.alloc (fun _ => False) w10 o).obj HT10.out (fun x => x))
          have u2 := fun o => cell_of_heap (j := 2) ((Sep.alloc (fun _ => False) w10 o).obj HT10.out (fun x => x))
          have u3 := fun o => cell_of_heap (j := 3) ((Sep.alloc (fun _ => False) w10 o).obj HT10.out (fun x => x))
          simp only [List.getElem?_toArray, List.getElem?_cons_zero, List.getElem?_cons_succ] at u0 u1 u2 u3
          have hin10 : In lo hi w w10 := (hin9.trans (Sep.alloc _ _ _)).trans (Same.sep hs10 _)
          have bel : Below w.heap.size w w10 := hin10.below hlo (Nat.le_refl _)
          go_wp2
          go_ret
          exact ⟨rfl, bel.alloc bel.size _⟩
        | true =>
          have HOK := Lib.hid hok
          clear hok
          go_wp2_with fail
          refine (step_yes hm8 HLP8.out 0 1 HOK.out (by omega) (by have := HTL.out; omega) (fun q hq => by
            have h1 := lt_of_block H88.out
            have h2 := hm8.le
            omega) (fun q hq => by omega)).mono ?_
          rintro e w9 ⟨v9, rfl, hlp9, hm9, hs9⟩
          have hin9 := hin8.trans hs9
          have H79 := Lib.hid (Sep.obj hs9 H78.out n7)
          have H89 := Lib.hid (Sep.obj hs9 H88.out n8)
          obtain ⟨M', hM'⟩ : ∃ M', M' = doL M (Int.toNat 0) at_.toNat op x y := ⟨_, rfl⟩
          have ho9 : OneReg (1 + (j + 1)) M' := by rw [hM']; exact ho8.doL _ _ _ _ _
          obtain ⟨was, hwas⟩ : ∃ was, was = peekOf M 0 at_ := ⟨_, rfl⟩
          rw [← hM'] at hm9
          dsimp only at hlp9
          rw [← hwas] at hlp9
          have htl9 : Hid ((tj ++ [was]).length = j + 1) := by show (tj ++ [was]).length = j + 1; simp [HTL.out]
          obtain ⟨o9, ra9, rn9, rc9, op9, at9, x9, y9, nx9, rfl, hst9⟩ := hlp9.one
          obtain ⟨q0, q1, q2, q3, q4, q5, q6, qf⟩ := cells7 H89.out
          have a0 := fun o => (Sep.alloc (fun _ => False) w9 o).cell q0 (fun x => x)
          have a1 := fun o => (Sep.alloc (fun _ => False) w9 o).cell q1 (fun x => x)
          have a2 := fun o => (Sep.alloc (fun _ => False) w9 o).cell q2 (fun x => x)
          have a3 := fun o => (Sep.alloc (fun _ => False) w9 o).cell q3 (fun x => x)
          have a4 := fun o => (Sep.alloc (fun _ => False) w9 o).cell q4 (fun x => x)
          have a5 := fun o => (Sep.alloc (fun _ => False) w9 o).cell q5 (fun x => x)
          have a6 := fun o => (Sep.alloc (fun _ => False) w9 o).cell q6 (fun x => x)
          have af : ∀ o k, (w9.alloc o).frozen? ⟨b8, k, none⟩ = false := fun o k => free_of_heap ((Sep.alloc (fun _ => False) w9 o).obj H89.out (fun x => x))
          have HLP9 := Lib.hid hlp9
          clear c70 c71 d0 d1 d2 d3 d4 d5 d6 hm8 hs9 hin8 q0 q1 q2 q3 q4 q5 q6 qf hM' hwas hlp9
          go_wp2
          go_roundw
          case rel =>
            have ha := Sep.alloc (fun _ => False) w9 (.cells #[.bool o9, .slice ra9 rn9 rc9, .int .i64 op9, .int .i64 at9, .int .u64 x9, .int .u64 y9, nx9] 87)
            have h7 := sep7 (w9.alloc (.cells #[.bool o9, .slice ra9 rn9 rc9, .int .i64 op9, .int .i64 at9, .int .u64 x9, .int .u64 y9, nx9] 87)) b8 (.bool o9) (.slice ra9 rn9 rc9) (.int .i64 op9) (.int .i64 at9) (.int .u64 x9) (.int .u64 y9) nx9
            exact ⟨j + 1, _, l', tj ++ [was], M', by go_num, by omega, HL2.out, heap7 (ha.obj H89.out (fun x => x)) rfl, (HLP9.out.same ha).stay h7 (fun q hq _ => hq.2), htl9.out, ho9, (hm9.same ha).stay h7 (fun q h1 h2 h3 => by omega), h7.obj (ha.obj H79.out (fun x => x)) (show ¬ (b7 = b8) by omega), in_then (hin9.trans (Same.sep ha _)) (by have := hm9.lop; omega) h7⟩
          case measure => simp [intOf]; omega
end Go.Proofs.Ytiljledgoflogaa
