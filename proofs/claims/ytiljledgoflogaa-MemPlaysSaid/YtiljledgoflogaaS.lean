/- The walk of ProgHalves. -/
import Derived.Test.YtiljledgoflogaaR
import Derived.Deep.CutBlock
namespace Go.Proofs.Ytiljledgoflogaa
open Go.RowKit
set_option linter.unusedSimpArgs false
set_option linter.unusedVariables false

theorem phalves_long (a0 : Option Addr) (n0 c0 : Nat) (z : Int) (h : 30 < n0) (w : World) : Calls Try.prog 13 #[.slice a0 n0 c0, .int .u8 z] w fun e w' => e = .returned (.bool true) ∧ Below w.heap.size w w' := by
  go_enter Try.func13, Try.ntmps13
  go_wp2_with fail
  refine (awake3_ok _).mono ?_
  rintro e w0 ⟨rfl, hs0⟩
  go_wp2_with fail
  refine (awake3_ok _).mono ?_
  rintro e w1 ⟨rfl, hs1⟩
  go_wp2
  go_ret
  exact ⟨rfl, Same.below (hs0.trans hs1)⟩

/-- The state of the first half: so many accesses done, one by one. -/
def Half (lo hi lq hq p q b9 n : Nat) (R : List Reg × List Int × List Acc) (w wr : World) : Prop :=
  ∃ (j : Nat) (c : Array Value) (lj : List Acc) (tj : List Int) (L : List Reg), wr.heap[b9]? = some (.cells c 87) ∧ LP (fun b => hq ≤ b ∧ b ≠ b9) wr (.agg c) lj tj ∧ tj.length = j ∧ j + lj.length ≤ n ∧ OneUp L ∧ Mem lo hi wr p L j ∧ Mem lq hq wr q fresh8 0 ∧ In lo hi w wr ∧
    (runs 0 1 L lj 40).1 = R.1 ∧ tj ++ (runs 0 1 L lj 40).2.1 = R.2.1 ∧ (runs 0 1 L lj 40).2.2 = R.2.2
theorem Half.go {lo hi lq hq p q b9 n : Nat} {R : List Reg × List Int × List Acc} {w w1 w2 : World} {j : Nat} {c : Array Value} {lj : List Acc} {tj : List Int} {L : List Reg} (hs : Same w1 w2) (hpo : w1.heap[b9]? = some (.cells c 87)) (hlp : LP (fun b => hq ≤ b ∧ b ≠ b9) w1 (.agg c) lj tj) (htl : tj.length = j) (hln : j + lj.length ≤ n)
    (hone : OneUp L) (hm : Mem lo hi w1 p L j) (hmq : Mem lq hq w1 q fresh8 0) (hin : In lo hi w w1) (r1 : (runs 0 1 L lj 40).1 = R.1) (r2 : tj ++ (runs 0 1 L lj 40).2.1 = R.2.1) (r3 : (runs 0 1 L lj 40).2.2 = R.2.2) : Half lo hi lq hq p q b9 n R w w2 :=
  ⟨j, c, lj, tj, L, Same.obj hs hpo, hlp.same hs, htl, hln, hone, hm.same hs, hmq.same hs, hin.trans (Same.sep hs _), r1, r2, r3⟩

theorem run_at {lo hi p cnt : Nat} {w : World} {L : List Reg} {F : Nat → Prop} {v : Value} {l : List Acc} {told : List Int} (hm : Mem lo hi w p L cnt) (hlp : LP F w v l told) (N : Nat) (R : List Reg × List Int × List Acc) (hR : runs 0 1 L l N = R) (hc : cnt + l.length < 1000000000) (hk : told.length + l.length ≤ 1000)
    (hF : ∀ b, w.heap.size ≤ b → F b) (hFd : ∀ b, F b → ¬ (lo ≤ b ∧ b < hi)) :
    Calls Try.prog 41 #[v, .pointer (some ⟨p, 0, none⟩), .agg #[.int .i64 0, .int .u64 1], .int .i64 N] w fun e w' => ∃ ra rc, e = .returned (.tuple #[.slice ra (if R.2.2.isEmpty = true then told ++ R.2.1 else []).length rc, .int .i64 R.2.1.length, .bool R.2.2.isEmpty]) ∧
      SlcU F w' (.slice ra (if R.2.2.isEmpty = true then told ++ R.2.1 else []).length rc) (if R.2.2.isEmpty = true then told ++ R.2.1 else []) ∧ Mem lo hi w' p R.1 (cnt + R.2.1.length) ∧ In lo hi w w' := by
  subst hR
  refine (run_any hm hlp 0 1 N hc hk hF hFd).mono ?_
  rw [Int.toNat_natCast]
  rintro e w' ⟨rv, rfl, hrv, hm', hin⟩
  cases h : (runs 0 1 L l N).2.2.isEmpty with
  | true =>
    rw [if_pos h] at hrv
    obtain ⟨ra, rc, rfl⟩ := hrv.form
    exact ⟨ra, rc, by simp, by simpa using hrv, hm', hin⟩
  | false =>
    rw [if_neg (by rw [h]; decide)] at hrv
    subst hrv
    exact ⟨none, 0, by simp, ⟨rfl, .inl ⟨rfl, rfl⟩⟩, hm', hin⟩
theorem half_step {L : List Reg} {A : Acc} {l : List Acc} {tj : List Int} {R : List Reg × List Int × List Acc} (hok : okB L 0 1 A.op A.at_ = true) (hl : l.length ≤ 39) (r1 : (runs 0 1 L (A :: l) 40).1 = R.1) (r2 : tj ++ (runs 0 1 L (A :: l) 40).2.1 = R.2.1) (r3 : (runs 0 1 L (A :: l) 40).2.2 = R.2.2) :
    (runs 0 1 (doL L (Int.toNat 0) A.at_.toNat A.op A.x A.y) l 40).1 = R.1 ∧ (tj ++ [peekOf L 0 A.at_]) ++ (runs 0 1 (doL L (Int.toNat 0) A.at_.toNat A.op A.x A.y) l 40).2.1 = R.2.1 ∧ (runs 0 1 (doL L (Int.toNat 0) A.at_.toNat A.op A.x A.y) l 40).2.2 = R.2.2 := by
  have e := runs_yes (m := 39) (l := l) hok
  rw [runs_big (m := 39) (k := 40) hl (by omega)] at e
  have e' : runs 0 1 L (A :: l) 40 = _ := e
  rw [e'] at r1 r2 r3
  exact ⟨r1, by rw [← r2]; simp, r3⟩

set_option maxRecDepth 100000 in
set_option maxHeartbeats 2000000 in
theorem phalves_walk (a0 : Option Addr) (c0 : Nat) (l : List Acc) (m : Nat) (hl : l.length ≤ 30) (hmb : m ≤ 255) (w : World) (q0 : ArgA w (.slice a0 l.length c0) l) : Calls Try.prog 13 #[.slice a0 l.length c0, .int .u8 m] w fun e w' => e = .returned (.bool true) ∧ Below w.heap.size w w' := by
  obtain ⟨n, hn⟩ : ∃ n, n = l.length := ⟨_, rfl⟩
  have Q0 := Lib.hid q0
  have hl' : n ≤ 30 := by omega
  rw [← hn] at Q0 ⊢
  have HN := Lib.hid hn
  clear q0 hl hn
  go_enter Try.func13, Try.ntmps13
  go_wp2_with fail
  refine (awake3_ok _).mono ?_
  rintro e w0 ⟨rfl, hs0⟩
  go_wp2_with fail
  refine (new_lit w0 [8] _ 1 rfl rfl (by decide) (by decide)).mono ?_
  rintro e w1 ⟨p, lo, hi, rfl, hm, hs, hlo', hhi⟩
  have hlo : w.heap.size ≤ lo := Nat.le_trans hs0.size hlo'
  have hsa : Same w w1 := hs0.trans hs
  replace hm : Mem lo hi w1 p fresh8 0 := hm
  have HHI := Lib.hid hhi
  clear hs hlo' hs0 hhi
  go_wp2_with fail
  refine (new_lit w1 [8] _ 1 rfl rfl (by decide) (by decide)).mono ?_
  rintro e w2 ⟨q, lq, hq, rfl, hmq, hsq, hlq, hhq⟩
  replace hmq : Mem lq hq w2 q fresh8 0 := hmq
  have hlq' : hi ≤ lq := by have := HHI.out; omega
  have hsa2 : Same w w2 := hsa.trans hsq
  have hm2 := hm.same hsq
  have HHQ := Lib.hid hhq
  clear hsa hm hsq hlq hhq
  go_wp2_with fail
  refine (list_arg (F := fun b => hq ≤ b) (Q0.out.same hsa2) (by have := HN.out; omega) (fun b hb => Nat.le_trans hmq.le hb)).mono ?_
  rintro e w4 ⟨v4, rfl, hlp4, hs4⟩
  have hm4 := hm2.same hs4
  have hmq4 := hmq.same hs4
  have hsa4 : Same w w4 := hsa2.trans hs4
  obtain ⟨b9, hb9⟩ : ∃ b, b = w4.heap.size := ⟨_, rfl⟩
  have hb9h : hq ≤ b9 := by rw [hb9]; exact hmq4.le
  obtain ⟨o, ra, rn, rc, op, at_, x, y, nx, rfl, hstx⟩ := hlp4.one
  have hpo : (w4.alloc (.cells #[.bool o, .slice ra rn rc, .int .i64 op, .int .i64 at_, .int .u64 x, .int .u64 y, nx] 87)).heap[b9]? = some (.cells #[.bool o, .slice ra rn rc, .int .i64 op, .int .i64 at_, .int .u64 x, .int .u64 y, nx] 87) := by rw [hb9]; exact heap_alloc_new _ _
  have hs5 : Same w4 (w4.alloc (.cells #[.bool o, .slice ra rn rc, .int .i64 op, .int .i64 at_, .int .u64 x, .int .u64 y, nx] 87)) := Sep.alloc _ _ _
  have hlp5 := (hlp4.imp2 (G := fun b => hq ≤ b ∧ b ≠ b9) (fun b hb hlt => ⟨hb, by omega⟩)).same hs5
  have hm5 := hm4.same hs5
  have hmq5 := hmq4.same hs5
  have hin5 : In lo hi w (w4.alloc (.cells #[.bool o, .slice ra rn rc, .int .i64 op, .int .i64 at_, .int .u64 x, .int .u64 y, nx] 87)) := Same.sep (hsa4.trans hs5) _
  have HB9 := Lib.hid hb9
  have hlohi : lo < hi := by have := hm5.lop; omega
  have hlqhq : lq < hq := by have := hmq5.lop; omega
  obtain ⟨R, hR⟩ : ∃ R, R = runs 0 1 fresh8 l 40 := ⟨_, rfl⟩
  have HR := Lib.hid hR
  clear hb9 hlp4 hm4 hm2 hsa2 hsa4 hs4 hs5 hmq hmq4 hR
  go_upto_block 0 with fail
  rw [← HB9.out]
  go_cut [10, 11, 12] from 46 (fun _ _ _ wx => Half lo hi lq hq p q b9 n R w wx)
  case first =>
    go_wp2_with fail
    go_loopw [10] (fun i wr => ∃ k : Nat, k ≤ m % 31 ∧ i = .int .i64 k ∧ Half lo hi lq hq p q b9 n R w wr) (fun i _ => m % 31 - (intOf i).toNat)
    case atStart => exact ⟨0, by omega, rfl, 0, _, l, [], fresh8, hpo, hlp5, rfl, by have := HN.out; omega, ⟨rfl, rfl⟩, hm5, hmq5, hin5, by rw [HR.out], by rw [HR.out]; rfl, by rw [HR.out]⟩
    case round =>
      clear hpo hlp5 hm5 hmq5 hin5
      obtain ⟨k, hk, rfl, j, c, lj, tj, L, hpo, hlp, htl, hln, hone, hm, hmq, hin, r1, r2, r3⟩ := hrel
      by_cases hlt : k < m % 31
      · have HTL := Lib.hid htl
        have HLN := Lib.hid hln
        have HONE := Lib.hid hone
        have R1 := Lib.hid r1
        have R2 := Lib.hid r2
        have R3 := Lib.hid r3
        have n9 : ¬ (lo ≤ b9 ∧ b9 < hi) := by omega
        clear htl hln hone r1 r2 r3
        rcases hlp.form with ⟨rfl, ra, rc, hform⟩ | ⟨A, l', lb, tb, rfl, hform⟩
        · obtain rfl : c = _ := (Value.agg.injEq _ _).mp hform
          obtain ⟨tn, htn⟩ : ∃ n, n = tj.length := ⟨_, rfl⟩
          rw [← htn] at hpo hlp
          obtain ⟨c9_0, c9_1, c9_2, c9_3, c9_4, c9_5, c9_6, c9f⟩ := cells7 hpo
          clear hform htn
          go_wp2
          refine wp_region_held_drew (S := (fun v => v.cell? ⟨b9, 0, none⟩ = some (.bool true) ∧ v.cell? ⟨b9, 1, none⟩ = some (.slice ra tn rc) ∧ v.cell? ⟨b9, 2, none⟩ = some (.int .i64 0) ∧ v.cell? ⟨b9, 3, none⟩ = some (.int .i64 0) ∧ v.cell? ⟨b9, 4, none⟩ = some (.int .u64 0) ∧ v.cell? ⟨b9, 5, none⟩ = some (.int .u64 0) ∧ v.cell? ⟨b9, 6, none⟩ = some (.nilFunc))) (by kernel_rfl) ?_ (fun hHeld => ?_)
          · exact ⟨(Sep.drew (fun _ => False) wr).cell c9_0 (fun x => x), (Sep.drew (fun _ => False) wr).cell c9_1 (fun x => x), (Sep.drew (fun _ => False) wr).cell c9_2 (fun x => x), (Sep.drew (fun _ => False) wr).cell c9_3 (fun x => x), (Sep.drew (fun _ => False) wr).cell c9_4 (fun x => x), (Sep.drew (fun _ => False) wr).cell c9_5 (fun x => x), (Sep.drew (fun _ => False) wr).cell c9_6 (fun x => x)⟩
          change wpAnyH _ _ _ _ _ 11 _ _ _
          refine wpAnyH_take (i := 0) (oi := ⟨some 54, _, _, _, _, _⟩) (v := ?v1) rfl (by kernel_rfl) (by kernel_rfl) (by kernel_rfl) (fun _ _ _ h => h) (Or.inl ⟨by kernel_rfl, ?h1⟩) hHeld ?_
          case h1 => intro w hSw; (try dsimp only at hSw); go_simp; try with_reducible rfl
          try simp only [Act.put, List.setIfInBounds_toArray, List.set_cons_zero, List.set_cons_succ]
          refine wpAnyH_take (i := 1) (oi := ⟨some 55, _, _, _, _, _⟩) (v := ?v2) rfl (by kernel_rfl) (by kernel_rfl) (by kernel_rfl) (fun _ _ _ h => h) (Or.inl ⟨by kernel_rfl, ?h2⟩) hHeld ?_
          case h2 => intro w hSw; (try dsimp only at hSw); go_simp; try with_reducible rfl
          try simp only [Act.put, List.setIfInBounds_toArray, List.set_cons_zero, List.set_cons_succ]
          refine wpAnyH_take (i := 2) (oi := ⟨some 56, _, _, _, _, _⟩) (v := ?v3) rfl (by kernel_rfl) (by kernel_rfl) (by kernel_rfl) (fun _ _ _ h => h) (Or.inl ⟨by kernel_rfl, ?h3⟩) hHeld ?_
          case h3 => intro w hSw; (try dsimp only at hSw); go_simp; try with_reducible rfl
          try simp only [Act.put, List.setIfInBounds_toArray, List.set_cons_zero, List.set_cons_succ]
          refine wpAnyH_ready (rs := [3, 8]) (by kernel_rfl) (by simp) ?_
          refine AllReadyH.cons (o := ⟨some 57, _, _, _, _, _⟩) rfl (fun K hK => ?_) ?_
          ·
            rw [if_pos (by kernel_rfl)]
            go_simp
            refine (cap_any (hm.stay (Same.sep (Sep.drew _ wr) (fun _ => False)) (fun _ _ _ x => x)) 0).mono ?_
            rintro e wC ⟨rfl, hsC⟩
            rw [HONE.out.cap]
            have hC : Same wr wC := Sep.trans (Sep.drew _ wr) hsC
            refine hK.out _ _ ?_ (fun hHeld => ?_)
            · exact ⟨Same.cell hC c9_0, Same.cell hC c9_1, Same.cell hC c9_2, Same.cell hC c9_3, Same.cell hC c9_4, Same.cell hC c9_5, Same.cell hC c9_6⟩
            clear hK K
            try simp only [Act.put, List.setIfInBounds_toArray, List.set_cons_zero, List.set_cons_succ]
            refine wpAnyH_ready (rs := [4, 8]) (by kernel_rfl) (by simp) ?_
            refine AllReadyH.cons (o := ⟨some 58, _, _, _, _, _⟩) rfl (fun K hK => ?_) ?_
            ·
              rw [if_pos (by kernel_rfl)]
              go_simp
              refine (step_over _ _ _ _ _ _ ⟨_, rfl⟩ _).mono ?_
              rintro e wS ⟨rfl, hsS⟩
              have hS : In lo hi wr wS := (Same.sep (hC) _).trans (Same.sep hsS _)
              have hS0 : Same wr wS := Sep.trans (hC) hsS
              refine hK.out _ _ ?_ (fun hHeld => ?_)
              · exact ⟨Sep.cell hS c9_0 n9, Sep.cell hS c9_1 n9, Sep.cell hS c9_2 n9, Sep.cell hS c9_3 n9, Sep.cell hS c9_4 n9, Sep.cell hS c9_5 n9, Sep.cell hS c9_6 n9⟩
              clear hK K
              try simp only [Act.put, List.setIfInBounds_toArray, List.set_cons_zero, List.set_cons_succ]
              refine wpAnyH_take (i := 5) (oi := ⟨some 53, _, _, _, _, _⟩) (v := ?v4) rfl (by kernel_rfl) (by kernel_rfl) (by kernel_rfl) (fun _ _ _ h => h) (Or.inl ⟨by kernel_rfl, ?h4⟩) hHeld ?_
              case h4 => intro w hSw; (try dsimp only at hSw); go_simp; try with_reducible rfl
              try simp only [Act.put, List.setIfInBounds_toArray, List.set_cons_zero, List.set_cons_succ]
              refine wpAnyH_take (i := 6) (oi := ⟨some 59, _, _, _, _, _⟩) (v := ?v5) rfl (by kernel_rfl) (by kernel_rfl) (by kernel_rfl) (fun _ _ _ h => h) (Or.inl ⟨by kernel_rfl, ?h5⟩) hHeld ?_
              case h5 => intro w hSw; (try dsimp only at hSw); go_simp; try with_reducible rfl
              try simp only [Act.put, List.setIfInBounds_toArray, List.set_cons_zero, List.set_cons_succ]
              refine wpAnyH_take (i := 7) (oi := ⟨some 60, _, _, _, _, _⟩) (v := ?v6) rfl (by kernel_rfl) (by kernel_rfl) (by kernel_rfl) (fun _ _ _ h => h) (Or.inl ⟨by kernel_rfl, ?h6⟩) hHeld ?_
              case h6 => intro w hSw; (try dsimp only at hSw); go_simp; try with_reducible rfl
              try simp only [Act.put, List.setIfInBounds_toArray, List.set_cons_zero, List.set_cons_succ]
              refine wpAnyH_ready (rs := [8]) (by kernel_rfl) (by simp) ?_
              refine AllReadyH.cons (o := ⟨some 11, _, _, _, _, _⟩) rfl (fun K hK => ?_) AllReadyH.nil
              rw [if_pos (by kernel_rfl)]
              go_simp
              obtain ⟨wA, hwA⟩ : ∃ x, x = wS.alloc (.cells #[.bool false, .slice none 0 0, .int .i64 0, .int .i64 0, .int .u64 0, .int .u64 0, .nilFunc] 87) := ⟨_, rfl⟩
              rw [← hwA]
              have hA0 : Same wS wA := by rw [hwA]; exact Sep.alloc _ _ _
              have obA : wA.heap[wS.heap.size]? = some (.cells #[.bool false, .slice none 0 0, .int .i64 0, .int .i64 0, .int .u64 0, .int .u64 0, .nilFunc] 87) := by rw [hwA]; exact heap_alloc_new _ _
              obtain ⟨b11, hb11⟩ : ∃ b, b = wS.heap.size := ⟨_, rfl⟩
              have hA : In lo hi wr wA := hS.trans (Same.sep hA0 _)
              have g11 : wr.heap.size ≤ b11 := by have := hS.size; omega
              have g11S : wS.heap.size ≤ b11 := by omega
              rw [← hb11] at obA ⊢
              clear hwA hb11
              refine hK.out _ _ ?_ (fun hHeld => ?_)
              · exact ⟨Sep.cell hA c9_0 n9, Sep.cell hA c9_1 n9, Sep.cell hA c9_2 n9, Sep.cell hA c9_3 n9, Sep.cell hA c9_4 n9, Sep.cell hA c9_5 n9, Sep.cell hA c9_6 n9⟩
              clear hK K
              try simp only [Act.put, List.setIfInBounds_toArray, List.set_cons_zero, List.set_cons_succ]
              refine wpAnyH_ready (rs := [9]) (by kernel_rfl) (by simp) ?_
              refine AllReadyH.cons (o := ⟨none, _, _, _, _, _⟩) rfl (fun K hK => ?_) AllReadyH.nil
              obtain ⟨t0, t1, t2, t3, t4, t5, t6, tf⟩ := cells7 obA
              rw [if_pos (by kernel_rfl)]
              go_simp
              obtain ⟨wT, hwT⟩ : ∃ x, x = (((((((wA.setCell ⟨b11, 0, none⟩ (.bool true)).setCell ⟨b11, 1, none⟩ (.slice ra tn rc)).setCell ⟨b11, 2, none⟩ (.int .i64 0)).setCell ⟨b11, 3, none⟩ (.int .i64 0)).setCell ⟨b11, 4, none⟩ (.int .u64 0)).setCell ⟨b11, 5, none⟩ (.int .u64 0)).setCell ⟨b11, 6, none⟩ (.nilFunc)) := ⟨_, rfl⟩
              rw [← hwT]
              have h7 : Sep (fun k => k = b11) wA wT := by rw [hwT]; exact sep7 wA b11 (.bool true) (.slice ra tn rc) (.int .i64 0) (.int .i64 0) (.int .u64 0) (.int .u64 0) (.nilFunc)
              have obT : wT.heap[b11]? = some (.cells #[.bool true, .slice ra tn rc, .int .i64 0, .int .i64 0, .int .u64 0, .int .u64 0, .nilFunc] 87) := by rw [hwT]; exact heap7 obA rfl
              have h911 : ¬ b9 = b11 := by have := lt_of_block hpo; omega
              clear hwT
              refine hK.out _ _ ?_ (fun hHeld => ?_)
              · exact ⟨h7.cell (Sep.cell hA c9_0 n9) h911, h7.cell (Sep.cell hA c9_1 n9) h911, h7.cell (Sep.cell hA c9_2 n9) h911, h7.cell (Sep.cell hA c9_3 n9) h911, h7.cell (Sep.cell hA c9_4 n9) h911, h7.cell (Sep.cell hA c9_5 n9) h911, h7.cell (Sep.cell hA c9_6 n9) h911⟩
              clear hK K
              try simp only [Act.put, List.setIfInBounds_toArray, List.set_cons_zero, List.set_cons_succ]
              refine wpAnyH_take (i := 10) (oi := ⟨some 12, _, _, _, _, _⟩) (v := ?v7) rfl (by kernel_rfl) (by kernel_rfl) (by kernel_rfl) (fun _ _ _ h => h) (Or.inl ⟨by kernel_rfl, ?h7⟩) hHeld ?_
              case h7 => intro w hSw; (try dsimp only at hSw); go_simp; try with_reducible rfl
              try simp only [Act.put, List.setIfInBounds_toArray, List.set_cons_zero, List.set_cons_succ]
              refine wpAnyH_done (by kernel_rfl) ?_ _
              have hT : Same wr wT := same_then (hS0.trans hA0) g11 h7
              clear hHeld c9_0 c9_1 c9_2 c9_3 c9_4 c9_5 c9_6
              go_wp2
              go_meet
              exact Half.go hT hpo hlp HTL.out HLN.out HONE.out hm hmq hin R1.out R2.out R3.out
            refine AllReadyH.cons (o := ⟨some 11, _, _, _, _, _⟩) rfl (fun K hK => ?_) AllReadyH.nil
            ·
              rw [if_pos (by kernel_rfl)]
              go_simp
              obtain ⟨wA, hwA⟩ : ∃ x, x = wC.alloc (.cells #[.bool false, .slice none 0 0, .int .i64 0, .int .i64 0, .int .u64 0, .int .u64 0, .nilFunc] 87) := ⟨_, rfl⟩
              rw [← hwA]
              have hA0 : Same wC wA := by rw [hwA]; exact Sep.alloc _ _ _
              have obA : wA.heap[wC.heap.size]? = some (.cells #[.bool false, .slice none 0 0, .int .i64 0, .int .i64 0, .int .u64 0, .int .u64 0, .nilFunc] 87) := by rw [hwA]; exact heap_alloc_new _ _
              obtain ⟨b11, hb11⟩ : ∃ b, b = wC.heap.size := ⟨_, rfl⟩
              have hA : Same wr wA := Sep.trans (hC) hA0
              have g11 : wr.heap.size ≤ b11 := by have := Sep.size (hC); omega
              rw [← hb11] at obA ⊢
              clear hwA hb11
              refine hK.out _ _ ?_ (fun hHeld => ?_)
              · exact ⟨Same.cell hA c9_0, Same.cell hA c9_1, Same.cell hA c9_2, Same.cell hA c9_3, Same.cell hA c9_4, Same.cell hA c9_5, Same.cell hA c9_6⟩
              clear hK K
              try simp only [Act.put, List.setIfInBounds_toArray, List.set_cons_zero, List.set_cons_succ]
              refine wpAnyH_ready (rs := [4]) (by kernel_rfl) (by simp) ?_
              refine AllReadyH.cons (o := ⟨some 58, _, _, _, _, _⟩) rfl (fun K hK => ?_) AllReadyH.nil
              rw [if_pos (by kernel_rfl)]
              go_simp
              refine (step_over _ _ _ _ _ _ ⟨_, rfl⟩ _).mono ?_
              rintro e wS ⟨rfl, hsS⟩
              have hS : In lo hi wr wS := (Same.sep (hA) _).trans (Same.sep hsS _)
              have n11 : ¬ (lo ≤ b11 ∧ b11 < hi) := by have := hm.le; omega
              have obS := Sep.obj (Same.sep hsS (fun k => lo ≤ k ∧ k < hi)) obA n11
              have hS0 : Same wr wS := Sep.trans (hA) hsS
              refine hK.out _ _ ?_ (fun hHeld => ?_)
              · exact ⟨Sep.cell hS c9_0 n9, Sep.cell hS c9_1 n9, Sep.cell hS c9_2 n9, Sep.cell hS c9_3 n9, Sep.cell hS c9_4 n9, Sep.cell hS c9_5 n9, Sep.cell hS c9_6 n9⟩
              clear hK K
              try simp only [Act.put, List.setIfInBounds_toArray, List.set_cons_zero, List.set_cons_succ]
              refine wpAnyH_take (i := 5) (oi := ⟨some 53, _, _, _, _, _⟩) (v := ?v8) rfl (by kernel_rfl) (by kernel_rfl) (by kernel_rfl) (fun _ _ _ h => h) (Or.inl ⟨by kernel_rfl, ?h8⟩) hHeld ?_
              case h8 => intro w hSw; (try dsimp only at hSw); go_simp; try with_reducible rfl
              try simp only [Act.put, List.setIfInBounds_toArray, List.set_cons_zero, List.set_cons_succ]
              refine wpAnyH_take (i := 6) (oi := ⟨some 59, _, _, _, _, _⟩) (v := ?v9) rfl (by kernel_rfl) (by kernel_rfl) (by kernel_rfl) (fun _ _ _ h => h) (Or.inl ⟨by kernel_rfl, ?h9⟩) hHeld ?_
              case h9 => intro w hSw; (try dsimp only at hSw); go_simp; try with_reducible rfl
              try simp only [Act.put, List.setIfInBounds_toArray, List.set_cons_zero, List.set_cons_succ]
              refine wpAnyH_take (i := 7) (oi := ⟨some 60, _, _, _, _, _⟩) (v := ?v10) rfl (by kernel_rfl) (by kernel_rfl) (by kernel_rfl) (fun _ _ _ h => h) (Or.inl ⟨by kernel_rfl, ?h10⟩) hHeld ?_
              case h10 => intro w hSw; (try dsimp only at hSw); go_simp; try with_reducible rfl
              try simp only [Act.put, List.setIfInBounds_toArray, List.set_cons_zero, List.set_cons_succ]
              refine wpAnyH_ready (rs := [9]) (by kernel_rfl) (by simp) ?_
              refine AllReadyH.cons (o := ⟨none, _, _, _, _, _⟩) rfl (fun K hK => ?_) AllReadyH.nil
              obtain ⟨t0, t1, t2, t3, t4, t5, t6, tf⟩ := cells7 obS
              rw [if_pos (by kernel_rfl)]
              go_simp
              obtain ⟨wT, hwT⟩ : ∃ x, x = (((((((wS.setCell ⟨b11, 0, none⟩ (.bool true)).setCell ⟨b11, 1, none⟩ (.slice ra tn rc)).setCell ⟨b11, 2, none⟩ (.int .i64 0)).setCell ⟨b11, 3, none⟩ (.int .i64 0)).setCell ⟨b11, 4, none⟩ (.int .u64 0)).setCell ⟨b11, 5, none⟩ (.int .u64 0)).setCell ⟨b11, 6, none⟩ (.nilFunc)) := ⟨_, rfl⟩
              rw [← hwT]
              have h7 : Sep (fun k => k = b11) wS wT := by rw [hwT]; exact sep7 wS b11 (.bool true) (.slice ra tn rc) (.int .i64 0) (.int .i64 0) (.int .u64 0) (.int .u64 0) (.nilFunc)
              have obT : wT.heap[b11]? = some (.cells #[.bool true, .slice ra tn rc, .int .i64 0, .int .i64 0, .int .u64 0, .int .u64 0, .nilFunc] 87) := by rw [hwT]; exact heap7 obS rfl
              have h911 : ¬ b9 = b11 := by have := lt_of_block hpo; omega
              clear hwT
              refine hK.out _ _ ?_ (fun hHeld => ?_)
              · exact ⟨h7.cell (Sep.cell hS c9_0 n9) h911, h7.cell (Sep.cell hS c9_1 n9) h911, h7.cell (Sep.cell hS c9_2 n9) h911, h7.cell (Sep.cell hS c9_3 n9) h911, h7.cell (Sep.cell hS c9_4 n9) h911, h7.cell (Sep.cell hS c9_5 n9) h911, h7.cell (Sep.cell hS c9_6 n9) h911⟩
              clear hK K
              try simp only [Act.put, List.setIfInBounds_toArray, List.set_cons_zero, List.set_cons_succ]
              refine wpAnyH_take (i := 10) (oi := ⟨some 12, _, _, _, _, _⟩) (v := ?v11) rfl (by kernel_rfl) (by kernel_rfl) (by kernel_rfl) (fun _ _ _ h => h) (Or.inl ⟨by kernel_rfl, ?h11⟩) hHeld ?_
              case h11 => intro w hSw; (try dsimp only at hSw); go_simp; try with_reducible rfl
              try simp only [Act.put, List.setIfInBounds_toArray, List.set_cons_zero, List.set_cons_succ]
              refine wpAnyH_done (by kernel_rfl) ?_ _
              have hT : Same wr wT := same_then hS0 g11 h7
              clear hHeld c9_0 c9_1 c9_2 c9_3 c9_4 c9_5 c9_6
              go_wp2
              go_meet
              exact Half.go hT hpo hlp HTL.out HLN.out HONE.out hm hmq hin R1.out R2.out R3.out
          refine AllReadyH.cons (o := ⟨some 11, _, _, _, _, _⟩) rfl (fun K hK => ?_) AllReadyH.nil
          ·
            rw [if_pos (by kernel_rfl)]
            go_simp
            obtain ⟨wA, hwA⟩ : ∃ x, x = (wr.alloc (.cells #[.bool false, .slice none 0 0, .int .i64 0, .int .i64 0, .int .u64 0, .int .u64 0, .nilFunc] 87)).drew := ⟨_, rfl⟩
            rw [← hwA]
            have hA : Same wr wA := by rw [hwA]; exact Sep.trans (Sep.alloc _ wr _) (Sep.drew _ _)
            have obA : wA.heap[wr.heap.size]? = some (.cells #[.bool false, .slice none 0 0, .int .i64 0, .int .i64 0, .int .u64 0, .int .u64 0, .nilFunc] 87) := by rw [hwA]; exact heap_alloc_new wr _
            obtain ⟨b11, hb11⟩ : ∃ b, b = wr.heap.size := ⟨_, rfl⟩
            have g11 : wr.heap.size ≤ b11 := by omega
            rw [← hb11] at obA ⊢
            clear hwA hb11
            refine hK.out _ _ ?_ (fun hHeld => ?_)
            · exact ⟨Same.cell hA c9_0, Same.cell hA c9_1, Same.cell hA c9_2, Same.cell hA c9_3, Same.cell hA c9_4, Same.cell hA c9_5, Same.cell hA c9_6⟩
            clear hK K
            try simp only [Act.put, List.setIfInBounds_toArray, List.set_cons_zero, List.set_cons_succ]
            refine wpAnyH_ready (rs := [3]) (by kernel_rfl) (by simp) ?_
            refine AllReadyH.cons (o := ⟨some 57, _, _, _, _, _⟩) rfl (fun K hK => ?_) AllReadyH.nil
            rw [if_pos (by kernel_rfl)]
            go_simp
            refine (cap_any (hm.stay (Same.sep (hA) (fun _ => False)) (fun _ _ _ x => x)) 0).mono ?_
            rintro e wC ⟨rfl, hsC⟩
            rw [HONE.out.cap]
            have hC : Same wr wC := Sep.trans (hA) hsC
            refine hK.out _ _ ?_ (fun hHeld => ?_)
            · exact ⟨Same.cell hC c9_0, Same.cell hC c9_1, Same.cell hC c9_2, Same.cell hC c9_3, Same.cell hC c9_4, Same.cell hC c9_5, Same.cell hC c9_6⟩
            clear hK K
            try simp only [Act.put, List.setIfInBounds_toArray, List.set_cons_zero, List.set_cons_succ]
            refine wpAnyH_ready (rs := [4]) (by kernel_rfl) (by simp) ?_
            refine AllReadyH.cons (o := ⟨some 58, _, _, _, _, _⟩) rfl (fun K hK => ?_) AllReadyH.nil
            rw [if_pos (by kernel_rfl)]
            go_simp
            have hC_b11 := Same.obj hsC obA
            refine (step_over _ _ _ _ _ _ ⟨_, rfl⟩ _).mono ?_
            rintro e wS ⟨rfl, hsS⟩
            have hS : In lo hi wr wS := (Same.sep (hC) _).trans (Same.sep hsS _)
            have n11 : ¬ (lo ≤ b11 ∧ b11 < hi) := by have := hm.le; omega
            have obS := Sep.obj (Same.sep hsS (fun k => lo ≤ k ∧ k < hi)) hC_b11 n11
            have hS0 : Same wr wS := Sep.trans (hC) hsS
            refine hK.out _ _ ?_ (fun hHeld => ?_)
            · exact ⟨Sep.cell hS c9_0 n9, Sep.cell hS c9_1 n9, Sep.cell hS c9_2 n9, Sep.cell hS c9_3 n9, Sep.cell hS c9_4 n9, Sep.cell hS c9_5 n9, Sep.cell hS c9_6 n9⟩
            clear hK K
            try simp only [Act.put, List.setIfInBounds_toArray, List.set_cons_zero, List.set_cons_succ]
            refine wpAnyH_take (i := 5) (oi := ⟨some 53, _, _, _, _, _⟩) (v := ?v12) rfl (by kernel_rfl) (by kernel_rfl) (by kernel_rfl) (fun _ _ _ h => h) (Or.inl ⟨by kernel_rfl, ?h12⟩) hHeld ?_
            case h12 => intro w hSw; (try dsimp only at hSw); go_simp; try with_reducible rfl
            try simp only [Act.put, List.setIfInBounds_toArray, List.set_cons_zero, List.set_cons_succ]
            refine wpAnyH_take (i := 6) (oi := ⟨some 59, _, _, _, _, _⟩) (v := ?v13) rfl (by kernel_rfl) (by kernel_rfl) (by kernel_rfl) (fun _ _ _ h => h) (Or.inl ⟨by kernel_rfl, ?h13⟩) hHeld ?_
            case h13 => intro w hSw; (try dsimp only at hSw); go_simp; try with_reducible rfl
            try simp only [Act.put, List.setIfInBounds_toArray, List.set_cons_zero, List.set_cons_succ]
            refine wpAnyH_take (i := 7) (oi := ⟨some 60, _, _, _, _, _⟩) (v := ?v14) rfl (by kernel_rfl) (by kernel_rfl) (by kernel_rfl) (fun _ _ _ h => h) (Or.inl ⟨by kernel_rfl, ?h14⟩) hHeld ?_
            case h14 => intro w hSw; (try dsimp only at hSw); go_simp; try with_reducible rfl
            try simp only [Act.put, List.setIfInBounds_toArray, List.set_cons_zero, List.set_cons_succ]
            refine wpAnyH_ready (rs := [9]) (by kernel_rfl) (by simp) ?_
            refine AllReadyH.cons (o := ⟨none, _, _, _, _, _⟩) rfl (fun K hK => ?_) AllReadyH.nil
            obtain ⟨t0, t1, t2, t3, t4, t5, t6, tf⟩ := cells7 obS
            rw [if_pos (by kernel_rfl)]
            go_simp
            obtain ⟨wT, hwT⟩ : ∃ x, x = (((((((wS.setCell ⟨b11, 0, none⟩ (.bool true)).setCell ⟨b11, 1, none⟩ (.slice ra tn rc)).setCell ⟨b11, 2, none⟩ (.int .i64 0)).setCell ⟨b11, 3, none⟩ (.int .i64 0)).setCell ⟨b11, 4, none⟩ (.int .u64 0)).setCell ⟨b11, 5, none⟩ (.int .u64 0)).setCell ⟨b11, 6, none⟩ (.nilFunc)) := ⟨_, rfl⟩
            rw [← hwT]
            have h7 : Sep (fun k => k = b11) wS wT := by rw [hwT]; exact sep7 wS b11 (.bool true) (.slice ra tn rc) (.int .i64 0) (.int .i64 0) (.int .u64 0) (.int .u64 0) (.nilFunc)
            have obT : wT.heap[b11]? = some (.cells #[.bool true, .slice ra tn rc, .int .i64 0, .int .i64 0, .int .u64 0, .int .u64 0, .nilFunc] 87) := by rw [hwT]; exact heap7 obS rfl
            have h911 : ¬ b9 = b11 := by have := lt_of_block hpo; omega
            clear hwT
            refine hK.out _ _ ?_ (fun hHeld => ?_)
            · exact ⟨h7.cell (Sep.cell hS c9_0 n9) h911, h7.cell (Sep.cell hS c9_1 n9) h911, h7.cell (Sep.cell hS c9_2 n9) h911, h7.cell (Sep.cell hS c9_3 n9) h911, h7.cell (Sep.cell hS c9_4 n9) h911, h7.cell (Sep.cell hS c9_5 n9) h911, h7.cell (Sep.cell hS c9_6 n9) h911⟩
            clear hK K
            try simp only [Act.put, List.setIfInBounds_toArray, List.set_cons_zero, List.set_cons_succ]
            refine wpAnyH_take (i := 10) (oi := ⟨some 12, _, _, _, _, _⟩) (v := ?v15) rfl (by kernel_rfl) (by kernel_rfl) (by kernel_rfl) (fun _ _ _ h => h) (Or.inl ⟨by kernel_rfl, ?h15⟩) hHeld ?_
            case h15 => intro w hSw; (try dsimp only at hSw); go_simp; try with_reducible rfl
            try simp only [Act.put, List.setIfInBounds_toArray, List.set_cons_zero, List.set_cons_succ]
            refine wpAnyH_done (by kernel_rfl) ?_ _
            have hT : Same wr wT := same_then hS0 g11 h7
            clear hHeld c9_0 c9_1 c9_2 c9_3 c9_4 c9_5 c9_6
            go_wp2
            go_meet
            exact Half.go hT hpo hlp HTL.out HLN.out HONE.out hm hmq hin R1.out R2.out R3.out
        · obtain rfl : c = _ := (Value.agg.injEq _ _).mp hform
          obtain ⟨c9_0, c9_1, c9_2, c9_3, c9_4, c9_5, c9_6, c9f⟩ := cells7 hpo
          clear hform
          cases hok : okB L 0 1 A.op A.at_ with
          | false =>
            have HOK := Lib.hid hok
            clear hok
            go_wp2
            refine wp_region_held_drew (S := (fun v => v.cell? ⟨b9, 0, none⟩ = some (.bool false) ∧ v.cell? ⟨b9, 1, none⟩ = some (.slice none 0 0) ∧ v.cell? ⟨b9, 2, none⟩ = some (.int .i64 A.op) ∧ v.cell? ⟨b9, 3, none⟩ = some (.int .i64 A.at_) ∧ v.cell? ⟨b9, 4, none⟩ = some (.int .u64 A.x) ∧ v.cell? ⟨b9, 5, none⟩ = some (.int .u64 A.y) ∧ v.cell? ⟨b9, 6, none⟩ = some (.func (.func 93) #[] #[.pointer (some ⟨lb, 0, none⟩), .pointer (some ⟨tb, 0, none⟩)]))) (by kernel_rfl) ?_ (fun hHeld => ?_)
            · exact ⟨(Sep.drew (fun _ => False) wr).cell c9_0 (fun x => x), (Sep.drew (fun _ => False) wr).cell c9_1 (fun x => x), (Sep.drew (fun _ => False) wr).cell c9_2 (fun x => x), (Sep.drew (fun _ => False) wr).cell c9_3 (fun x => x), (Sep.drew (fun _ => False) wr).cell c9_4 (fun x => x), (Sep.drew (fun _ => False) wr).cell c9_5 (fun x => x), (Sep.drew (fun _ => False) wr).cell c9_6 (fun x => x)⟩
            change wpAnyH _ _ _ _ _ 11 _ _ _
            refine wpAnyH_take (i := 0) (oi := ⟨some 54, _, _, _, _, _⟩) (v := ?v16) rfl (by kernel_rfl) (by kernel_rfl) (by kernel_rfl) (fun _ _ _ h => h) (Or.inl ⟨by kernel_rfl, ?h16⟩) hHeld ?_
            case h16 => intro w hSw; (try dsimp only at hSw); go_simp; try with_reducible rfl
            try simp only [Act.put, List.setIfInBounds_toArray, List.set_cons_zero, List.set_cons_succ]
            refine wpAnyH_take (i := 1) (oi := ⟨some 55, _, _, _, _, _⟩) (v := ?v17) rfl (by kernel_rfl) (by kernel_rfl) (by kernel_rfl) (fun _ _ _ h => h) (Or.inl ⟨by kernel_rfl, ?h17⟩) hHeld ?_
            case h17 => intro w hSw; (try dsimp only at hSw); go_simp; try with_reducible rfl
            try simp only [Act.put, List.setIfInBounds_toArray, List.set_cons_zero, List.set_cons_succ]
            refine wpAnyH_take (i := 2) (oi := ⟨some 56, _, _, _, _, _⟩) (v := ?v18) rfl (by kernel_rfl) (by kernel_rfl) (by kernel_rfl) (fun _ _ _ h => h) (Or.inl ⟨by kernel_rfl, ?h18⟩) hHeld ?_
            case h18 => intro w hSw; (try dsimp only at hSw); go_simp; try with_reducible rfl
            try simp only [Act.put, List.setIfInBounds_toArray, List.set_cons_zero, List.set_cons_succ]
            refine wpAnyH_ready (rs := [3, 8]) (by kernel_rfl) (by simp) ?_
            refine AllReadyH.cons (o := ⟨some 57, _, _, _, _, _⟩) rfl (fun K hK => ?_) ?_
            ·
              rw [if_pos (by kernel_rfl)]
              go_simp
              refine (cap_any (hm.stay (Same.sep (Sep.drew _ wr) (fun _ => False)) (fun _ _ _ x => x)) 0).mono ?_
              rintro e wC ⟨rfl, hsC⟩
              rw [HONE.out.cap]
              have hC : Same wr wC := Sep.trans (Sep.drew _ wr) hsC
              refine hK.out _ _ ?_ (fun hHeld => ?_)
              · exact ⟨Same.cell hC c9_0, Same.cell hC c9_1, Same.cell hC c9_2, Same.cell hC c9_3, Same.cell hC c9_4, Same.cell hC c9_5, Same.cell hC c9_6⟩
              clear hK K
              try simp only [Act.put, List.setIfInBounds_toArray, List.set_cons_zero, List.set_cons_succ]
              refine wpAnyH_ready (rs := [4, 8]) (by kernel_rfl) (by simp) ?_
              refine AllReadyH.cons (o := ⟨some 58, _, _, _, _, _⟩) rfl (fun K hK => ?_) ?_
              ·
                rw [if_pos (by kernel_rfl)]
                go_simp
                refine (step_no (hm.same (hC)) (hlp.same (hC)) 0 1 HOK.out).mono ?_
                rintro e wS ⟨rfl, hsS⟩
                have hS : In lo hi wr wS := (Same.sep (hC) _).trans (Same.sep hsS _)
                have hS0 : Same wr wS := Sep.trans (hC) hsS
                refine hK.out _ _ ?_ (fun hHeld => ?_)
                · exact ⟨Sep.cell hS c9_0 n9, Sep.cell hS c9_1 n9, Sep.cell hS c9_2 n9, Sep.cell hS c9_3 n9, Sep.cell hS c9_4 n9, Sep.cell hS c9_5 n9, Sep.cell hS c9_6 n9⟩
                clear hK K
                try simp only [Act.put, List.setIfInBounds_toArray, List.set_cons_zero, List.set_cons_succ]
                refine wpAnyH_take (i := 5) (oi := ⟨some 53, _, _, _, _, _⟩) (v := ?v19) rfl (by kernel_rfl) (by kernel_rfl) (by kernel_rfl) (fun _ _ _ h => h) (Or.inl ⟨by kernel_rfl, ?h19⟩) hHeld ?_
                case h19 => intro w hSw; (try dsimp only at hSw); go_simp; try with_reducible rfl
                try simp only [Act.put, List.setIfInBounds_toArray, List.set_cons_zero, List.set_cons_succ]
                refine wpAnyH_take (i := 6) (oi := ⟨some 59, _, _, _, _, _⟩) (v := ?v20) rfl (by kernel_rfl) (by kernel_rfl) (by kernel_rfl) (fun _ _ _ h => h) (Or.inl ⟨by kernel_rfl, ?h20⟩) hHeld ?_
                case h20 => intro w hSw; (try dsimp only at hSw); go_simp; try with_reducible rfl
                try simp only [Act.put, List.setIfInBounds_toArray, List.set_cons_zero, List.set_cons_succ]
                refine wpAnyH_take (i := 7) (oi := ⟨some 60, _, _, _, _, _⟩) (v := ?v21) rfl (by kernel_rfl) (by kernel_rfl) (by kernel_rfl) (fun _ _ _ h => h) (Or.inl ⟨by kernel_rfl, ?h21⟩) hHeld ?_
                case h21 => intro w hSw; (try dsimp only at hSw); go_simp; try with_reducible rfl
                try simp only [Act.put, List.setIfInBounds_toArray, List.set_cons_zero, List.set_cons_succ]
                refine wpAnyH_ready (rs := [8]) (by kernel_rfl) (by simp) ?_
                refine AllReadyH.cons (o := ⟨some 11, _, _, _, _, _⟩) rfl (fun K hK => ?_) AllReadyH.nil
                rw [if_pos (by kernel_rfl)]
                go_simp
                obtain ⟨wA, hwA⟩ : ∃ x, x = wS.alloc (.cells #[.bool false, .slice none 0 0, .int .i64 0, .int .i64 0, .int .u64 0, .int .u64 0, .nilFunc] 87) := ⟨_, rfl⟩
                rw [← hwA]
                have hA0 : Same wS wA := by rw [hwA]; exact Sep.alloc _ _ _
                have obA : wA.heap[wS.heap.size]? = some (.cells #[.bool false, .slice none 0 0, .int .i64 0, .int .i64 0, .int .u64 0, .int .u64 0, .nilFunc] 87) := by rw [hwA]; exact heap_alloc_new _ _
                obtain ⟨b11, hb11⟩ : ∃ b, b = wS.heap.size := ⟨_, rfl⟩
                have hA : In lo hi wr wA := hS.trans (Same.sep hA0 _)
                have g11 : wr.heap.size ≤ b11 := by have := hS.size; omega
                have g11S : wS.heap.size ≤ b11 := by omega
                rw [← hb11] at obA ⊢
                clear hwA hb11
                refine hK.out _ _ ?_ (fun hHeld => ?_)
                · exact ⟨Sep.cell hA c9_0 n9, Sep.cell hA c9_1 n9, Sep.cell hA c9_2 n9, Sep.cell hA c9_3 n9, Sep.cell hA c9_4 n9, Sep.cell hA c9_5 n9, Sep.cell hA c9_6 n9⟩
                clear hK K
                try simp only [Act.put, List.setIfInBounds_toArray, List.set_cons_zero, List.set_cons_succ]
                refine wpAnyH_ready (rs := [9]) (by kernel_rfl) (by simp) ?_
                refine AllReadyH.cons (o := ⟨none, _, _, _, _, _⟩) rfl (fun K hK => ?_) AllReadyH.nil
                obtain ⟨t0, t1, t2, t3, t4, t5, t6, tf⟩ := cells7 obA
                rw [if_pos (by kernel_rfl)]
                go_simp
                obtain ⟨wT, hwT⟩ : ∃ x, x = (((((((wA.setCell ⟨b11, 0, none⟩ (.bool false)).setCell ⟨b11, 1, none⟩ (.slice none 0 0)).setCell ⟨b11, 2, none⟩ (.int .i64 A.op)).setCell ⟨b11, 3, none⟩ (.int .i64 A.at_)).setCell ⟨b11, 4, none⟩ (.int .u64 A.x)).setCell ⟨b11, 5, none⟩ (.int .u64 A.y)).setCell ⟨b11, 6, none⟩ (.func (.func 93) #[] #[.pointer (some ⟨lb, 0, none⟩), .pointer (some ⟨tb, 0, none⟩)])) := ⟨_, rfl⟩
                rw [← hwT]
                have h7 : Sep (fun k => k = b11) wA wT := by rw [hwT]; exact sep7 wA b11 (.bool false) (.slice none 0 0) (.int .i64 A.op) (.int .i64 A.at_) (.int .u64 A.x) (.int .u64 A.y) (.func (.func 93) #[] #[.pointer (some ⟨lb, 0, none⟩), .pointer (some ⟨tb, 0, none⟩)])
                have obT : wT.heap[b11]? = some (.cells #[.bool false, .slice none 0 0, .int .i64 A.op, .int .i64 A.at_, .int .u64 A.x, .int .u64 A.y, .func (.func 93) #[] #[.pointer (some ⟨lb, 0, none⟩), .pointer (some ⟨tb, 0, none⟩)]] 87) := by rw [hwT]; exact heap7 obA rfl
                have h911 : ¬ b9 = b11 := by have := lt_of_block hpo; omega
                clear hwT
                refine hK.out _ _ ?_ (fun hHeld => ?_)
                · exact ⟨h7.cell (Sep.cell hA c9_0 n9) h911, h7.cell (Sep.cell hA c9_1 n9) h911, h7.cell (Sep.cell hA c9_2 n9) h911, h7.cell (Sep.cell hA c9_3 n9) h911, h7.cell (Sep.cell hA c9_4 n9) h911, h7.cell (Sep.cell hA c9_5 n9) h911, h7.cell (Sep.cell hA c9_6 n9) h911⟩
                clear hK K
                try simp only [Act.put, List.setIfInBounds_toArray, List.set_cons_zero, List.set_cons_succ]
                refine wpAnyH_take (i := 10) (oi := ⟨some 12, _, _, _, _, _⟩) (v := ?v22) rfl (by kernel_rfl) (by kernel_rfl) (by kernel_rfl) (fun _ _ _ h => h) (Or.inl ⟨by kernel_rfl, ?h22⟩) hHeld ?_
                case h22 => intro w hSw; (try dsimp only at hSw); go_simp; try with_reducible rfl
                try simp only [Act.put, List.setIfInBounds_toArray, List.set_cons_zero, List.set_cons_succ]
                refine wpAnyH_done (by kernel_rfl) ?_ _
                have hT : Same wr wT := same_then (hS0.trans hA0) g11 h7
                clear hHeld c9_0 c9_1 c9_2 c9_3 c9_4 c9_5 c9_6
                go_wp2
                go_meet
                exact Half.go hT hpo hlp HTL.out HLN.out HONE.out hm hmq hin R1.out R2.out R3.out
              refine AllReadyH.cons (o := ⟨some 11, _, _, _, _, _⟩) rfl (fun K hK => ?_) AllReadyH.nil
              ·
                rw [if_pos (by kernel_rfl)]
                go_simp
                obtain ⟨wA, hwA⟩ : ∃ x, x = wC.alloc (.cells #[.bool false, .slice none 0 0, .int .i64 0, .int .i64 0, .int .u64 0, .int .u64 0, .nilFunc] 87) := ⟨_, rfl⟩
                rw [← hwA]
                have hA0 : Same wC wA := by rw [hwA]; exact Sep.alloc _ _ _
                have obA : wA.heap[wC.heap.size]? = some (.cells #[.bool false, .slice none 0 0, .int .i64 0, .int .i64 0, .int .u64 0, .int .u64 0, .nilFunc] 87) := by rw [hwA]; exact heap_alloc_new _ _
                obtain ⟨b11, hb11⟩ : ∃ b, b = wC.heap.size := ⟨_, rfl⟩
                have hA : Same wr wA := Sep.trans (hC) hA0
                have g11 : wr.heap.size ≤ b11 := by have := Sep.size (hC); omega
                rw [← hb11] at obA ⊢
                clear hwA hb11
                refine hK.out _ _ ?_ (fun hHeld => ?_)
                · exact ⟨Same.cell hA c9_0, Same.cell hA c9_1, Same.cell hA c9_2, Same.cell hA c9_3, Same.cell hA c9_4, Same.cell hA c9_5, Same.cell hA c9_6⟩
                clear hK K
                try simp only [Act.put, List.setIfInBounds_toArray, List.set_cons_zero, List.set_cons_succ]
                refine wpAnyH_ready (rs := [4]) (by kernel_rfl) (by simp) ?_
                refine AllReadyH.cons (o := ⟨some 58, _, _, _, _, _⟩) rfl (fun K hK => ?_) AllReadyH.nil
                rw [if_pos (by kernel_rfl)]
                go_simp
                refine (step_no (hm.same (hA)) (hlp.same (hA)) 0 1 HOK.out).mono ?_
                rintro e wS ⟨rfl, hsS⟩
                have hS : In lo hi wr wS := (Same.sep (hA) _).trans (Same.sep hsS _)
                have n11 : ¬ (lo ≤ b11 ∧ b11 < hi) := by have := hm.le; omega
                have obS := Sep.obj (Same.sep hsS (fun k => lo ≤ k ∧ k < hi)) obA n11
                have hS0 : Same wr wS := Sep.trans (hA) hsS
                refine hK.out _ _ ?_ (fun hHeld => ?_)
                · exact ⟨Sep.cell hS c9_0 n9, Sep.cell hS c9_1 n9, Sep.cell hS c9_2 n9, Sep.cell hS c9_3 n9, Sep.cell hS c9_4 n9, Sep.cell hS c9_5 n9, Sep.cell hS c9_6 n9⟩
                clear hK K
                try simp only [Act.put, List.setIfInBounds_toArray, List.set_cons_zero, List.set_cons_succ]
                refine wpAnyH_take (i := 5) (oi := ⟨some 53, _, _, _, _, _⟩) (v := ?v23) rfl (by kernel_rfl) (by kernel_rfl) (by kernel_rfl) (fun _ _ _ h => h) (Or.inl ⟨by kernel_rfl, ?h23⟩) hHeld ?_
                case h23 => intro w hSw; (try dsimp only at hSw); go_simp; try with_reducible rfl
                try simp only [Act.put, List.setIfInBounds_toArray, List.set_cons_zero, List.set_cons_succ]
                refine wpAnyH_take (i := 6) (oi := ⟨some 59, _, _, _, _, _⟩) (v := ?v24) rfl (by kernel_rfl) (by kernel_rfl) (by kernel_rfl) (fun _ _ _ h => h) (Or.inl ⟨by kernel_rfl, ?h24⟩) hHeld ?_
                case h24 => intro w hSw; (try dsimp only at hSw); go_simp; try with_reducible rfl
                try simp only [Act.put, List.setIfInBounds_toArray, List.set_cons_zero, List.set_cons_succ]
                refine wpAnyH_take (i := 7) (oi := ⟨some 60, _, _, _, _, _⟩) (v := ?v25) rfl (by kernel_rfl) (by kernel_rfl) (by kernel_rfl) (fun _ _ _ h => h) (Or.inl ⟨by kernel_rfl, ?h25⟩) hHeld ?_
                case h25 => intro w hSw; (try dsimp only at hSw); go_simp; try with_reducible rfl
                try simp only [Act.put, List.setIfInBounds_toArray, List.set_cons_zero, List.set_cons_succ]
                refine wpAnyH_ready (rs := [9]) (by kernel_rfl) (by simp) ?_
                refine AllReadyH.cons (o := ⟨none, _, _, _, _, _⟩) rfl (fun K hK => ?_) AllReadyH.nil
                obtain ⟨t0, t1, t2, t3, t4, t5, t6, tf⟩ := cells7 obS
                rw [if_pos (by kernel_rfl)]
                go_simp
                obtain ⟨wT, hwT⟩ : ∃ x, x = (((((((wS.setCell ⟨b11, 0, none⟩ (.bool false)).setCell ⟨b11, 1, none⟩ (.slice none 0 0)).setCell ⟨b11, 2, none⟩ (.int .i64 A.op)).setCell ⟨b11, 3, none⟩ (.int .i64 A.at_)).setCell ⟨b11, 4, none⟩ (.int .u64 A.x)).setCell ⟨b11, 5, none⟩ (.int .u64 A.y)).setCell ⟨b11, 6, none⟩ (.func (.func 93) #[] #[.pointer (some ⟨lb, 0, none⟩), .pointer (some ⟨tb, 0, none⟩)])) := ⟨_, rfl⟩
                rw [← hwT]
                have h7 : Sep (fun k => k = b11) wS wT := by rw [hwT]; exact sep7 wS b11 (.bool false) (.slice none 0 0) (.int .i64 A.op) (.int .i64 A.at_) (.int .u64 A.x) (.int .u64 A.y) (.func (.func 93) #[] #[.pointer (some ⟨lb, 0, none⟩), .pointer (some ⟨tb, 0, none⟩)])
                have obT : wT.heap[b11]? = some (.cells #[.bool false, .slice none 0 0, .int .i64 A.op, .int .i64 A.at_, .int .u64 A.x, .int .u64 A.y, .func (.func 93) #[] #[.pointer (some ⟨lb, 0, none⟩), .pointer (some ⟨tb, 0, none⟩)]] 87) := by rw [hwT]; exact heap7 obS rfl
                have h911 : ¬ b9 = b11 := by have := lt_of_block hpo; omega
                clear hwT
                refine hK.out _ _ ?_ (fun hHeld => ?_)
                · exact ⟨h7.cell (Sep.cell hS c9_0 n9) h911, h7.cell (Sep.cell hS c9_1 n9) h911, h7.cell (Sep.cell hS c9_2 n9) h911, h7.cell (Sep.cell hS c9_3 n9) h911, h7.cell (Sep.cell hS c9_4 n9) h911, h7.cell (Sep.cell hS c9_5 n9) h911, h7.cell (Sep.cell hS c9_6 n9) h911⟩
                clear hK K
                try simp only [Act.put, List.setIfInBounds_toArray, List.set_cons_zero, List.set_cons_succ]
                refine wpAnyH_take (i := 10) (oi := ⟨some 12, _, _, _, _, _⟩) (v := ?v26) rfl (by kernel_rfl) (by kernel_rfl) (by kernel_rfl) (fun _ _ _ h => h) (Or.inl ⟨by kernel_rfl, ?h26⟩) hHeld ?_
                case h26 => intro w hSw; (try dsimp only at hSw); go_simp; try with_reducible rfl
                try simp only [Act.put, List.setIfInBounds_toArray, List.set_cons_zero, List.set_cons_succ]
                refine wpAnyH_done (by kernel_rfl) ?_ _
                have hT : Same wr wT := same_then hS0 g11 h7
                clear hHeld c9_0 c9_1 c9_2 c9_3 c9_4 c9_5 c9_6
                go_wp2
                go_meet
                exact Half.go hT hpo hlp HTL.out HLN.out HONE.out hm hmq hin R1.out R2.out R3.out
            refine AllReadyH.cons (o := ⟨some 11, _, _, _, _, _⟩) rfl (fun K hK => ?_) AllReadyH.nil
            ·
              rw [if_pos (by kernel_rfl)]
              go_simp
              obtain ⟨wA, hwA⟩ : ∃ x, x = (wr.alloc (.cells #[.bool false, .slice none 0 0, .int .i64 0, .int .i64 0, .int .u64 0, .int .u64 0, .nilFunc] 87)).drew := ⟨_, rfl⟩
              rw [← hwA]
              have hA : Same wr wA := by rw [hwA]; exact Sep.trans (Sep.alloc _ wr _) (Sep.drew _ _)
              have obA : wA.heap[wr.heap.size]? = some (.cells #[.bool false, .slice none 0 0, .int .i64 0, .int .i64 0, .int .u64 0, .int .u64 0, .nilFunc] 87) := by rw [hwA]; exact heap_alloc_new wr _
              obtain ⟨b11, hb11⟩ : ∃ b, b = wr.heap.size := ⟨_, rfl⟩
              have g11 : wr.heap.size ≤ b11 := by omega
              rw [← hb11] at obA ⊢
              clear hwA hb11
              refine hK.out _ _ ?_ (fun hHeld => ?_)
              · exact ⟨Same.cell hA c9_0, Same.cell hA c9_1, Same.cell hA c9_2, Same.cell hA c9_3, Same.cell hA c9_4, Same.cell hA c9_5, Same.cell hA c9_6⟩
              clear hK K
              try simp only [Act.put, List.setIfInBounds_toArray, List.set_cons_zero, List.set_cons_succ]
              refine wpAnyH_ready (rs := [3]) (by kernel_rfl) (by simp) ?_
              refine AllReadyH.cons (o := ⟨some 57, _, _, _, _, _⟩) rfl (fun K hK => ?_) AllReadyH.nil
              rw [if_pos (by kernel_rfl)]
              go_simp
              refine (cap_any (hm.stay (Same.sep (hA) (fun _ => False)) (fun _ _ _ x => x)) 0).mono ?_
              rintro e wC ⟨rfl, hsC⟩
              rw [HONE.out.cap]
              have hC : Same wr wC := Sep.trans (hA) hsC
              refine hK.out _ _ ?_ (fun hHeld => ?_)
              · exact ⟨Same.cell hC c9_0, Same.cell hC c9_1, Same.cell hC c9_2, Same.cell hC c9_3, Same.cell hC c9_4, Same.cell hC c9_5, Same.cell hC c9_6⟩
              clear hK K
              try simp only [Act.put, List.setIfInBounds_toArray, List.set_cons_zero, List.set_cons_succ]
              refine wpAnyH_ready (rs := [4]) (by kernel_rfl) (by simp) ?_
              refine AllReadyH.cons (o := ⟨some 58, _, _, _, _, _⟩) rfl (fun K hK => ?_) AllReadyH.nil
              rw [if_pos (by kernel_rfl)]
              go_simp
              have hC_b11 := Same.obj hsC obA
              refine (step_no (hm.same (hC)) (hlp.same (hC)) 0 1 HOK.out).mono ?_
              rintro e wS ⟨rfl, hsS⟩
              have hS : In lo hi wr wS := (Same.sep (hC) _).trans (Same.sep hsS _)
              have n11 : ¬ (lo ≤ b11 ∧ b11 < hi) := by have := hm.le; omega
              have obS := Sep.obj (Same.sep hsS (fun k => lo ≤ k ∧ k < hi)) hC_b11 n11
              have hS0 : Same wr wS := Sep.trans (hC) hsS
              refine hK.out _ _ ?_ (fun hHeld => ?_)
              · exact ⟨Sep.cell hS c9_0 n9, Sep.cell hS c9_1 n9, Sep.cell hS c9_2 n9, Sep.cell hS c9_3 n9, Sep.cell hS c9_4 n9, Sep.cell hS c9_5 n9, Sep.cell hS c9_6 n9⟩
              clear hK K
              try simp only [Act.put, List.setIfInBounds_toArray, List.set_cons_zero, List.set_cons_succ]
              refine wpAnyH_take (i := 5) (oi := ⟨some 53, _, _, _, _, _⟩) (v := ?v27) rfl (by kernel_rfl) (by kernel_rfl) (by kernel_rfl) (fun _ _ _ h => h) (Or.inl ⟨by kernel_rfl, ?h27⟩) hHeld ?_
              case h27 => intro w hSw; (try dsimp only at hSw); go_simp; try with_reducible rfl
              try simp only [Act.put, List.setIfInBounds_toArray, List.set_cons_zero, List.set_cons_succ]
              refine wpAnyH_take (i := 6) (oi := ⟨some 59, _, _, _, _, _⟩) (v := ?v28) rfl (by kernel_rfl) (by kernel_rfl) (by kernel_rfl) (fun _ _ _ h => h) (Or.inl ⟨by kernel_rfl, ?h28⟩) hHeld ?_
              case h28 => intro w hSw; (try dsimp only at hSw); go_simp; try with_reducible rfl
              try simp only [Act.put, List.setIfInBounds_toArray, List.set_cons_zero, List.set_cons_succ]
              refine wpAnyH_take (i := 7) (oi := ⟨some 60, _, _, _, _, _⟩) (v := ?v29) rfl (by kernel_rfl) (by kernel_rfl) (by kernel_rfl) (fun _ _ _ h => h) (Or.inl ⟨by kernel_rfl, ?h29⟩) hHeld ?_
              case h29 => intro w hSw; (try dsimp only at hSw); go_simp; try with_reducible rfl
              try simp only [Act.put, List.setIfInBounds_toArray, List.set_cons_zero, List.set_cons_succ]
              refine wpAnyH_ready (rs := [9]) (by kernel_rfl) (by simp) ?_
              refine AllReadyH.cons (o := ⟨none, _, _, _, _, _⟩) rfl (fun K hK => ?_) AllReadyH.nil
              obtain ⟨t0, t1, t2, t3, t4, t5, t6, tf⟩ := cells7 obS
              rw [if_pos (by kernel_rfl)]
              go_simp
              obtain ⟨wT, hwT⟩ : ∃ x, x = (((((((wS.setCell ⟨b11, 0, none⟩ (.bool false)).setCell ⟨b11, 1, none⟩ (.slice none 0 0)).setCell ⟨b11, 2, none⟩ (.int .i64 A.op)).setCell ⟨b11, 3, none⟩ (.int .i64 A.at_)).setCell ⟨b11, 4, none⟩ (.int .u64 A.x)).setCell ⟨b11, 5, none⟩ (.int .u64 A.y)).setCell ⟨b11, 6, none⟩ (.func (.func 93) #[] #[.pointer (some ⟨lb, 0, none⟩), .pointer (some ⟨tb, 0, none⟩)])) := ⟨_, rfl⟩
              rw [← hwT]
              have h7 : Sep (fun k => k = b11) wS wT := by rw [hwT]; exact sep7 wS b11 (.bool false) (.slice none 0 0) (.int .i64 A.op) (.int .i64 A.at_) (.int .u64 A.x) (.int .u64 A.y) (.func (.func 93) #[] #[.pointer (some ⟨lb, 0, none⟩), .pointer (some ⟨tb, 0, none⟩)])
              have obT : wT.heap[b11]? = some (.cells #[.bool false, .slice none 0 0, .int .i64 A.op, .int .i64 A.at_, .int .u64 A.x, .int .u64 A.y, .func (.func 93) #[] #[.pointer (some ⟨lb, 0, none⟩), .pointer (some ⟨tb, 0, none⟩)]] 87) := by rw [hwT]; exact heap7 obS rfl
              have h911 : ¬ b9 = b11 := by have := lt_of_block hpo; omega
              clear hwT
              refine hK.out _ _ ?_ (fun hHeld => ?_)
              · exact ⟨h7.cell (Sep.cell hS c9_0 n9) h911, h7.cell (Sep.cell hS c9_1 n9) h911, h7.cell (Sep.cell hS c9_2 n9) h911, h7.cell (Sep.cell hS c9_3 n9) h911, h7.cell (Sep.cell hS c9_4 n9) h911, h7.cell (Sep.cell hS c9_5 n9) h911, h7.cell (Sep.cell hS c9_6 n9) h911⟩
              clear hK K
              try simp only [Act.put, List.setIfInBounds_toArray, List.set_cons_zero, List.set_cons_succ]
              refine wpAnyH_take (i := 10) (oi := ⟨some 12, _, _, _, _, _⟩) (v := ?v30) rfl (by kernel_rfl) (by kernel_rfl) (by kernel_rfl) (fun _ _ _ h => h) (Or.inl ⟨by kernel_rfl, ?h30⟩) hHeld ?_
              case h30 => intro w hSw; (try dsimp only at hSw); go_simp; try with_reducible rfl
              try simp only [Act.put, List.setIfInBounds_toArray, List.set_cons_zero, List.set_cons_succ]
              refine wpAnyH_done (by kernel_rfl) ?_ _
              have hT : Same wr wT := same_then hS0 g11 h7
              clear hHeld c9_0 c9_1 c9_2 c9_3 c9_4 c9_5 c9_6
              go_wp2
              go_meet
              exact Half.go hT hpo hlp HTL.out HLN.out HONE.out hm hmq hin R1.out R2.out R3.out
          | true =>
            have HOK := Lib.hid hok
            clear hok
            go_wp2
            refine wp_region_held_drew (S := (fun v => v.cell? ⟨b9, 0, none⟩ = some (.bool false) ∧ v.cell? ⟨b9, 1, none⟩ = some (.slice none 0 0) ∧ v.cell? ⟨b9, 2, none⟩ = some (.int .i64 A.op) ∧ v.cell? ⟨b9, 3, none⟩ = some (.int .i64 A.at_) ∧ v.cell? ⟨b9, 4, none⟩ = some (.int .u64 A.x) ∧ v.cell? ⟨b9, 5, none⟩ = some (.int .u64 A.y) ∧ v.cell? ⟨b9, 6, none⟩ = some (.func (.func 93) #[] #[.pointer (some ⟨lb, 0, none⟩), .pointer (some ⟨tb, 0, none⟩)]))) (by kernel_rfl) ?_ (fun hHeld => ?_)
            · exact ⟨(Sep.drew (fun _ => False) wr).cell c9_0 (fun x => x), (Sep.drew (fun _ => False) wr).cell c9_1 (fun x => x), (Sep.drew (fun _ => False) wr).cell c9_2 (fun x => x), (Sep.drew (fun _ => False) wr).cell c9_3 (fun x => x), (Sep.drew (fun _ => False) wr).cell c9_4 (fun x => x), (Sep.drew (fun _ => False) wr).cell c9_5 (fun x => x), (Sep.drew (fun _ => False) wr).cell c9_6 (fun x => x)⟩
            change wpAnyH _ _ _ _ _ 11 _ _ _
            refine wpAnyH_take (i := 0) (oi := ⟨some 54, _, _, _, _, _⟩) (v := ?v43) rfl (by kernel_rfl) (by kernel_rfl) (by kernel_rfl) (fun _ _ _ h => h) (Or.inl ⟨by kernel_rfl, ?h43⟩) hHeld ?_
            case h43 => intro w hSw; (try dsimp only at hSw); go_simp; try with_reducible rfl
            try simp only [Act.put, List.setIfInBounds_toArray, List.set_cons_zero, List.set_cons_succ]
            refine wpAnyH_take (i := 1) (oi := ⟨some 55, _, _, _, _, _⟩) (v := ?v44) rfl (by kernel_rfl) (by kernel_rfl) (by kernel_rfl) (fun _ _ _ h => h) (Or.inl ⟨by kernel_rfl, ?h44⟩) hHeld ?_
            case h44 => intro w hSw; (try dsimp only at hSw); go_simp; try with_reducible rfl
            try simp only [Act.put, List.setIfInBounds_toArray, List.set_cons_zero, List.set_cons_succ]
            refine wpAnyH_take (i := 2) (oi := ⟨some 56, _, _, _, _, _⟩) (v := ?v45) rfl (by kernel_rfl) (by kernel_rfl) (by kernel_rfl) (fun _ _ _ h => h) (Or.inl ⟨by kernel_rfl, ?h45⟩) hHeld ?_
            case h45 => intro w hSw; (try dsimp only at hSw); go_simp; try with_reducible rfl
            try simp only [Act.put, List.setIfInBounds_toArray, List.set_cons_zero, List.set_cons_succ]
            refine wpAnyH_ready (rs := [3, 8]) (by kernel_rfl) (by simp) ?_
            refine AllReadyH.cons (o := ⟨some 57, _, _, _, _, _⟩) rfl (fun K hK => ?_) ?_
            ·
              rw [if_pos (by kernel_rfl)]
              go_simp
              refine (cap_any (hm.stay (Same.sep (Sep.drew _ wr) (fun _ => False)) (fun _ _ _ x => x)) 0).mono ?_
              rintro e wC ⟨rfl, hsC⟩
              rw [HONE.out.cap]
              have hC : Same wr wC := Sep.trans (Sep.drew _ wr) hsC
              refine hK.out _ _ ?_ (fun hHeld => ?_)
              · exact ⟨Same.cell hC c9_0, Same.cell hC c9_1, Same.cell hC c9_2, Same.cell hC c9_3, Same.cell hC c9_4, Same.cell hC c9_5, Same.cell hC c9_6⟩
              clear hK K
              try simp only [Act.put, List.setIfInBounds_toArray, List.set_cons_zero, List.set_cons_succ]
              refine wpAnyH_ready (rs := [4, 8]) (by kernel_rfl) (by simp) ?_
              refine AllReadyH.cons (o := ⟨some 58, _, _, _, _, _⟩) rfl (fun K hK => ?_) ?_
              ·
                rw [if_pos (by kernel_rfl)]
                go_simp
                refine (step_yes (F := fun b => hq ≤ b ∧ b ≠ b9) (hm.same (hC)) ((hlp.imp2 (fun b hb hlt => ⟨hb.1, hb.2⟩)).same (hC)) 0 1 HOK.out (by have := HLN.out; omega) (by have := HTL.out; have := HLN.out; omega) (fun b hb => by have := (hmq.same (hC)).le; have := Sep.size (hC); have := lt_of_block hpo; omega) (fun b hb => by omega)).mono ?_
                rintro e wS ⟨vS, rfl, hlpS, hmS, hsS⟩
                obtain ⟨was, hwas⟩ : ∃ was, was = peekOf L 0 A.at_ := ⟨_, rfl⟩
                obtain ⟨L', hL'⟩ : ∃ L', L' = doL L (Int.toNat 0) A.at_.toNat A.op A.x A.y := ⟨_, rfl⟩
                obtain ⟨r1S, r2S, r3S⟩ := half_step HOK.out (by have := HLN.out; simp at this; omega) R1.out R2.out R3.out
                have honeS : Hid (OneUp L') := by rw [hL']; exact HONE.out.doL _ _ _ _ _
                rw [← hwas] at hlpS r2S
                rw [← hL'] at hmS r1S r2S r3S
                have RS1 := Lib.hid r1S
                have RS2 := Lib.hid r2S
                have RS3 := Lib.hid r3S
                clear hwas hL' r1S r2S r3S
                obtain ⟨o9, ra9, rn9, rc9, op9, at9, x9, y9, nx9, rfl, hst9⟩ := hlpS.one
                have hS : In lo hi wr wS := (Same.sep (hC) _).trans hsS
                refine hK.out _ _ ?_ (fun hHeld => ?_)
                · exact ⟨Sep.cell hS c9_0 n9, Sep.cell hS c9_1 n9, Sep.cell hS c9_2 n9, Sep.cell hS c9_3 n9, Sep.cell hS c9_4 n9, Sep.cell hS c9_5 n9, Sep.cell hS c9_6 n9⟩
                clear hK K
                try simp only [Act.put, List.setIfInBounds_toArray, List.set_cons_zero, List.set_cons_succ]
                refine wpAnyH_take (i := 5) (oi := ⟨some 53, _, _, _, _, _⟩) (v := ?v46) rfl (by kernel_rfl) (by kernel_rfl) (by kernel_rfl) (fun _ _ _ h => h) (Or.inl ⟨by kernel_rfl, ?h46⟩) hHeld ?_
                case h46 => intro w hSw; (try dsimp only at hSw); go_simp; try with_reducible rfl
                try simp only [Act.put, List.setIfInBounds_toArray, List.set_cons_zero, List.set_cons_succ]
                refine wpAnyH_take (i := 6) (oi := ⟨some 59, _, _, _, _, _⟩) (v := ?v47) rfl (by kernel_rfl) (by kernel_rfl) (by kernel_rfl) (fun _ _ _ h => h) (Or.inl ⟨by kernel_rfl, ?h47⟩) hHeld ?_
                case h47 => intro w hSw; (try dsimp only at hSw); go_simp; try with_reducible rfl
                try simp only [Act.put, List.setIfInBounds_toArray, List.set_cons_zero, List.set_cons_succ]
                refine wpAnyH_take (i := 7) (oi := ⟨some 60, _, _, _, _, _⟩) (v := ?v48) rfl (by kernel_rfl) (by kernel_rfl) (by kernel_rfl) (fun _ _ _ h => h) (Or.inl ⟨by kernel_rfl, ?h48⟩) hHeld ?_
                case h48 => intro w hSw; (try dsimp only at hSw); go_simp; try with_reducible rfl
                try simp only [Act.put, List.setIfInBounds_toArray, List.set_cons_zero, List.set_cons_succ]
                refine wpAnyH_ready (rs := [8]) (by kernel_rfl) (by simp) ?_
                refine AllReadyH.cons (o := ⟨some 11, _, _, _, _, _⟩) rfl (fun K hK => ?_) AllReadyH.nil
                rw [if_pos (by kernel_rfl)]
                go_simp
                obtain ⟨wA, hwA⟩ : ∃ x, x = wS.alloc (.cells #[.bool false, .slice none 0 0, .int .i64 0, .int .i64 0, .int .u64 0, .int .u64 0, .nilFunc] 87) := ⟨_, rfl⟩
                rw [← hwA]
                have hA0 : Same wS wA := by rw [hwA]; exact Sep.alloc _ _ _
                have obA : wA.heap[wS.heap.size]? = some (.cells #[.bool false, .slice none 0 0, .int .i64 0, .int .i64 0, .int .u64 0, .int .u64 0, .nilFunc] 87) := by rw [hwA]; exact heap_alloc_new _ _
                obtain ⟨b11, hb11⟩ : ∃ b, b = wS.heap.size := ⟨_, rfl⟩
                have hA : In lo hi wr wA := hS.trans (Same.sep hA0 _)
                have g11 : wr.heap.size ≤ b11 := by have := hS.size; omega
                have g11S : wS.heap.size ≤ b11 := by omega
                rw [← hb11] at obA ⊢
                clear hwA hb11
                refine hK.out _ _ ?_ (fun hHeld => ?_)
                · exact ⟨Sep.cell hA c9_0 n9, Sep.cell hA c9_1 n9, Sep.cell hA c9_2 n9, Sep.cell hA c9_3 n9, Sep.cell hA c9_4 n9, Sep.cell hA c9_5 n9, Sep.cell hA c9_6 n9⟩
                clear hK K
                try simp only [Act.put, List.setIfInBounds_toArray, List.set_cons_zero, List.set_cons_succ]
                refine wpAnyH_ready (rs := [9]) (by kernel_rfl) (by simp) ?_
                refine AllReadyH.cons (o := ⟨none, _, _, _, _, _⟩) rfl (fun K hK => ?_) AllReadyH.nil
                obtain ⟨t0, t1, t2, t3, t4, t5, t6, tf⟩ := cells7 obA
                rw [if_pos (by kernel_rfl)]
                go_simp
                obtain ⟨wT, hwT⟩ : ∃ x, x = (((((((wA.setCell ⟨b11, 0, none⟩ (.bool o9)).setCell ⟨b11, 1, none⟩ (.slice ra9 rn9 rc9)).setCell ⟨b11, 2, none⟩ (.int .i64 op9)).setCell ⟨b11, 3, none⟩ (.int .i64 at9)).setCell ⟨b11, 4, none⟩ (.int .u64 x9)).setCell ⟨b11, 5, none⟩ (.int .u64 y9)).setCell ⟨b11, 6, none⟩ (nx9)) := ⟨_, rfl⟩
                rw [← hwT]
                have h7 : Sep (fun k => k = b11) wA wT := by rw [hwT]; exact sep7 wA b11 (.bool o9) (.slice ra9 rn9 rc9) (.int .i64 op9) (.int .i64 at9) (.int .u64 x9) (.int .u64 y9) (nx9)
                have obT : wT.heap[b11]? = some (.cells #[.bool o9, .slice ra9 rn9 rc9, .int .i64 op9, .int .i64 at9, .int .u64 x9, .int .u64 y9, nx9] 87) := by rw [hwT]; exact heap7 obA rfl
                have h911 : ¬ b9 = b11 := by have := lt_of_block hpo; omega
                clear hwT
                refine hK.out _ _ ?_ (fun hHeld => ?_)
                · exact ⟨h7.cell (Sep.cell hA c9_0 n9) h911, h7.cell (Sep.cell hA c9_1 n9) h911, h7.cell (Sep.cell hA c9_2 n9) h911, h7.cell (Sep.cell hA c9_3 n9) h911, h7.cell (Sep.cell hA c9_4 n9) h911, h7.cell (Sep.cell hA c9_5 n9) h911, h7.cell (Sep.cell hA c9_6 n9) h911⟩
                clear hK K
                try simp only [Act.put, List.setIfInBounds_toArray, List.set_cons_zero, List.set_cons_succ]
                refine wpAnyH_take (i := 10) (oi := ⟨some 12, _, _, _, _, _⟩) (v := ?v49) rfl (by kernel_rfl) (by kernel_rfl) (by kernel_rfl) (fun _ _ _ h => h) (Or.inl ⟨by kernel_rfl, ?h49⟩) hHeld ?_
                case h49 => intro w hSw; (try dsimp only at hSw); go_simp; try with_reducible rfl
                try simp only [Act.put, List.setIfInBounds_toArray, List.set_cons_zero, List.set_cons_succ]
                refine wpAnyH_done (by kernel_rfl) ?_ _
                have hin9 : In lo hi w wT := in_then (hin.trans hA) (by have := hin.size; omega) h7
                have l1 := hm.le
                have l2 := hmq.le
                have hlpT : LP (fun b => hq ≤ b ∧ b ≠ b9) wT _ l' (tj ++ [was]) := (((hlpS.imp2 (G := fun b => (hq ≤ b ∧ b ≠ b9) ∧ b ≠ b11) (fun b hb hlt => ⟨hb, by omega⟩)).same hA0).stay h7 (fun b hb _ => hb.2)).imp (fun b hb => hb.1)
                have hmT : Mem lo hi wT p _ (j + 1) := (hmS.same hA0).stay h7 (fun b h1 h2 h3 => by omega)
                have hmqT := (hmq.stay hA (fun b h1 h2 h3 => by omega)).stay h7 (fun b h1 h2 h3 => by omega)
                obtain ⟨e0, e1, e2, e3, e4, e5, e6, ef⟩ := cells7 obT
                have ob9 := h7.obj (Sep.obj hA hpo n9) h911
                obtain ⟨d0, d1, d2, d3, d4, d5, d6, df⟩ := cells7 ob9
                have OB9 := Lib.hid ob9
                have HLPT := Lib.hid hlpT
                have HTLS : Hid ((tj ++ [was]).length = j + 1) := by show (tj ++ [was]).length = j + 1; simp [HTL.out]
                have HLNS : Hid (j + 1 + l'.length ≤ n) := by have := HLN.out; simp at this; show j + 1 + l'.length ≤ n; omega
                clear hHeld c9_0 c9_1 c9_2 c9_3 c9_4 c9_5 c9_6 ob9 hlpT t0 t1 t2 t3 t4 t5 t6 tf hlpS hmS h7 hm hmq hlp
                go_wp2
                go_roundw
                case rel =>
                  have h79 := sep7 wT b9 (.bool o9) (.slice ra9 rn9 rc9) (.int .i64 op9) (.int .i64 at9) (.int .u64 x9) (.int .u64 y9) (nx9)
                  exact ⟨k + 1, by omega, by go_num, j + 1, _, l', tj ++ [was], L', heap7 OB9.out rfl, HLPT.out.stay h79 (fun b hb _ => hb.2), HTLS.out, HLNS.out, honeS.out, hmT.stay h79 (fun b h1 h2 h3 => by omega), hmqT.stay h79 (fun b h1 h2 h3 => by omega), in_then hin9 (by have := lt_of_block obT; omega) h79, RS1.out, RS2.out, RS3.out⟩
                case measure => simp [intOf]; omega
              refine AllReadyH.cons (o := ⟨some 11, _, _, _, _, _⟩) rfl (fun K hK => ?_) AllReadyH.nil
              ·
                rw [if_pos (by kernel_rfl)]
                go_simp
                obtain ⟨wA, hwA⟩ : ∃ x, x = wC.alloc (.cells #[.bool false, .slice none 0 0, .int .i64 0, .int .i64 0, .int .u64 0, .int .u64 0, .nilFunc] 87) := ⟨_, rfl⟩
                rw [← hwA]
                have hA0 : Same wC wA := by rw [hwA]; exact Sep.alloc _ _ _
                have obA : wA.heap[wC.heap.size]? = some (.cells #[.bool false, .slice none 0 0, .int .i64 0, .int .i64 0, .int .u64 0, .int .u64 0, .nilFunc] 87) := by rw [hwA]; exact heap_alloc_new _ _
                obtain ⟨b11, hb11⟩ : ∃ b, b = wC.heap.size := ⟨_, rfl⟩
                have hA : Same wr wA := Sep.trans (hC) hA0
                have g11 : wr.heap.size ≤ b11 := by have := Sep.size (hC); omega
                rw [← hb11] at obA ⊢
                clear hwA hb11
                refine hK.out _ _ ?_ (fun hHeld => ?_)
                · exact ⟨Same.cell hA c9_0, Same.cell hA c9_1, Same.cell hA c9_2, Same.cell hA c9_3, Same.cell hA c9_4, Same.cell hA c9_5, Same.cell hA c9_6⟩
                clear hK K
                try simp only [Act.put, List.setIfInBounds_toArray, List.set_cons_zero, List.set_cons_succ]
                refine wpAnyH_ready (rs := [4]) (by kernel_rfl) (by simp) ?_
                refine AllReadyH.cons (o := ⟨some 58, _, _, _, _, _⟩) rfl (fun K hK => ?_) AllReadyH.nil
                rw [if_pos (by kernel_rfl)]
                go_simp
                refine (step_yes (F := fun b => hq ≤ b ∧ b ≠ b9 ∧ b ≠ b11) (hm.same (hA)) ((hlp.imp2 (fun b hb hlt => ⟨hb.1, hb.2, by omega⟩)).same (hA)) 0 1 HOK.out (by have := HLN.out; omega) (by have := HTL.out; have := HLN.out; omega) (fun b hb => by have := (hmq.same (hA)).le; have := Sep.size (hA); have := lt_of_block hpo; have := lt_of_block obA; omega) (fun b hb => by omega)).mono ?_
                rintro e wS ⟨vS, rfl, hlpS, hmS, hsS⟩
                obtain ⟨was, hwas⟩ : ∃ was, was = peekOf L 0 A.at_ := ⟨_, rfl⟩
                obtain ⟨L', hL'⟩ : ∃ L', L' = doL L (Int.toNat 0) A.at_.toNat A.op A.x A.y := ⟨_, rfl⟩
                obtain ⟨r1S, r2S, r3S⟩ := half_step HOK.out (by have := HLN.out; simp at this; omega) R1.out R2.out R3.out
                have honeS : Hid (OneUp L') := by rw [hL']; exact HONE.out.doL _ _ _ _ _
                rw [← hwas] at hlpS r2S
                rw [← hL'] at hmS r1S r2S r3S
                have RS1 := Lib.hid r1S
                have RS2 := Lib.hid r2S
                have RS3 := Lib.hid r3S
                clear hwas hL' r1S r2S r3S
                obtain ⟨o9, ra9, rn9, rc9, op9, at9, x9, y9, nx9, rfl, hst9⟩ := hlpS.one
                have hS : In lo hi wr wS := (Same.sep (hA) _).trans hsS
                have n11 : ¬ (lo ≤ b11 ∧ b11 < hi) := by have := hm.le; omega
                have obS := Sep.obj (hsS) obA n11
                refine hK.out _ _ ?_ (fun hHeld => ?_)
                · exact ⟨Sep.cell hS c9_0 n9, Sep.cell hS c9_1 n9, Sep.cell hS c9_2 n9, Sep.cell hS c9_3 n9, Sep.cell hS c9_4 n9, Sep.cell hS c9_5 n9, Sep.cell hS c9_6 n9⟩
                clear hK K
                try simp only [Act.put, List.setIfInBounds_toArray, List.set_cons_zero, List.set_cons_succ]
                refine wpAnyH_take (i := 5) (oi := ⟨some 53, _, _, _, _, _⟩) (v := ?v50) rfl (by kernel_rfl) (by kernel_rfl) (by kernel_rfl) (fun _ _ _ h => h) (Or.inl ⟨by kernel_rfl, ?h50⟩) hHeld ?_
                case h50 => intro w hSw; (try dsimp only at hSw); go_simp; try with_reducible rfl
                try simp only [Act.put, List.setIfInBounds_toArray, List.set_cons_zero, List.set_cons_succ]
                refine wpAnyH_take (i := 6) (oi := ⟨some 59, _, _, _, _, _⟩) (v := ?v51) rfl (by kernel_rfl) (by kernel_rfl) (by kernel_rfl) (fun _ _ _ h => h) (Or.inl ⟨by kernel_rfl, ?h51⟩) hHeld ?_
                case h51 => intro w hSw; (try dsimp only at hSw); go_simp; try with_reducible rfl
                try simp only [Act.put, List.setIfInBounds_toArray, List.set_cons_zero, List.set_cons_succ]
                refine wpAnyH_take (i := 7) (oi := ⟨some 60, _, _, _, _, _⟩) (v := ?v52) rfl (by kernel_rfl) (by kernel_rfl) (by kernel_rfl) (fun _ _ _ h => h) (Or.inl ⟨by kernel_rfl, ?h52⟩) hHeld ?_
                case h52 => intro w hSw; (try dsimp only at hSw); go_simp; try with_reducible rfl
                try simp only [Act.put, List.setIfInBounds_toArray, List.set_cons_zero, List.set_cons_succ]
                refine wpAnyH_ready (rs := [9]) (by kernel_rfl) (by simp) ?_
                refine AllReadyH.cons (o := ⟨none, _, _, _, _, _⟩) rfl (fun K hK => ?_) AllReadyH.nil
                obtain ⟨t0, t1, t2, t3, t4, t5, t6, tf⟩ := cells7 obS
                rw [if_pos (by kernel_rfl)]
                go_simp
                obtain ⟨wT, hwT⟩ : ∃ x, x = (((((((wS.setCell ⟨b11, 0, none⟩ (.bool o9)).setCell ⟨b11, 1, none⟩ (.slice ra9 rn9 rc9)).setCell ⟨b11, 2, none⟩ (.int .i64 op9)).setCell ⟨b11, 3, none⟩ (.int .i64 at9)).setCell ⟨b11, 4, none⟩ (.int .u64 x9)).setCell ⟨b11, 5, none⟩ (.int .u64 y9)).setCell ⟨b11, 6, none⟩ (nx9)) := ⟨_, rfl⟩
                rw [← hwT]
                have h7 : Sep (fun k => k = b11) wS wT := by rw [hwT]; exact sep7 wS b11 (.bool o9) (.slice ra9 rn9 rc9) (.int .i64 op9) (.int .i64 at9) (.int .u64 x9) (.int .u64 y9) (nx9)
                have obT : wT.heap[b11]? = some (.cells #[.bool o9, .slice ra9 rn9 rc9, .int .i64 op9, .int .i64 at9, .int .u64 x9, .int .u64 y9, nx9] 87) := by rw [hwT]; exact heap7 obS rfl
                have h911 : ¬ b9 = b11 := by have := lt_of_block hpo; omega
                clear hwT
                refine hK.out _ _ ?_ (fun hHeld => ?_)
                · exact ⟨h7.cell (Sep.cell hS c9_0 n9) h911, h7.cell (Sep.cell hS c9_1 n9) h911, h7.cell (Sep.cell hS c9_2 n9) h911, h7.cell (Sep.cell hS c9_3 n9) h911, h7.cell (Sep.cell hS c9_4 n9) h911, h7.cell (Sep.cell hS c9_5 n9) h911, h7.cell (Sep.cell hS c9_6 n9) h911⟩
                clear hK K
                try simp only [Act.put, List.setIfInBounds_toArray, List.set_cons_zero, List.set_cons_succ]
                refine wpAnyH_take (i := 10) (oi := ⟨some 12, _, _, _, _, _⟩) (v := ?v53) rfl (by kernel_rfl) (by kernel_rfl) (by kernel_rfl) (fun _ _ _ h => h) (Or.inl ⟨by kernel_rfl, ?h53⟩) hHeld ?_
                case h53 => intro w hSw; (try dsimp only at hSw); go_simp; try with_reducible rfl
                try simp only [Act.put, List.setIfInBounds_toArray, List.set_cons_zero, List.set_cons_succ]
                refine wpAnyH_done (by kernel_rfl) ?_ _
                have hin9 : In lo hi w wT := in_then (hin.trans hS) (by have := hin.size; omega) h7
                have l1 := hm.le
                have l2 := hmq.le
                have hlpT : LP (fun b => hq ≤ b ∧ b ≠ b9) wT _ l' (tj ++ [was]) := (hlpS.stay h7 (fun b hb _ => hb.2.2)).imp (fun b hb => ⟨hb.1, hb.2.1⟩)
                have hmT : Mem lo hi wT p _ (j + 1) := hmS.stay h7 (fun b h1 h2 h3 => by omega)
                have hmqT := (hmq.stay hS (fun b h1 h2 h3 => by omega)).stay h7 (fun b h1 h2 h3 => by omega)
                obtain ⟨e0, e1, e2, e3, e4, e5, e6, ef⟩ := cells7 obT
                have ob9 := h7.obj (Sep.obj hS hpo n9) h911
                obtain ⟨d0, d1, d2, d3, d4, d5, d6, df⟩ := cells7 ob9
                have OB9 := Lib.hid ob9
                have HLPT := Lib.hid hlpT
                have HTLS : Hid ((tj ++ [was]).length = j + 1) := by show (tj ++ [was]).length = j + 1; simp [HTL.out]
                have HLNS : Hid (j + 1 + l'.length ≤ n) := by have := HLN.out; simp at this; show j + 1 + l'.length ≤ n; omega
                clear hHeld c9_0 c9_1 c9_2 c9_3 c9_4 c9_5 c9_6 ob9 hlpT t0 t1 t2 t3 t4 t5 t6 tf hlpS hmS h7 hm hmq hlp
                go_wp2
                go_roundw
                case rel =>
                  have h79 := sep7 wT b9 (.bool o9) (.slice ra9 rn9 rc9) (.int .i64 op9) (.int .i64 at9) (.int .u64 x9) (.int .u64 y9) (nx9)
                  exact ⟨k + 1, by omega, by go_num, j + 1, _, l', tj ++ [was], L', heap7 OB9.out rfl, HLPT.out.stay h79 (fun b hb _ => hb.2), HTLS.out, HLNS.out, honeS.out, hmT.stay h79 (fun b h1 h2 h3 => by omega), hmqT.stay h79 (fun b h1 h2 h3 => by omega), in_then hin9 (by have := lt_of_block obT; omega) h79, RS1.out, RS2.out, RS3.out⟩
                case measure => simp [intOf]; omega
            refine AllReadyH.cons (o := ⟨some 11, _, _, _, _, _⟩) rfl (fun K hK => ?_) AllReadyH.nil
            ·
              rw [if_pos (by kernel_rfl)]
              go_simp
              obtain ⟨wA, hwA⟩ : ∃ x, x = (wr.alloc (.cells #[.bool false, .slice none 0 0, .int .i64 0, .int .i64 0, .int .u64 0, .int .u64 0, .nilFunc] 87)).drew := ⟨_, rfl⟩
              rw [← hwA]
              have hA : Same wr wA := by rw [hwA]; exact Sep.trans (Sep.alloc _ wr _) (Sep.drew _ _)
              have obA : wA.heap[wr.heap.size]? = some (.cells #[.bool false, .slice none 0 0, .int .i64 0, .int .i64 0, .int .u64 0, .int .u64 0, .nilFunc] 87) := by rw [hwA]; exact heap_alloc_new wr _
              obtain ⟨b11, hb11⟩ : ∃ b, b = wr.heap.size := ⟨_, rfl⟩
              have g11 : wr.heap.size ≤ b11 := by omega
              rw [← hb11] at obA ⊢
              clear hwA hb11
              refine hK.out _ _ ?_ (fun hHeld => ?_)
              · exact ⟨Same.cell hA c9_0, Same.cell hA c9_1, Same.cell hA c9_2, Same.cell hA c9_3, Same.cell hA c9_4, Same.cell hA c9_5, Same.cell hA c9_6⟩
              clear hK K
              try simp only [Act.put, List.setIfInBounds_toArray, List.set_cons_zero, List.set_cons_succ]
              refine wpAnyH_ready (rs := [3]) (by kernel_rfl) (by simp) ?_
              refine AllReadyH.cons (o := ⟨some 57, _, _, _, _, _⟩) rfl (fun K hK => ?_) AllReadyH.nil
              rw [if_pos (by kernel_rfl)]
              go_simp
              refine (cap_any (hm.stay (Same.sep (hA) (fun _ => False)) (fun _ _ _ x => x)) 0).mono ?_
              rintro e wC ⟨rfl, hsC⟩
              rw [HONE.out.cap]
              have hC : Same wr wC := Sep.trans (hA) hsC
              refine hK.out _ _ ?_ (fun hHeld => ?_)
              · exact ⟨Same.cell hC c9_0, Same.cell hC c9_1, Same.cell hC c9_2, Same.cell hC c9_3, Same.cell hC c9_4, Same.cell hC c9_5, Same.cell hC c9_6⟩
              clear hK K
              try simp only [Act.put, List.setIfInBounds_toArray, List.set_cons_zero, List.set_cons_succ]
              refine wpAnyH_ready (rs := [4]) (by kernel_rfl) (by simp) ?_
              refine AllReadyH.cons (o := ⟨some 58, _, _, _, _, _⟩) rfl (fun K hK => ?_) AllReadyH.nil
              rw [if_pos (by kernel_rfl)]
              go_simp
              have hC_b11 := Same.obj hsC obA
              refine (step_yes (F := fun b => hq ≤ b ∧ b ≠ b9 ∧ b ≠ b11) (hm.same (hC)) ((hlp.imp2 (fun b hb hlt => ⟨hb.1, hb.2, by omega⟩)).same (hC)) 0 1 HOK.out (by have := HLN.out; omega) (by have := HTL.out; have := HLN.out; omega) (fun b hb => by have := (hmq.same (hC)).le; have := Sep.size (hC); have := lt_of_block hpo; have := lt_of_block hC_b11; omega) (fun b hb => by omega)).mono ?_
              rintro e wS ⟨vS, rfl, hlpS, hmS, hsS⟩
              obtain ⟨was, hwas⟩ : ∃ was, was = peekOf L 0 A.at_ := ⟨_, rfl⟩
              obtain ⟨L', hL'⟩ : ∃ L', L' = doL L (Int.toNat 0) A.at_.toNat A.op A.x A.y := ⟨_, rfl⟩
              obtain ⟨r1S, r2S, r3S⟩ := half_step HOK.out (by have := HLN.out; simp at this; omega) R1.out R2.out R3.out
              have honeS : Hid (OneUp L') := by rw [hL']; exact HONE.out.doL _ _ _ _ _
              rw [← hwas] at hlpS r2S
              rw [← hL'] at hmS r1S r2S r3S
              have RS1 := Lib.hid r1S
              have RS2 := Lib.hid r2S
              have RS3 := Lib.hid r3S
              clear hwas hL' r1S r2S r3S
              obtain ⟨o9, ra9, rn9, rc9, op9, at9, x9, y9, nx9, rfl, hst9⟩ := hlpS.one
              have hS : In lo hi wr wS := (Same.sep (hC) _).trans hsS
              have n11 : ¬ (lo ≤ b11 ∧ b11 < hi) := by have := hm.le; omega
              have obS := Sep.obj (hsS) hC_b11 n11
              refine hK.out _ _ ?_ (fun hHeld => ?_)
              · exact ⟨Sep.cell hS c9_0 n9, Sep.cell hS c9_1 n9, Sep.cell hS c9_2 n9, Sep.cell hS c9_3 n9, Sep.cell hS c9_4 n9, Sep.cell hS c9_5 n9, Sep.cell hS c9_6 n9⟩
              clear hK K
              try simp only [Act.put, List.setIfInBounds_toArray, List.set_cons_zero, List.set_cons_succ]
              refine wpAnyH_take (i := 5) (oi := ⟨some 53, _, _, _, _, _⟩) (v := ?v54) rfl (by kernel_rfl) (by kernel_rfl) (by kernel_rfl) (fun _ _ _ h => h) (Or.inl ⟨by kernel_rfl, ?h54⟩) hHeld ?_
              case h54 => intro w hSw; (try dsimp only at hSw); go_simp; try with_reducible rfl
              try simp only [Act.put, List.setIfInBounds_toArray, List.set_cons_zero, List.set_cons_succ]
              refine wpAnyH_take (i := 6) (oi := ⟨some 59, _, _, _, _, _⟩) (v := ?v55) rfl (by kernel_rfl) (by kernel_rfl) (by kernel_rfl) (fun _ _ _ h => h) (Or.inl ⟨by kernel_rfl, ?h55⟩) hHeld ?_
              case h55 => intro w hSw; (try dsimp only at hSw); go_simp; try with_reducible rfl
              try simp only [Act.put, List.setIfInBounds_toArray, List.set_cons_zero, List.set_cons_succ]
              refine wpAnyH_take (i := 7) (oi := ⟨some 60, _, _, _, _, _⟩) (v := ?v56) rfl (by kernel_rfl) (by kernel_rfl) (by kernel_rfl) (fun _ _ _ h => h) (Or.inl ⟨by kernel_rfl, ?h56⟩) hHeld ?_
              case h56 => intro w hSw; (try dsimp only at hSw); go_simp; try with_reducible rfl
              try simp only [Act.put, List.setIfInBounds_toArray, List.set_cons_zero, List.set_cons_succ]
              refine wpAnyH_ready (rs := [9]) (by kernel_rfl) (by simp) ?_
              refine AllReadyH.cons (o := ⟨none, _, _, _, _, _⟩) rfl (fun K hK => ?_) AllReadyH.nil
              obtain ⟨t0, t1, t2, t3, t4, t5, t6, tf⟩ := cells7 obS
              rw [if_pos (by kernel_rfl)]
              go_simp
              obtain ⟨wT, hwT⟩ : ∃ x, x = (((((((wS.setCell ⟨b11, 0, none⟩ (.bool o9)).setCell ⟨b11, 1, none⟩ (.slice ra9 rn9 rc9)).setCell ⟨b11, 2, none⟩ (.int .i64 op9)).setCell ⟨b11, 3, none⟩ (.int .i64 at9)).setCell ⟨b11, 4, none⟩ (.int .u64 x9)).setCell ⟨b11, 5, none⟩ (.int .u64 y9)).setCell ⟨b11, 6, none⟩ (nx9)) := ⟨_, rfl⟩
              rw [← hwT]
              have h7 : Sep (fun k => k = b11) wS wT := by rw [hwT]; exact sep7 wS b11 (.bool o9) (.slice ra9 rn9 rc9) (.int .i64 op9) (.int .i64 at9) (.int .u64 x9) (.int .u64 y9) (nx9)
              have obT : wT.heap[b11]? = some (.cells #[.bool o9, .slice ra9 rn9 rc9, .int .i64 op9, .int .i64 at9, .int .u64 x9, .int .u64 y9, nx9] 87) := by rw [hwT]; exact heap7 obS rfl
              have h911 : ¬ b9 = b11 := by have := lt_of_block hpo; omega
              clear hwT
              refine hK.out _ _ ?_ (fun hHeld => ?_)
              · exact ⟨h7.cell (Sep.cell hS c9_0 n9) h911, h7.cell (Sep.cell hS c9_1 n9) h911, h7.cell (Sep.cell hS c9_2 n9) h911, h7.cell (Sep.cell hS c9_3 n9) h911, h7.cell (Sep.cell hS c9_4 n9) h911, h7.cell (Sep.cell hS c9_5 n9) h911, h7.cell (Sep.cell hS c9_6 n9) h911⟩
              clear hK K
              try simp only [Act.put, List.setIfInBounds_toArray, List.set_cons_zero, List.set_cons_succ]
              refine wpAnyH_take (i := 10) (oi := ⟨some 12, _, _, _, _, _⟩) (v := ?v57) rfl (by kernel_rfl) (by kernel_rfl) (by kernel_rfl) (fun _ _ _ h => h) (Or.inl ⟨by kernel_rfl, ?h57⟩) hHeld ?_
              case h57 => intro w hSw; (try dsimp only at hSw); go_simp; try with_reducible rfl
              try simp only [Act.put, List.setIfInBounds_toArray, List.set_cons_zero, List.set_cons_succ]
              refine wpAnyH_done (by kernel_rfl) ?_ _
              have hin9 : In lo hi w wT := in_then (hin.trans hS) (by have := hin.size; omega) h7
              have l1 := hm.le
              have l2 := hmq.le
              have hlpT : LP (fun b => hq ≤ b ∧ b ≠ b9) wT _ l' (tj ++ [was]) := (hlpS.stay h7 (fun b hb _ => hb.2.2)).imp (fun b hb => ⟨hb.1, hb.2.1⟩)
              have hmT : Mem lo hi wT p _ (j + 1) := hmS.stay h7 (fun b h1 h2 h3 => by omega)
              have hmqT := (hmq.stay hS (fun b h1 h2 h3 => by omega)).stay h7 (fun b h1 h2 h3 => by omega)
              obtain ⟨e0, e1, e2, e3, e4, e5, e6, ef⟩ := cells7 obT
              have ob9 := h7.obj (Sep.obj hS hpo n9) h911
              obtain ⟨d0, d1, d2, d3, d4, d5, d6, df⟩ := cells7 ob9
              have OB9 := Lib.hid ob9
              have HLPT := Lib.hid hlpT
              have HTLS : Hid ((tj ++ [was]).length = j + 1) := by show (tj ++ [was]).length = j + 1; simp [HTL.out]
              have HLNS : Hid (j + 1 + l'.length ≤ n) := by have := HLN.out; simp at this; show j + 1 + l'.length ≤ n; omega
              clear hHeld c9_0 c9_1 c9_2 c9_3 c9_4 c9_5 c9_6 ob9 hlpT t0 t1 t2 t3 t4 t5 t6 tf hlpS hmS h7 hm hmq hlp
              go_wp2
              go_roundw
              case rel =>
                have h79 := sep7 wT b9 (.bool o9) (.slice ra9 rn9 rc9) (.int .i64 op9) (.int .i64 at9) (.int .u64 x9) (.int .u64 y9) (nx9)
                exact ⟨k + 1, by omega, by go_num, j + 1, _, l', tj ++ [was], L', heap7 OB9.out rfl, HLPT.out.stay h79 (fun b hb _ => hb.2), HTLS.out, HLNS.out, honeS.out, hmT.stay h79 (fun b h1 h2 h3 => by omega), hmqT.stay h79 (fun b h1 h2 h3 => by omega), in_then hin9 (by have := lt_of_block obT; omega) h79, RS1.out, RS2.out, RS3.out⟩
              case measure => simp [intOf]; omega
      · go_wp2
        go_meet
        exact ⟨j, c, lj, tj, L, hpo, hlp, htl, hln, hone, hm, hmq, hin, r1, r2, r3⟩
  case rest =>
    obtain ⟨j, c, lj, tj, L, hpo, hlp, htl, hln, hone, hm, hmq, hin, r1, r2, r3⟩ := hcut
    clear hlp5 hm5 hmq5 hin5
    obtain ⟨o2, a2, n2, k2, op2, at2, x2, y2, nx2, hform, hst2⟩ := hlp.one
    obtain rfl : c = _ := (Value.agg.injEq _ _).mp hform
    obtain ⟨c9_0, c9_1, c9_2, c9_3, c9_4, c9_5, c9_6, c9f⟩ := cells7 hpo
    have n9 : ¬ (lo ≤ b9 ∧ b9 < hi) := by omega
    have HTL := Lib.hid htl
    have HLN := Lib.hid hln
    have HONE := Lib.hid hone
    obtain ⟨R', hR'⟩ : ∃ R', runs 0 1 L lj 40 = R' := ⟨_, rfl⟩
    have HR' := Lib.hid hR'
    rw [hR'] at r1 r2 r3
    have R1 := Lib.hid r1
    have R2 := Lib.hid r2
    have R3 := Lib.hid r3
    clear hform htl hln hone hR' r1 r2 r3
    go_wp2
    refine wp_region_held_drew (S := (fun v => v.cell? ⟨b9, 0, none⟩ = some (.bool o2) ∧ v.cell? ⟨b9, 1, none⟩ = some (.slice a2 n2 k2) ∧ v.cell? ⟨b9, 2, none⟩ = some (.int .i64 op2) ∧ v.cell? ⟨b9, 3, none⟩ = some (.int .i64 at2) ∧ v.cell? ⟨b9, 4, none⟩ = some (.int .u64 x2) ∧ v.cell? ⟨b9, 5, none⟩ = some (.int .u64 y2) ∧ v.cell? ⟨b9, 6, none⟩ = some (nx2))) (by kernel_rfl) ?_ (fun hHeld => ?_)
    · exact ⟨(Sep.drew (fun _ => False) wc).cell c9_0 (fun x => x), (Sep.drew (fun _ => False) wc).cell c9_1 (fun x => x), (Sep.drew (fun _ => False) wc).cell c9_2 (fun x => x), (Sep.drew (fun _ => False) wc).cell c9_3 (fun x => x), (Sep.drew (fun _ => False) wc).cell c9_4 (fun x => x), (Sep.drew (fun _ => False) wc).cell c9_5 (fun x => x), (Sep.drew (fun _ => False) wc).cell c9_6 (fun x => x)⟩
    change wpAnyH _ _ _ _ _ 12 _ _ _
    refine wpAnyH_take (i := 0) (oi := ⟨some 65, _, _, _, _, _⟩) (v := ?v31) rfl (by kernel_rfl) (by kernel_rfl) (by kernel_rfl) (fun _ _ _ h => h) (Or.inl ⟨by kernel_rfl, ?h31⟩) hHeld ?_
    case h31 => intro w hSw; (try dsimp only at hSw); go_simp; try with_reducible rfl
    try simp only [Act.put, List.setIfInBounds_toArray, List.set_cons_zero, List.set_cons_succ]
    refine wpAnyH_take (i := 1) (oi := ⟨some 66, _, _, _, _, _⟩) (v := ?v32) rfl (by kernel_rfl) (by kernel_rfl) (by kernel_rfl) (fun _ _ _ h => h) (Or.inl ⟨by kernel_rfl, ?h32⟩) hHeld ?_
    case h32 => intro w hSw; (try dsimp only at hSw); go_simp; try with_reducible rfl
    try simp only [Act.put, List.setIfInBounds_toArray, List.set_cons_zero, List.set_cons_succ]
    refine wpAnyH_take (i := 2) (oi := ⟨some 67, _, _, _, _, _⟩) (v := ?v33) rfl (by kernel_rfl) (by kernel_rfl) (by kernel_rfl) (fun _ _ _ h => h) (Or.inl ⟨by kernel_rfl, ?h33⟩) hHeld ?_
    case h33 => intro w hSw; (try dsimp only at hSw); go_simp; try with_reducible rfl
    try simp only [Act.put, List.setIfInBounds_toArray, List.set_cons_zero, List.set_cons_succ]
    refine wpAnyH_ready (rs := [3]) (by kernel_rfl) (by simp) ?_
    refine AllReadyH.cons (o := ⟨some 68, _, _, _, _, _⟩) rfl (fun K hK => ?_) AllReadyH.nil
    rw [if_pos (by kernel_rfl)]
    go_simp
    refine (cap_any (hm.same (Sep.drew _ _)) 0).mono ?_
    rintro e wC ⟨rfl, hsC⟩
    rw [HONE.out.cap]
    have hC : Same wc wC := (Sep.drew (fun _ => False) wc).trans hsC
    refine hK.out _ _ ?_ (fun hHeld => ?_)
    · exact ⟨Same.cell hC c9_0, Same.cell hC c9_1, Same.cell hC c9_2, Same.cell hC c9_3, Same.cell hC c9_4, Same.cell hC c9_5, Same.cell hC c9_6⟩
    clear hK K
    try simp only [Act.put, List.setIfInBounds_toArray, List.set_cons_zero, List.set_cons_succ]
    refine wpAnyH_ready (rs := [4]) (by kernel_rfl) (by simp) ?_
    refine AllReadyH.cons (o := ⟨some 69, _, _, _, _, _⟩) rfl (fun K hK => ?_) AllReadyH.nil
    rw [if_pos (by kernel_rfl)]
    go_simp
    refine (run_at (F := fun b => hq ≤ b ∧ b ≠ b9) (hm.same hC) (hlp.same hC) 40 R' HR'.out (by have := HLN.out; omega) (by have := HLN.out; have := HTL.out; omega) (fun b hb => by have := (hmq.same hC).le; have := Sep.size hC; have := lt_of_block hpo; omega) (fun b hb => by omega)).mono ?_
    rintro e wR ⟨ra1, rc1, rfl, hsl1, hmR, hinR⟩
    obtain ⟨ov, hov⟩ : ∃ ov, ov = R.2.2.isEmpty := ⟨_, rfl⟩
    obtain ⟨T, hT⟩ : ∃ T : List Int, T = (if ov = true then R.2.1 else []) := ⟨_, rfl⟩
    rw [R2.out, R3.out, ← hov, ← hT] at hsl1
    rw [R2.out, R3.out, ← hov, ← hT]
    have HT := Lib.hid hT
    have HOV := Lib.hid hov
    clear hov hT
    have hinR0 : In lo hi wc wR := (Same.sep hC _).trans hinR
    refine hK.out _ _ ?_ (fun hHeld => ?_)
    · exact ⟨Sep.cell hinR0 c9_0 n9, Sep.cell hinR0 c9_1 n9, Sep.cell hinR0 c9_2 n9, Sep.cell hinR0 c9_3 n9, Sep.cell hinR0 c9_4 n9, Sep.cell hinR0 c9_5 n9, Sep.cell hinR0 c9_6 n9⟩
    clear hK K
    try simp only [Act.put, List.setIfInBounds_toArray, List.set_cons_zero, List.set_cons_succ]
    refine wpAnyH_take (i := 5) (oi := ⟨some 64, _, _, _, _, _⟩) (v := ?v36) rfl (by kernel_rfl) (by kernel_rfl) (by kernel_rfl) (fun _ _ _ h => h) (Or.inl ⟨by kernel_rfl, ?h36⟩) hHeld ?_
    case h36 => intro w hSw; (try dsimp only at hSw); go_simp; try with_reducible rfl
    try simp only [Act.put, List.setIfInBounds_toArray, List.set_cons_zero, List.set_cons_succ]
    refine wpAnyH_take (i := 6) (oi := ⟨some 70, _, _, _, _, _⟩) (v := ?v37) rfl (by kernel_rfl) (by kernel_rfl) (by kernel_rfl) (fun _ _ _ h => h) (Or.inl ⟨by kernel_rfl, ?h37⟩) hHeld ?_
    case h37 => intro w hSw; (try dsimp only at hSw); go_simp; try with_reducible rfl
    try simp only [Act.put, List.setIfInBounds_toArray, List.set_cons_zero, List.set_cons_succ]
    refine wpAnyH_take (i := 7) (oi := ⟨some 71, _, _, _, _, _⟩) (v := ?v38) rfl (by kernel_rfl) (by kernel_rfl) (by kernel_rfl) (fun _ _ _ h => h) (Or.inl ⟨by kernel_rfl, ?h38⟩) hHeld ?_
    case h38 => intro w hSw; (try dsimp only at hSw); go_simp; try with_reducible rfl
    try simp only [Act.put, List.setIfInBounds_toArray, List.set_cons_zero, List.set_cons_succ]
    refine wpAnyH_take (i := 8) (oi := ⟨some 72, _, _, _, _, _⟩) (v := ?v39) rfl (by kernel_rfl) (by kernel_rfl) (by kernel_rfl) (fun _ _ _ h => h) (Or.inl ⟨by kernel_rfl, ?h39⟩) hHeld ?_
    case h39 => intro w hSw; (try dsimp only at hSw); go_simp; try with_reducible rfl
    try simp only [Act.put, List.setIfInBounds_toArray, List.set_cons_zero, List.set_cons_succ]
    refine wpAnyH_take (i := 9) (oi := ⟨some 13, _, _, _, _, _⟩) (v := ?v40) rfl (by kernel_rfl) (by kernel_rfl) (by kernel_rfl) (fun _ _ _ h => h) (Or.inl ⟨by kernel_rfl, ?h40⟩) hHeld ?_
    case h40 => intro w hSw; (try dsimp only at hSw); go_simp; try with_reducible rfl
    try simp only [Act.put, List.setIfInBounds_toArray, List.set_cons_zero, List.set_cons_succ]
    refine wpAnyH_take (i := 10) (oi := ⟨some 14, _, _, _, _, _⟩) (v := ?v41) rfl (by kernel_rfl) (by kernel_rfl) (by kernel_rfl) (fun _ _ _ h => h) (Or.inl ⟨by kernel_rfl, ?h41⟩) hHeld ?_
    case h41 => intro w hSw; (try dsimp only at hSw); go_simp; try with_reducible rfl
    try simp only [Act.put, List.setIfInBounds_toArray, List.set_cons_zero, List.set_cons_succ]
    refine wpAnyH_take (i := 11) (oi := ⟨some 15, _, _, _, _, _⟩) (v := ?v42) rfl (by kernel_rfl) (by kernel_rfl) (by kernel_rfl) (fun _ _ _ h => h) (Or.inl ⟨by kernel_rfl, ?h42⟩) hHeld ?_
    case h42 => intro w hSw; (try dsimp only at hSw); go_simp; try with_reducible rfl
    try simp only [Act.put, List.setIfInBounds_toArray, List.set_cons_zero, List.set_cons_succ]
    refine wpAnyH_done (by kernel_rfl) ?_ _
    have hmqR := hmq.stay hinR0 (fun b h1 h2 h3 => by omega)
    have hinw : In lo hi w wR := hin.trans hinR0
    rw [R1.out] at hmR
    have hcnt : j + R'.2.1.length = R.2.1.length := by rw [← R2.out, List.length_append, HTL.out]
    rw [hcnt] at hmR
    have HCNT := Lib.hid hcnt
    clear hHeld hC hmq hm hlp hin hinR hinR0 c9_0 c9_1 c9_2 c9_3 c9_4 c9_5 c9_6 c9f hpo hcnt hsC
    go_wp2_with fail
    refine (list_arg (F := fun b => hq ≤ b) (Q0.out.stay hinw (fun b hb => by omega)) (by have := HN.out; omega) (fun b hb => Nat.le_trans hmqR.le hb)).mono ?_
    rintro e wL ⟨vL, rfl, hlpL, hsL⟩
    go_wp2_with fail
    refine (cap_any (hmqR.same hsL) 0).mono ?_
    rintro e wM ⟨rfl, hsM⟩
    rw [show capOf fresh8 0 = .agg #[.int .i64 0, .int .u64 1] from rfl]
    have hLM : Same wR wM := Sep.trans hsL hsM
    go_wp2_with fail
    refine (run_at (F := fun b => hq ≤ b) (hmqR.same hLM) (hlpL.same hsM) 40 R HR.out.symm (by have := HN.out; omega) (by have := HN.out; simp; omega) (fun b hb => Nat.le_trans (hmqR.same hLM).le hb) (fun b hb => by omega)).mono ?_
    rintro e wN ⟨ra2, rc2, rfl, hsl2, hmqN, hinN⟩
    rw [List.nil_append, ← HOV.out, ← HT.out] at hsl2 ⊢
    rw [Nat.zero_add] at hmqN
    have hsl1N := (Slc.imp (Slc.same hsl1 hLM) (fun b hb _ => hb)).stay hinN (fun b hb _ => by omega)
    have hmN := (hmR.same hLM).stay hinN (fun b h1 h2 h3 => by omega)
    have bel : Below w.heap.size w wN := below_in ((hinw.below hlo (Nat.le_refl _)).trans (hLM.below.mono hinw.size)) hinN (by omega) (by have := hinw.size; have := hLM.size; omega)
    have hlT : T.length ≤ 1000000 := by
      rw [HT.out]
      have h1 := (@runs_len 0 1 fresh8 l 40).1
      rw [← HR.out] at h1
      have := HN.out
      split
      · omega
      · simp
    have HLT := Lib.hid hlT
    obtain ⟨tn, htn⟩ : ∃ tn, tn = T.length := ⟨_, rfl⟩
    have HS1 : Hid (SlcU (fun b => hq ≤ b ∧ b ≠ b9) wN (.slice ra1 tn rc1) T) := by rw [htn]; exact hsl1N
    have HS2 : Hid (SlcU (fun b => hq ≤ b) wN (.slice ra2 tn rc2) T) := by rw [htn]; exact hsl2
    rw [← htn]
    clear hsl1 hsl2 hsl1N hlT htn hinN hmR hmqR hinw hsL hsM hLM hlpL
    go_wp2
    go_loopw [19] (fun i wr => ∃ k : Nat, k ≤ 8 ∧ i = .int .i64 k ∧ wN = wr) (fun i _ => 8 - (intOf i).toNat)
    case atStart => exact ⟨0, by omega, rfl, rfl⟩
    case round =>
      obtain ⟨k, hk, rfl, rfl⟩ := hrel
      by_cases hlt : k < 8
      · go_wp2_with fail
        refine (peek_any hmN 0 k).mono ?_
        rintro e w5 ⟨rfl, rfl⟩
        go_wp2_with fail
        refine (peek_any hmqN 0 k).mono ?_
        rintro e w6 ⟨rfl, rfl⟩
        go_wp2
        go_roundw
        case rel => exact ⟨k + 1, by omega, by go_num, trivial⟩
        case measure => simp [intOf]; omega
      · go_wp2_with fail
        refine (same_yes HS1.out HS2.out HLT.out).mono ?_
        rintro e w7 ⟨rfl, hs7⟩
        go_wp2_with fail
        refine (count_any (hmN.same hs7)).mono ?_
        rintro e w8 ⟨rfl, rfl⟩
        go_wp2_with fail
        refine (count_any (hmqN.same hs7)).mono ?_
        rintro e w9 ⟨rfl, rfl⟩
        go_wp2
        go_ret
        exact ⟨rfl, below_same bel hs7 bel.size⟩
end Go.Proofs.Ytiljledgoflogaa
