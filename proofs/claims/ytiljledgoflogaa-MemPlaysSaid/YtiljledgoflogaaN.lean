/- Contract of Run at programs that come to a list of words. -/
import Derived.Test.YtiljledgoflogaaM
namespace Go.Proofs.Ytiljledgoflogaa
open Go.RowKit
set_option linter.unusedSimpArgs false
set_option linter.unusedVariables false

/-- What a list of accesses does, as many as may be: the regions, what was told, what is left. -/
def runs (ci ce : Int) : List Reg → List Acc → Nat → List Reg × List Int × List Acc
  | L, [], _ => (L, [], [])
  | L, A :: l, 0 => (L, [], A :: l)
  | L, A :: l, m + 1 =>
    if okB L ci ce A.op A.at_ = true then
      let r := runs ci ce (doL L ci.toNat A.at_.toNat A.op A.x A.y) l m
      (r.1, peekOf L ci A.at_ :: r.2.1, r.2.2)
    else (L, [], A :: l)

theorem heap7 {w : World} {b : Nat} {x0 x1 x2 x3 x4 x5 x6 : Value} {c : Array Value} {T : TypeId} (h : w.heap[b]? = some (.cells c T)) (hc : c.size = 7) :
    (((((((w.setCell ⟨b, 0, none⟩ x0).setCell ⟨b, 1, none⟩ x1).setCell ⟨b, 2, none⟩ x2).setCell ⟨b, 3, none⟩ x3).setCell ⟨b, 4, none⟩ x4).setCell ⟨b, 5, none⟩ x5).setCell ⟨b, 6, none⟩ x6).heap[b]? = some (.cells #[x0, x1, x2, x3, x4, x5, x6] T) := by
  rw [heap_set_same (heap_set_same (heap_set_same (heap_set_same (heap_set_same (heap_set_same (heap_set_same h))))))]
  obtain ⟨l⟩ := c
  match l, hc with
  | [_, _, _, _, _, _, _], _ => rfl

def Ran (lo hi : Nat) (F : Nat → Prop) (p cnt : Nat) (w : World) (told : List Int) (R : List Reg × List Int × List Acc) (e : Ending) (w' : World) : Prop :=
  ∃ rv, e = .returned (.tuple #[rv, .int .i64 R.2.1.length, .bool R.2.2.isEmpty]) ∧ (if R.2.2.isEmpty = true then SlcU F w' rv (told ++ R.2.1) else rv = .slice none 0 0) ∧ Mem lo hi w' p R.1 (cnt + R.2.1.length) ∧ In lo hi w w'

/-- The two blocks of Run: the program, the capability. -/
theorem two_r (w : World) (p c : Array Value) : ∃ W, W = (w.alloc (.cells p 87)).alloc (.cells c 33) ∧
    Same w W ∧ W.heap.size = w.heap.size + 2 ∧ W.heap[w.heap.size]? = some (.cells p 87) ∧ W.heap[w.heap.size + 1]? = some (.cells c 33) := by
  refine ⟨_, rfl, (Sep.alloc _ _ _).thenAlloc _, by simp, ?_, ?_⟩
  · rw [Below.heap_alloc _ _ _ (by simp)]; exact heap_alloc_new _ _
  · have e : (w.alloc (.cells p 87)).heap.size = w.heap.size + 1 := by simp
    rw [← e]; exact heap_alloc_new _ _

section
variable {lo hi p cnt : Nat} {w : World} {L : List Reg} {F : Nat → Prop}

/-- The program's cells. -/
theorem LP.agg {v : Value} {l : List Acc} {told : List Int} (h : LP F w v l told) : ∃ c : Array Value, v = .agg c ∧ c.size = 7 := by
  rcases h.form with ⟨_, a, cap, rfl⟩ | ⟨A, l', lb, tb, _, rfl⟩
  · exact ⟨_, rfl, rfl⟩
  · exact ⟨_, rfl, rfl⟩

theorem runs_yes {ci ce : Int} {L : List Reg} {A : Acc} {l : List Acc} {m : Nat} (h : okB L ci ce A.op A.at_ = true) : runs ci ce L (A :: l) (m + 1) = ((runs ci ce (doL L ci.toNat A.at_.toNat A.op A.x A.y) l m).1, peekOf L ci A.at_ :: (runs ci ce (doL L ci.toNat A.at_.toNat A.op A.x A.y) l m).2.1, (runs ci ce (doL L ci.toNat A.at_.toNat A.op A.x A.y) l m).2.2) := by
  simp only [runs]
  rw [if_pos h]
theorem runs_no {ci ce : Int} {L : List Reg} {A : Acc} {l : List Acc} {m : Nat} (h : okB L ci ce A.op A.at_ = false) : runs ci ce L (A :: l) (m + 1) = (L, [], A :: l) := by
  simp only [runs]
  rw [if_neg (by rw [h]; decide)]
theorem runs_zero {ci ce : Int} {L : List Reg} {l : List Acc} : runs ci ce L l 0 = (L, [], l) := by
  cases l <;> rfl
theorem runs_nil {ci ce : Int} {L : List Reg} {m : Nat} : runs ci ce L [] m = (L, [], []) := by
  cases m <;> rfl

theorem ran_over {w' : World} {told tj : List Int} {R : List Reg × List Int × List Acc} {Lj : List Reg} {j : Nat} {rv : Value} {l : List Acc} (hb : l = []) (hrv : SlcU F w' rv tj) (hm : Mem lo hi w' p Lj (cnt + j)) (hin : In lo hi w w') (htl : tj.length = told.length + j)
    (r1 : Lj = R.1) (r2 : tj ++ [] = told ++ R.2.1) (r3 : l = R.2.2) : Ran lo hi F p cnt w told R (.returned (.tuple #[rv, .int .i64 j, .bool true])) w' := by
  have e : j = R.2.1.length := by
    have := congrArg List.length r2
    simp at this
    omega
  have e3 : R.2.2.isEmpty = true := by rw [← r3, hb]; rfl
  subst e
  refine ⟨rv, by rw [e3], ?_, by rw [← r1]; exact hm, hin⟩
  rw [if_pos e3, ← r2, List.append_nil]
  exact hrv
theorem ran_left {w' : World} {told tj : List Int} {R : List Reg × List Int × List Acc} {Lj : List Reg} {j : Nat} {A : Acc} {l : List Acc} (hm : Mem lo hi w' p Lj (cnt + j)) (hin : In lo hi w w') (htl : tj.length = told.length + j)
    (r1 : Lj = R.1) (r2 : tj ++ [] = told ++ R.2.1) (r3 : A :: l = R.2.2) : Ran lo hi F p cnt w told R (.returned (.tuple #[.slice none 0 0, .int .i64 j, .bool false])) w' := by
  have e : j = R.2.1.length := by
    have := congrArg List.length r2
    simp at this
    omega
  have e3 : R.2.2.isEmpty = false := by rw [← r3]; rfl
  subst e
  refine ⟨_, by rw [e3], ?_, by rw [← r1]; exact hm, hin⟩
  rw [e3]
  rfl

set_option maxRecDepth 100000 in
set_option maxHeartbeats 2000000 in
theorem run_any {v : Value} {l : List Acc} {told : List Int} (hm : Mem lo hi w p L cnt) (hlp : LP F w v l told) (ci ce most : Int) (hc : cnt + l.length < 1000000000) (hk : told.length + l.length ≤ 1000)
    (hF : ∀ b, w.heap.size ≤ b → F b) (hFd : ∀ b, F b → ¬ (lo ≤ b ∧ b < hi)) :
    Calls Try.prog 41 #[v, .pointer (some ⟨p, 0, none⟩), .agg #[.int .i64 ci, .int .u64 ce], .int .i64 most] w (Ran lo hi F p cnt w told (runs ci ce L l most.toNat)) := by
  obtain ⟨c, rfl, hc7⟩ := hlp.agg
  obtain ⟨W, hW, hs0, hsz, h0, h1⟩ := two_r w c #[.int .i64 ci, .int .u64 ce]
  have hle := hm.le
  have hlpW : LP (fun q => F q ∧ q ≠ w.heap.size) W (.agg c) l told := (hlp.imp2 (fun q hq hlt => ⟨hq, by omega⟩)).same hs0
  have hmW := hm.same hs0
  have e0 : W.cell? ⟨w.heap.size + 1, 0, none⟩ = some (.int .i64 ci) := by rw [cell_of_heap h1]; rfl
  have e1 : W.cell? ⟨w.heap.size + 1, 1, none⟩ = some (.int .u64 ce) := by rw [cell_of_heap h1]; rfl
  have HW := Lib.hid hW
  have HSZ := Lib.hid hsz
  clear hW hsz h1 hlp hm
  obtain ⟨R, hR⟩ : ∃ R, R = runs ci ce L l most.toNat := ⟨_, rfl⟩
  rw [← hR]
  go_enter Try.func41, Try.ntmps41
  go_wp2_with fail
  rw [← HW.out]
  go_loopw [11] (fun i wr => ∃ (j : Nat) (c : Array Value) (lj : List Acc) (tj : List Int) (Lj : List Reg), i = .int .i64 j ∧ wr.heap[w.heap.size]? = some (.cells c 87) ∧ c.size = 7 ∧ LP (fun q => F q ∧ q ≠ w.heap.size) wr (.agg c) lj tj ∧ Mem lo hi wr p Lj (cnt + j) ∧
      wr.cell? ⟨w.heap.size + 1, 0, none⟩ = some (.int .i64 ci) ∧ wr.cell? ⟨w.heap.size + 1, 1, none⟩ = some (.int .u64 ce) ∧ In lo hi w wr ∧ w.heap.size + 2 ≤ wr.heap.size ∧ cnt + j + lj.length < 1000000000 ∧ tj.length + lj.length ≤ 1000 ∧ tj.length = told.length + j ∧
      (runs ci ce Lj lj (most.toNat - j)).1 = R.1 ∧ tj ++ (runs ci ce Lj lj (most.toNat - j)).2.1 = told ++ R.2.1 ∧ (runs ci ce Lj lj (most.toNat - j)).2.2 = R.2.2) (fun i _ => most.toNat - (intOf i).toNat)
  case atStart => exact ⟨0, c, l, told, L, rfl, h0, hc7, hlpW, hmW, e0, e1, hs0.sep _, by rw [HSZ.out]; exact Nat.le_refl _, by omega, hk, rfl, by rw [hR]; rfl, by rw [hR]; rfl, by rw [hR]; rfl⟩
  case round =>
    clear h0 hc7 hlpW hmW e0 e1 hs0 hR
    obtain ⟨j, c, lj, tj, Lj, rfl, h0, hc7, hlp, hm, e0, e1, hin, hge, hcj, hkj, htl, r1, r2, r3⟩ := hrel
    have n0 : ¬ (lo ≤ w.heap.size ∧ w.heap.size < hi) := by omega
    have n1 : ¬ (lo ≤ w.heap.size + 1 ∧ w.heap.size + 1 < hi) := by omega
    have HC7 := Lib.hid hc7
    have HTL := Lib.hid htl
    clear hc7 htl
    by_cases hjm : (j : Int) < most
    · rcases hlp.form with ⟨rfl, ra, rc, hform⟩ | ⟨A, l', lb, tb, rfl, hform⟩
      · obtain rfl : c = _ := (Value.agg.injEq _ _).mp hform
        rw [runs_nil] at r1 r2 r3
        obtain ⟨rv, hrve, hrv⟩ := id hlp
        obtain rfl : Value.slice ra tj.length rc = rv := by simpa using hrve
        obtain ⟨d0, d1, d2, d3, d4, d5, d6, df⟩ := cells7 h0
        have HRV := Lib.hid hrv
        have R1 := Lib.hid r1
        have R2 := Lib.hid r2
        have R3 := Lib.hid r3
        obtain ⟨tn, htn⟩ : ∃ n, n = tj.length := ⟨_, rfl⟩
        rw [← htn] at d1
        have HTN := Lib.hid htn
        clear hform hrve hrv h0 r1 r2 r3 e0 e1 hlp htn
        go_wp2
        go_region
        all_goals go_wp2
        all_goals go_ret3
        all_goals
          rw [HTN.out]
          exact ran_over rfl ((Slc.imp HRV.out (fun q hq _ => hq.1)).same (Sep.drew _ _)) (hm.same (Sep.drew _ _)) (hin.trans (Sep.drew _ _)) HTL.out R1.out R2.out R3.out
      · obtain rfl : c = _ := (Value.agg.injEq _ _).mp hform
        obtain ⟨d0, d1, d2, d3, d4, d5, d6, df⟩ := cells7 h0
        rw [show most.toNat - j = (most.toNat - (j + 1)) + 1 by omega] at r1 r2 r3
        have HLP := Lib.hid hlp
        cases hok : okB Lj ci ce A.op A.at_ with
        | false =>
          rw [runs_no hok] at r1 r2 r3
          have R1 := Lib.hid r1
          have R2 := Lib.hid r2
          have R3 := Lib.hid r3
          have H0 := Lib.hid h0
          clear hform h0 r1 r2 r3 hlp
          go_wp2_with fail
          refine (step_no hm HLP.out ci ce hok).mono ?_
          rintro e w1 ⟨rfl, hs1⟩
          obtain ⟨d0, d1, d2, d3, d4, d5, d6, df⟩ := cells7 (hs1.obj H0.out)
          have a0 := fun o => (Sep.alloc (fun _ => False) w1 o).cell d0 (fun x => x)
          have a1 := fun o => (Sep.alloc (fun _ => False) w1 o).cell d1 (fun x => x)
          have a2 := fun o => (Sep.alloc (fun _ => False) w1 o).cell d2 (fun x => x)
          have a3 := fun o => (Sep.alloc (fun _ => False) w1 o).cell d3 (fun x => x)
          have a4 := fun o => (Sep.alloc (fun _ => False) w1 o).cell d4 (fun x => x)
          have a5 := fun o => (Sep.alloc (fun _ => False) w1 o).cell d5 (fun x => x)
          have a6 := fun o => (Sep.alloc (fun _ => False) w1 o).cell d6 (fun x => x)
          have hm1 := hm.same hs1
          have hin1 : In lo hi w w1 := hin.trans (hs1.sep _)
          clear hm hin hs1 hok
          go_wp2
          go_region
          all_goals go_wp2
          all_goals go_ret3
          all_goals exact ran_left ((hm1.same (Sep.alloc _ _ _)).same (Sep.drew _ _)) ((hin1.trans (Sep.alloc _ _ _)).trans (Sep.drew _ _)) HTL.out R1.out R2.out R3.out
        | true =>
          rw [runs_yes hok] at r1 r2 r3
          have R1 := Lib.hid r1
          have R2 := Lib.hid r2
          have R3 := Lib.hid r3
          have H0 := Lib.hid h0
          clear hform h0 r1 r2 r3 hlp
          rw [List.length_cons] at hcj hkj
          go_wp2_with fail
          refine (step_yes hm HLP.out ci ce hok (by omega) (by omega) (fun q hq => ⟨hF q (by omega), by omega⟩) (fun q hq => hFd q hq.1)).mono ?_
          rintro e w1 ⟨v1, rfl, hlp1, hm1, hs1⟩
          obtain ⟨was, hwas⟩ : ∃ was, was = peekOf Lj ci A.at_ := ⟨_, rfl⟩
          obtain ⟨L1, hL1⟩ : ∃ L1, L1 = doL Lj ci.toNat A.at_.toNat A.op A.x A.y := ⟨_, rfl⟩
          rw [← hwas] at hlp1 R2
          rw [← hL1] at hm1 R1 R2 R3
          have h01 := Sep.obj hs1 H0.out n0
          obtain ⟨d0, d1, d2, d3, d4, d5, d6, df⟩ := cells7 h01
          have a0 := fun o => (Sep.alloc (fun _ => False) w1 o).cell d0 (fun x => x)
          have a1 := fun o => (Sep.alloc (fun _ => False) w1 o).cell d1 (fun x => x)
          have a2 := fun o => (Sep.alloc (fun _ => False) w1 o).cell d2 (fun x => x)
          have a3 := fun o => (Sep.alloc (fun _ => False) w1 o).cell d3 (fun x => x)
          have a4 := fun o => (Sep.alloc (fun _ => False) w1 o).cell d4 (fun x => x)
          have a5 := fun o => (Sep.alloc (fun _ => False) w1 o).cell d5 (fun x => x)
          have a6 := fun o => (Sep.alloc (fun _ => False) w1 o).cell d6 (fun x => x)
          have af : ∀ o j, (w1.alloc o).frozen? ⟨w.heap.size, j, none⟩ = false := fun o j => free_of_heap ((Sep.alloc (fun _ => False) w1 o).obj h01 (fun x => x))
          have e0' := Sep.cell hs1 e0 n1
          have e1' := Sep.cell hs1 e1 n1
          have hin1 : In lo hi w w1 := hin.trans hs1
          have hge1 : w.heap.size + 2 ≤ w1.heap.size := Nat.le_trans hge hs1.size
          have HLP1 := Lib.hid hlp1
          have H01 := Lib.hid h01
          have R2' : Hid ((tj ++ [was]) ++ (runs ci ce L1 l' (most.toNat - (j + 1))).2.1 = told ++ R.2.1) := by
            show (tj ++ [was]) ++ _ = _
            rw [← R2.out]; simp
          have htl' : Hid ((tj ++ [was]).length = told.length + (j + 1)) := by
            show (tj ++ [was]).length = _
            have := HTL.out
            simp; omega
          have hkl' : Hid ((tj ++ [was]).length + l'.length ≤ 1000) := by
            show (tj ++ [was]).length + l'.length ≤ 1000
            simp; omega
          rcases hlp1.form with ⟨rfl, ra, rc, rfl⟩ | ⟨A', l'', lb', tb', rfl, rfl⟩
          · obtain ⟨rn, hrn⟩ : ∃ rn, rn = (tj ++ [was]).length := ⟨_, rfl⟩
            rw [← hrn] at HLP1 ⊢
            clear hm hin hs1 hok h01 hlp1 e0 e1 hrn hwas hL1
            go_wp2
            go_roundw
            case rel =>
              have ha := Sep.alloc (fun _ => False) w1 (.cells #[.bool true, .slice ra rn rc, .int .i64 0, .int .i64 0, .int .u64 0, .int .u64 0, .nilFunc] 87)
              have h7 := sep7 (w1.alloc (.cells #[.bool true, .slice ra rn rc, .int .i64 0, .int .i64 0, .int .u64 0, .int .u64 0, .nilFunc] 87)) w.heap.size (.bool true) (.slice ra rn rc) (.int .i64 0) (.int .i64 0) (.int .u64 0) (.int .u64 0) .nilFunc
              exact ⟨j + 1, _, [], tj ++ [was], L1, by go_num, heap7 (ha.obj H01.out (fun x => x)) rfl, rfl, (HLP1.out.same ha).stay h7 (fun q hq _ => hq.2), (hm1.same ha).stay h7 (fun q h1 h2 h3 => by omega), h7.cell (ha.cell e0' (fun x => x)) (show ¬ (w.heap.size + 1 = w.heap.size) by omega), h7.cell (ha.cell e1' (fun x => x)) (show ¬ (w.heap.size + 1 = w.heap.size) by omega), in_then (hin1.trans (Same.sep ha _)) (Nat.le_refl _) h7, Nat.le_trans hge1 (Nat.le_trans ha.size h7.size), by simp at hcj ⊢; omega, hkl'.out, htl'.out, R1.out, R2'.out, R3.out⟩
            case measure => simp [intOf]; omega
          · clear hm hin hs1 hok h01 hlp1 e0 e1 hwas hL1
            go_wp2
            go_roundw
            case rel =>
              have ha := Sep.alloc (fun _ => False) w1 (.cells #[.bool false, .slice none 0 0, .int .i64 A'.op, .int .i64 A'.at_, .int .u64 A'.x, .int .u64 A'.y, .func (.func 93) #[] #[.pointer (some ⟨lb', 0, none⟩), .pointer (some ⟨tb', 0, none⟩)]] 87)
              have h7 := sep7 (w1.alloc (.cells #[.bool false, .slice none 0 0, .int .i64 A'.op, .int .i64 A'.at_, .int .u64 A'.x, .int .u64 A'.y, .func (.func 93) #[] #[.pointer (some ⟨lb', 0, none⟩), .pointer (some ⟨tb', 0, none⟩)]] 87)) w.heap.size (.bool false) (.slice none 0 0) (.int .i64 A'.op) (.int .i64 A'.at_) (.int .u64 A'.x) (.int .u64 A'.y) (.func (.func 93) #[] #[.pointer (some ⟨lb', 0, none⟩), .pointer (some ⟨tb', 0, none⟩)])
              exact ⟨j + 1, _, A' :: l'', tj ++ [was], L1, by go_num, heap7 (ha.obj H01.out (fun x => x)) rfl, rfl, (HLP1.out.same ha).stay h7 (fun q hq _ => hq.2), (hm1.same ha).stay h7 (fun q h1 h2 h3 => by omega), h7.cell (ha.cell e0' (fun x => x)) (show ¬ (w.heap.size + 1 = w.heap.size) by omega), h7.cell (ha.cell e1' (fun x => x)) (show ¬ (w.heap.size + 1 = w.heap.size) by omega), in_then (hin1.trans (Same.sep ha _)) (Nat.le_refl _) h7, Nat.le_trans hge1 (Nat.le_trans ha.size h7.size), by omega, hkl'.out, htl'.out, R1.out, R2'.out, R3.out⟩
            case measure => simp [intOf]; omega
    · rw [show most.toNat - j = 0 by omega, runs_zero] at r1 r2 r3
      have R1 := Lib.hid r1
      have R2 := Lib.hid r2
      have R3 := Lib.hid r3
      rcases hlp.form with ⟨rfl, ra, rc, hform⟩ | ⟨A, l', lb, tb, rfl, hform⟩
      · obtain rfl : c = _ := (Value.agg.injEq _ _).mp hform
        obtain ⟨rv, hrve, hrv⟩ := id hlp
        obtain rfl : Value.slice ra tj.length rc = rv := by simpa using hrve
        obtain ⟨d0, d1, d2, d3, d4, d5, d6, df⟩ := cells7 h0
        have HRV := Lib.hid hrv
        obtain ⟨tn, htn⟩ : ∃ n, n = tj.length := ⟨_, rfl⟩
        rw [← htn] at d1
        have HTN := Lib.hid htn
        clear hform hrve hrv h0 r1 r2 r3 e0 e1 hlp htn
        go_wp2
        go_region
        all_goals go_wp2
        all_goals go_ret3
        all_goals
          rw [HTN.out]
          exact ran_over rfl ((Slc.imp HRV.out (fun q hq _ => hq.1)).same (Sep.drew _ _)) (hm.same (Sep.drew _ _)) (hin.trans (Sep.drew _ _)) HTL.out R1.out R2.out R3.out
      · obtain rfl : c = _ := (Value.agg.injEq _ _).mp hform
        obtain ⟨d0, d1, d2, d3, d4, d5, d6, df⟩ := cells7 h0
        clear hform h0 r1 r2 r3 e0 e1 hlp
        go_wp2
        go_region
        all_goals go_wp2
        all_goals go_ret3
        all_goals exact ran_left (hm.same (Sep.drew _ _)) (hin.trans (Sep.drew _ _)) HTL.out R1.out R2.out R3.out
end
end Go.Proofs.Ytiljledgoflogaa
