/- Run at programs of no result, of a bool, of a word: its contract over trees. -/
import Derived.Test.YtiljledgoflogaaU
namespace Go.Proofs.Ytiljledgoflogaa
open Go.RowKit
set_option linter.unusedSimpArgs false
set_option linter.unusedVariables false

namespace PT
variable {R : Type}
/-- Up to so many steps of a program: the regions, how many were done, what is left. -/
def run (ci ce : Int) : Nat → List Reg → PT R → List Reg × Nat × PT R
  | 0, L, p => (L, 0, p)
  | m + 1, L, .step A k => if okB L ci ce A.op A.at_ = true then
      ((run ci ce m (doL L ci.toNat A.at_.toNat A.op A.x A.y) (k (peekOf L ci A.at_))).1, (run ci ce m (doL L ci.toNat A.at_.toNat A.op A.x A.y) (k (peekOf L ci A.at_))).2.1 + 1, (run ci ce m (doL L ci.toNat A.at_.toNat A.op A.x A.y) (k (peekOf L ci A.at_))).2.2)
    else (L, 0, .step A k)
  | _, L, p => (L, 0, p)
/-- All words that it stores are words. -/
def Wf : PT R → Prop
  | .step A k => isU A.x ∧ isU A.y ∧ ∀ z, isU z → Wf (k z)
  | _ => True
/-- It is over. -/
def over : PT R → Bool
  | .done _ => true
  | _ => false
theorem run_zero {ci ce : Int} {L : List Reg} {p : PT R} : run ci ce 0 L p = (L, 0, p) := by cases p <;> rfl
theorem run_done {ci ce : Int} {m : Nat} {L : List Reg} {r : R} : run ci ce m L (.done r) = (L, 0, .done r) := by cases m <;> rfl
theorem run_out {ci ce : Int} {m : Nat} {L : List Reg} : run ci ce m L (.out : PT R) = (L, 0, .out) := by cases m <;> rfl
theorem run_yes {ci ce : Int} {m : Nat} {L : List Reg} {A : Acc} {k : Int → PT R} (h : okB L ci ce A.op A.at_ = true) : run ci ce (m + 1) L (.step A k) =
    ((run ci ce m (doL L ci.toNat A.at_.toNat A.op A.x A.y) (k (peekOf L ci A.at_))).1, (run ci ce m (doL L ci.toNat A.at_.toNat A.op A.x A.y) (k (peekOf L ci A.at_))).2.1 + 1, (run ci ce m (doL L ci.toNat A.at_.toNat A.op A.x A.y) (k (peekOf L ci A.at_))).2.2) := by
  simp only [run]; rw [if_pos h]
theorem run_no {ci ce : Int} {m : Nat} {L : List Reg} {A : Acc} {k : Int → PT R} (h : okB L ci ce A.op A.at_ = false) : run ci ce (m + 1) L (.step A k) = (L, 0, .step A k) := by
  simp only [run]; rw [if_neg (by rw [h]; decide)]
end PT

theorem isU_wrap (x : Int) : isU (IntKind.u64.wrap x) := by
  rw [wrap_u64]
  unfold isU
  omega
theorem isU_zero : isU 0 := by unfold isU; omega
theorem Words.doL {L : List Reg} (h : Words L) {op x y : Int} (hx : isU x) (hy : isU y) (i j : Nat) (hi : i < L.length) : Words (doL L i j op x y) := by
  intro a b
  unfold peekOf
  split
  · rename_i hc
    obtain ⟨ha, hb, hj⟩ := hc
    have hlen : (Go.Proofs.Ytiljledgoflogaa.doL L i j op x y).length = L.length := by unfold Go.Proofs.Ytiljledgoflogaa.doL; simp
    rw [hlen] at hb
    have old : ∀ (a : Nat) (c : Nat), a < L.length → isU ((L.getD a default).ws.getD c 0) := fun a c ha => by
      have := h a c
      unfold peekOf at this
      rw [if_pos (by omega)] at this
      simpa using this
    unfold Go.Proofs.Ytiljledgoflogaa.doL
    rw [getD_set L i a.toNat _ (by omega)]
    split
    · show isU ((((L.getD i default).ws.set j _)).getD b.toNat 0)
      simp only [List.getD, List.getElem?_set]
      split
      · split
        · show isU (nextW op _ x y)
          have hw := old i j hi
          simp only [List.getD] at hw ⊢
          unfold nextW
          split
          · exact hx
          · split
            · split
              · exact hy
              · exact hw
            · split
              · exact isU_wrap _
              · exact hw
        · exact isU_zero
      · exact old i b.toNat hi
    · exact old a.toNat b.toNat (by omega)
  · exact isU_zero
theorem ok_lt {L : List Reg} {ci ce op at_ : Int} (hok : okB L ci ce op at_ = true) : ci.toNat < L.length := by
  obtain ⟨i, j, rfl, _, h, _⟩ := ok_parts hok
  simpa using h
theorem sep_chain {S S' : Nat → Prop} {w a b : World} (h : Sep S w a) (k : Sep S' a b) (hs : ∀ k, k < w.heap.size → S' k → S k) : Sep S w b :=
  ⟨k.os.trans h.os, k.tape.trans h.tape, k.output.trans h.output, Nat.le_trans h.size k.size, fun i hi hn => (k.block i (Nat.lt_of_lt_of_le hi h.size) (fun x => hn (hs i hi x))).trans (h.block i hi hn)⟩
theorem two_t (w : World) (T : TypeId) (p c : Array Value) : ∃ W, W = (w.alloc (.cells p T)).alloc (.cells c 33) ∧
    Same w W ∧ W.heap.size = w.heap.size + 2 ∧ W.heap[w.heap.size]? = some (.cells p T) ∧ W.heap[w.heap.size + 1]? = some (.cells c 33) := by
  refine ⟨_, rfl, (Sep.alloc _ _ _).thenAlloc _, by simp, ?_, ?_⟩
  · rw [Below.heap_alloc _ _ _ (by simp)]; exact heap_alloc_new _ _
  · have e : (w.alloc (.cells p T)).heap.size = w.heap.size + 1 := by simp
    rw [← e]; exact heap_alloc_new _ _
theorem two_z (w : World) (T : TypeId) (p c : Array Value) : ∃ W, W = ((w.alloc (.cells p T)).alloc (.cells c 33)).alloc (.cells #[] 63) ∧
    Same w W ∧ W.heap.size = w.heap.size + 3 ∧ W.heap[w.heap.size]? = some (.cells p T) ∧ W.heap[w.heap.size + 1]? = some (.cells c 33) := by
  refine ⟨_, rfl, ((Sep.alloc _ _ _).thenAlloc _).thenAlloc _, by simp, ?_, ?_⟩
  · rw [Below.heap_alloc _ _ _ (by simp; omega), Below.heap_alloc _ _ _ (by simp)]; exact heap_alloc_new _ _
  · rw [Below.heap_alloc _ _ _ (by simp)]
    have e : (w.alloc (.cells p T)).heap.size = w.heap.size + 1 := by simp
    rw [← e]; exact heap_alloc_new _ _
theorem bo0 : byteOfCell Try.prog Try.prog.depth 68 0 = some 0 := by kernel_rfl
theorem bo1 : byteOfCell Try.prog Try.prog.depth 68 1 = some 8 := by kernel_rfl
theorem co68 : Try.prog.cellsOf 68 = 6 := by kernel_rfl
theorem by68 : Try.prog.bytesOf 68 = 48 := by kernel_rfl
/-- The place of a field without cells. -/
theorem part68 {w : World} {b : Nat} {c : Array Value} {f : Nat × Nat} (h : w.heap[b]? = some (.cells c 68 f)) : (partAt ⟨b, 0, none⟩ 1 1).run Try.prog w = .ok ⟨b, 1, some 1⟩ w := by
  have hs : w.shape? b = some (68, c.size) := by simp [World.shape?, h]
  unfold partAt byteOf noView viewAt
  simp [go_sem, hs, bo0, bo1, co68, by68, Result.andThen]
/-- What a run of a program comes to. -/
def RanT {R : Type} (Y : Lay R) (lo hi p cnt : Nat) (F : Nat → Prop) (w : World) (T : List Reg × Nat × PT R) (e : Ending) (w' : World) : Prop :=
  ∃ rc, e = .returned (.tuple #[Y.val rc, .int .i64 T.2.1, .bool T.2.2.over]) ∧ (match T.2.2 with | .done r => Y.rep w' (fun b => Part F w b ∨ w.heap.size ≤ b) rc r | _ => rc = Y.zero) ∧ Mem lo hi w' p T.1 (cnt + T.2.1) ∧ Sep (Near F w lo hi) w w'


/-! ### at N -/
theorem ranDN {lo hi p cnt j : Nat} {F : Nat → Prop} {w w' : World} {T : List Reg × Nat × PT Unit} {Lj : List Reg} {r : Unit} {m : Nat} {ci ce : Int} (hr : layN.rep w' (fun b => Part F w b ∨ w.heap.size ≤ b) [] r) (hm : Mem lo hi w' p Lj (cnt + j)) (hs : Sep (Near F w lo hi) w w')
    (r1 : (PT.run ci ce m Lj (.done r)).1 = T.1) (r2 : j + (PT.run ci ce m Lj (.done r)).2.1 = T.2.1) (r3 : (PT.run ci ce m Lj (.done r)).2.2 = T.2.2) : RanT layN lo hi p cnt F w T (.returned (.tuple #[layN.val [], .int .i64 j, .bool true])) w' := by
  rw [PT.run_done] at r1 r2 r3
  obtain ⟨T1, T2, T3⟩ := T
  dsimp only at r1 r2 r3
  subst r1 r3
  obtain rfl : j = T2 := by omega
  exact ⟨_, rfl, hr, hm, hs⟩
theorem ranZN {lo hi p cnt j : Nat} {F : Nat → Prop} {w w' : World} {T : List Reg × Nat × PT Unit} {Lj : List Reg} {A : Acc} {k : Int → PT Unit} (hm : Mem lo hi w' p Lj (cnt + j)) (hs : Sep (Near F w lo hi) w w')
    (r1 : Lj = T.1) (r2 : j = T.2.1) (r3 : .step A k = T.2.2) : RanT layN lo hi p cnt F w T (.returned (.tuple #[layN.val layN.zero, .int .i64 j, .bool false])) w' := by
  obtain ⟨T1, T2, T3⟩ := T
  dsimp only at r1 r2 r3
  subst r1 r2 r3
  exact ⟨_, rfl, rfl, hm, hs⟩

set_option maxRecDepth 100000 in
set_option maxHeartbeats 2000000 in
theorem runN {lo hi p cnt : Nat} {w : World} {L : List Reg} {F : Nat → Prop} {v : Value} {q : PT Unit} (hm : Mem lo hi w p L cnt) (hq : Is layN q w F v) (ci ce most : Int) (hwf : q.Wf) (hL : Words L) (hc : cnt + most.toNat < 1000000000) (ho : (PT.run ci ce most.toNat L q).2.2 ≠ .out)
    (hFd : ∀ b, b < w.heap.size → F b → ¬ (lo ≤ b ∧ b < hi)) :
    Calls Try.prog 35 #[v, .pointer (some ⟨p, 0, none⟩), .agg #[.int .i64 ci, .int .u64 ce], .int .i64 most] w (RanT layN lo hi p cnt F w (PT.run ci ce most.toNat L q)) := by
  obtain ⟨o, A, nx, rfl, pn⟩ := formN hq.form
  obtain ⟨c, hcc, hcs⟩ : ∃ c : Array Value, c = #[.bool o, .int .i64 A.op, .int .i64 A.at_, .int .u64 A.x, .int .u64 A.y, nx] ∧ c.size = 6 := ⟨_, rfl, rfl⟩
  rw [← hcc] at hq ⊢
  clear hcc pn
  obtain ⟨W, hW, hs0, hsz, h0, h1⟩ := two_z w 68 c #[.int .i64 ci, .int .u64 ce]
  have hle := hm.le
  have hqW : Is layN q W (fun b => Part F w b ∨ w.heap.size + 3 ≤ b) (.agg c) := (hq.keep (Same.keeps hs0)).imp fun b _ hb => .inl hb
  have hmW := hm.same hs0
  have e0 : W.cell? ⟨w.heap.size + 1, 0, none⟩ = some (.int .i64 ci) := by rw [cell_of_heap h1]; rfl
  have e1 : W.cell? ⟨w.heap.size + 1, 1, none⟩ = some (.int .u64 ce) := by rw [cell_of_heap h1]; rfl
  have HW := Lib.hid hW
  have HSZ := Lib.hid hsz
  obtain ⟨T, hT⟩ : ∃ T, T = PT.run ci ce most.toNat L q := ⟨_, rfl⟩
  rw [← hT] at ho ⊢
  have HO := Lib.hid ho
  clear hW hsz h1 hq hm ho
  go_enter Try.func35, Try.ntmps35
  go_wp2_with fail
  rw [← HW.out]
  go_loopw [11] (fun i wr => ∃ (j : Nat) (c : Array Value) (q : PT Unit) (Lj : List Reg), i = .int .i64 j ∧ wr.heap[w.heap.size]? = some (.cells c 68) ∧ Is layN q wr (fun b => Part F w b ∨ w.heap.size + 3 ≤ b) (.agg c) ∧ Mem lo hi wr p Lj (cnt + j) ∧
      wr.cell? ⟨w.heap.size + 1, 0, none⟩ = some (.int .i64 ci) ∧ wr.cell? ⟨w.heap.size + 1, 1, none⟩ = some (.int .u64 ce) ∧ Sep (Near F w lo hi) w wr ∧ w.heap.size + 3 ≤ wr.heap.size ∧ j ≤ most.toNat ∧ q.Wf ∧ Words Lj ∧
      (PT.run ci ce (most.toNat - j) Lj q).1 = T.1 ∧ j + (PT.run ci ce (most.toNat - j) Lj q).2.1 = T.2.1 ∧ (PT.run ci ce (most.toNat - j) Lj q).2.2 = T.2.2) (fun i _ => most.toNat - (intOf i).toNat)
  case atStart => exact ⟨0, c, q, L, rfl, h0, hqW, hmW, e0, e1, hs0.sep _, by rw [HSZ.out]; omega, Nat.zero_le _, hwf, hL, by rw [hT]; rfl, by rw [hT, Nat.zero_add]; rfl, by rw [hT]; rfl⟩
  case round =>
    clear h0 hqW hmW e0 e1 hs0 hT hwf hL hcs
    obtain ⟨j, c, q, Lj, rfl, h0, hq, hm, e0, e1, hin, hge, hcj, hwf, hL, r1, r2, r3⟩ := hrel
    have n0 : ¬ Near (fun b => Part F w b ∨ w.heap.size + 3 ≤ b) wr lo hi w.heap.size := by
      rintro (⟨h | h, _⟩ | h)
      · exact absurd h.2 (by omega)
      · omega
      · omega
    have n1 : ¬ Near (fun b => Part F w b ∨ w.heap.size + 3 ≤ b) wr lo hi (w.heap.size + 1) := by
      rintro (⟨h | h, _⟩ | h)
      · exact absurd h.2 (by omega)
      · omega
      · omega
    have hFd' : ∀ b, b < wr.heap.size → (Part F w b ∨ w.heap.size + 3 ≤ b) → ¬ (lo ≤ b ∧ b < hi) := fun b _ hb => by
      rcases hb with hb | hb
      · exact hFd b hb.2 hb.1
      · omega
    cases q with
    | out =>
      rw [PT.run_out] at r3
      exact absurd r3.symm HO.out
    | done r =>
      obtain ⟨rc, hcv, hr⟩ := id hq
      have hr0 := hr
      obtain rfl : rc = [] := hr
      obtain rfl : c = #[.bool true, .int .i64 0, .int .i64 0, .int .u64 0, .int .u64 0, .nilFunc] := (Value.agg.injEq _ _).mp hcv
      obtain ⟨d0, d1, d2, d3, d4, d5, df⟩ := cells6 h0
      have hrD := layN.imp _ _ (fun b => Part F w b ∨ w.heap.size ≤ b) _ _ hr0 (fun b _ (hb : Part F w b ∨ w.heap.size + 3 ≤ b) => hb.imp id (fun x => by omega))
      have hpt := part68 (w := wr.drew) h0
      have R1 := Lib.hid r1
      have R2 := Lib.hid r2
      have R3 := Lib.hid r3
      have HRD := Lib.hid hrD
      clear hcv h0 r1 r2 r3 e0 e1 hq hr0 hrD n0 n1
      by_cases hjm : (j : Int) < most
      all_goals
        go_wp2
        go_region
        all_goals go_wp2
        all_goals exact bodyPost_ret (v := .tuple #[.agg #[], .int .i64 j, .bool true]) (by simp [results, Try.results35, go_sem]) rfl (ranDN (layN.keep _ _ _ _ _ HRD.out (Same.keeps (Sep.drew _ _))) (hm.same (Sep.drew _ _)) (hin.trans (Sep.drew _ _)) R1.out R2.out R3.out)
    | step A k =>
      obtain ⟨K, caps, hcv, _⟩ := id hq
      obtain rfl : c = #[.bool false, .int .i64 A.op, .int .i64 A.at_, .int .u64 A.x, .int .u64 A.y, .func (.func K) #[] caps] := (Value.agg.injEq _ _).mp hcv
      obtain ⟨d0, d1, d2, d3, d4, d5, df⟩ := cells6 h0
      by_cases hjm : (j : Int) < most
      · rw [show most.toNat - j = (most.toNat - (j + 1)) + 1 by omega] at r1 r2 r3
        have HQ := Lib.hid hq
        have HWF := Lib.hid hwf
        have HLW := Lib.hid hL
        cases hok : okB Lj ci ce A.op A.at_ with
        | false =>
          rw [PT.run_no hok] at r1 r2 r3
          have R1 := Lib.hid r1
          have R2 := Lib.hid r2
          have R3 := Lib.hid r3
          have H0 := Lib.hid h0
          clear hcv h0 r1 r2 r3 hq hwf hL n0 n1
          go_wp2_with fail
          refine (stepNN hm HQ.out ci ce hok).mono ?_
          rintro e w1 ⟨rfl, hs1⟩
          obtain ⟨d0, d1, d2, d3, d4, d5, df⟩ := cells6 (hs1.obj H0.out)
          have a0 := fun o => (Sep.alloc (fun _ => False) w1 o).cell d0 (fun x => x)
          have a1 := fun o => (Sep.alloc (fun _ => False) w1 o).cell d1 (fun x => x)
          have a2 := fun o => (Sep.alloc (fun _ => False) w1 o).cell d2 (fun x => x)
          have a3 := fun o => (Sep.alloc (fun _ => False) w1 o).cell d3 (fun x => x)
          have a4 := fun o => (Sep.alloc (fun _ => False) w1 o).cell d4 (fun x => x)
          have a5 := fun o => (Sep.alloc (fun _ => False) w1 o).cell d5 (fun x => x)
          have hpt := fun o => part68 (w := (w1.alloc o).drew) ((Sep.alloc (fun _ => False) w1 o).obj (Same.obj hs1 H0.out) (fun x => x))
          have hm1 := hm.same hs1
          have hin1 : Sep (Near F w lo hi) w w1 := hin.trans (hs1.sep _)
          clear hm hin hs1 hok
          go_wp2
          go_region
          all_goals go_wp2
          all_goals exact bodyPost_ret (v := .tuple #[.agg #[], .int .i64 j, .bool false]) (by simp [results, Try.results35, go_sem]) rfl (ranZN ((hm1.same (Sep.alloc _ _ _)).same (Sep.drew _ _)) ((hin1.trans (Sep.alloc _ _ _)).trans (Sep.drew _ _)) R1.out R2.out R3.out)
        | true =>
          have hlen := ok_lt hok
          rw [PT.run_yes hok] at r1 r2 r3
          have R1 := Lib.hid r1
          have R2 := Lib.hid r2
          have R3 := Lib.hid r3
          have H0 := Lib.hid h0
          clear hcv h0 r1 r2 r3 hq hwf hL
          go_wp2_with fail
          refine (stepYN hm HQ.out ci ce hok (by omega) (HLW.out _ _) hFd').mono ?_
          rintro e w1 ⟨v1, rfl, hi1, hm1, hs1⟩
          have hok0 : Words (doL Lj ci.toNat A.at_.toNat A.op A.x A.y) := HLW.out.doL HWF.out.1 HWF.out.2.1 _ _ hlen
          have hwf1 := HWF.out.2.2 _ (HLW.out ci A.at_)
          obtain ⟨q1, hq1⟩ : ∃ q1, q1 = k (peekOf Lj ci A.at_) := ⟨_, rfl⟩
          obtain ⟨L1, hL1⟩ : ∃ L1, L1 = doL Lj ci.toNat A.at_.toNat A.op A.x A.y := ⟨_, rfl⟩
          rw [← hq1] at hi1 R1 R2 R3 hwf1
          rw [← hL1] at hm1 R1 R2 R3 hok0
          have h01 := Sep.obj hs1 H0.out n0
          obtain ⟨d0, d1, d2, d3, d4, d5, df⟩ := cells6 h01
          have a0 := fun o => (Sep.alloc (fun _ => False) w1 o).cell d0 (fun x => x)
          have a1 := fun o => (Sep.alloc (fun _ => False) w1 o).cell d1 (fun x => x)
          have a2 := fun o => (Sep.alloc (fun _ => False) w1 o).cell d2 (fun x => x)
          have a3 := fun o => (Sep.alloc (fun _ => False) w1 o).cell d3 (fun x => x)
          have a4 := fun o => (Sep.alloc (fun _ => False) w1 o).cell d4 (fun x => x)
          have a5 := fun o => (Sep.alloc (fun _ => False) w1 o).cell d5 (fun x => x)
          have af : ∀ o j, (w1.alloc o).frozen? ⟨w.heap.size, j, none⟩ = false := fun o j => free_of_heap ((Sep.alloc (fun _ => False) w1 o).obj h01 (fun x => x))
          have e0' := Sep.cell hs1 e0 n1
          have e1' := Sep.cell hs1 e1 n1
          have hin1 : Sep (Near F w lo hi) w w1 := sep_chain hin hs1 (fun b hb h => by
            rcases h with ⟨h | h, _⟩ | h
            · exact .inl h
            · omega
            · exact .inr h)
          have hge1 : w.heap.size + 3 ≤ w1.heap.size := Nat.le_trans hge hs1.size
          have HI1 : Hid (Is layN q1 w1 (fun b => Part F w b ∨ w.heap.size + 3 ≤ b) v1) := Lib.hid (hi1.imp fun b _ hb => by
            rcases hb with hb | hb
            · exact hb.1
            · exact .inr (by omega))
          have H01 := Lib.hid h01
          have HWF1 := Lib.hid hwf1
          have HOK0 := Lib.hid hok0
          obtain ⟨o2, A2, nx2, rfl, pn⟩ := formN hi1.form
          unfold Plain at *
          clear hm hin hs1 hok h01 hi1 e0 e1 hwf1 hok0 hq1 hL1 n0 n1 hFd'
          go_wp2
          go_roundw
          case rel =>
            have ha := Sep.alloc (fun _ => False) w1 (.cells #[.bool o2, .int .i64 A2.op, .int .i64 A2.at_, .int .u64 A2.x, .int .u64 A2.y, nx2] 68)
            have h7 := sep6 (w1.alloc (.cells #[.bool o2, .int .i64 A2.op, .int .i64 A2.at_, .int .u64 A2.x, .int .u64 A2.y, nx2] 68)) w.heap.size (.bool o2) (.int .i64 A2.op) (.int .i64 A2.at_) (.int .u64 A2.x) (.int .u64 A2.y) (nx2)
            refine ⟨j + 1, _, q1, L1, by go_num, heap6 (ha.obj H01.out (fun x => x)) rfl, (((HI1.out.same ha).keep (Sep.keeps h7 (fun b _ hb e => by subst e; rcases hb with hb | hb; exact absurd hb.2 (by omega); omega))).imp fun b _ hb => hb.1), (hm1.same ha).stay h7 (fun q h1 h2 h3 => by omega), h7.cell (ha.cell e0' (fun x => x)) (show ¬ (w.heap.size + 1 = w.heap.size) by omega), h7.cell (ha.cell e1' (fun x => x)) (show ¬ (w.heap.size + 1 = w.heap.size) by omega), sep_then (hin1.trans (Same.sep ha _)) (Nat.le_refl _) h7, Nat.le_trans hge1 (Nat.le_trans ha.size h7.size), by omega, HWF1.out, HOK0.out, R1.out, ?_, R3.out⟩
            have := R2.out
            try dsimp only at this
            omega
          case measure => simp [intOf]; omega
      · rw [show most.toNat - j = 0 by omega, PT.run_zero] at r1 r2 r3
        have R1 := Lib.hid r1
        have R2 := Lib.hid r2
        have R3 := Lib.hid r3
        have hpt := part68 (w := wr.drew) h0
        clear hcv h0 r1 r2 r3 e0 e1 hq hwf hL n0 n1
        go_wp2
        go_region
        all_goals go_wp2
        all_goals exact bodyPost_ret (v := .tuple #[.agg #[], .int .i64 j, .bool false]) (by simp [results, Try.results35, go_sem]) rfl (ranZN (hm.same (Sep.drew _ _)) (hin.trans (Sep.drew _ _)) R1.out R2.out R3.out)


/-! ### at B -/
theorem ranDB {lo hi p cnt j : Nat} {F : Nat → Prop} {w w' : World} {T : List Reg × Nat × PT Bool} {Lj : List Reg} {r : Bool} {m : Nat} {ci ce : Int} (hr : layB.rep w' (fun b => Part F w b ∨ w.heap.size ≤ b) [.bool r] r) (hm : Mem lo hi w' p Lj (cnt + j)) (hs : Sep (Near F w lo hi) w w')
    (r1 : (PT.run ci ce m Lj (.done r)).1 = T.1) (r2 : j + (PT.run ci ce m Lj (.done r)).2.1 = T.2.1) (r3 : (PT.run ci ce m Lj (.done r)).2.2 = T.2.2) : RanT layB lo hi p cnt F w T (.returned (.tuple #[layB.val [.bool r], .int .i64 j, .bool true])) w' := by
  rw [PT.run_done] at r1 r2 r3
  obtain ⟨T1, T2, T3⟩ := T
  dsimp only at r1 r2 r3
  subst r1 r3
  obtain rfl : j = T2 := by omega
  exact ⟨_, rfl, hr, hm, hs⟩
theorem ranZB {lo hi p cnt j : Nat} {F : Nat → Prop} {w w' : World} {T : List Reg × Nat × PT Bool} {Lj : List Reg} {A : Acc} {k : Int → PT Bool} (hm : Mem lo hi w' p Lj (cnt + j)) (hs : Sep (Near F w lo hi) w w')
    (r1 : Lj = T.1) (r2 : j = T.2.1) (r3 : .step A k = T.2.2) : RanT layB lo hi p cnt F w T (.returned (.tuple #[layB.val layB.zero, .int .i64 j, .bool false])) w' := by
  obtain ⟨T1, T2, T3⟩ := T
  dsimp only at r1 r2 r3
  subst r1 r2 r3
  exact ⟨_, rfl, rfl, hm, hs⟩

set_option maxRecDepth 100000 in
set_option maxHeartbeats 2000000 in
theorem runB {lo hi p cnt : Nat} {w : World} {L : List Reg} {F : Nat → Prop} {v : Value} {q : PT Bool} (hm : Mem lo hi w p L cnt) (hq : Is layB q w F v) (ci ce most : Int) (hwf : q.Wf) (hL : Words L) (hc : cnt + most.toNat < 1000000000) (ho : (PT.run ci ce most.toNat L q).2.2 ≠ .out)
    (hFd : ∀ b, b < w.heap.size → F b → ¬ (lo ≤ b ∧ b < hi)) :
    Calls Try.prog 37 #[v, .pointer (some ⟨p, 0, none⟩), .agg #[.int .i64 ci, .int .u64 ce], .int .i64 most] w (RanT layB lo hi p cnt F w (PT.run ci ce most.toNat L q)) := by
  obtain ⟨o, r0, A, nx, rfl, pr0, pn⟩ := formB hq.form
  obtain ⟨c, hcc, hcs⟩ : ∃ c : Array Value, c = #[.bool o, r0, .int .i64 A.op, .int .i64 A.at_, .int .u64 A.x, .int .u64 A.y, nx] ∧ c.size = 7 := ⟨_, rfl, rfl⟩
  rw [← hcc] at hq ⊢
  clear hcc pn
  obtain ⟨W, hW, hs0, hsz, h0, h1⟩ := two_t w 74 c #[.int .i64 ci, .int .u64 ce]
  have hle := hm.le
  have hqW : Is layB q W (fun b => Part F w b ∨ w.heap.size + 2 ≤ b) (.agg c) := (hq.keep (Same.keeps hs0)).imp fun b _ hb => .inl hb
  have hmW := hm.same hs0
  have e0 : W.cell? ⟨w.heap.size + 1, 0, none⟩ = some (.int .i64 ci) := by rw [cell_of_heap h1]; rfl
  have e1 : W.cell? ⟨w.heap.size + 1, 1, none⟩ = some (.int .u64 ce) := by rw [cell_of_heap h1]; rfl
  have HW := Lib.hid hW
  have HSZ := Lib.hid hsz
  obtain ⟨T, hT⟩ : ∃ T, T = PT.run ci ce most.toNat L q := ⟨_, rfl⟩
  rw [← hT] at ho ⊢
  have HO := Lib.hid ho
  clear hW hsz h1 hq hm ho
  go_enter Try.func37, Try.ntmps37
  go_wp2_with fail
  rw [← HW.out]
  go_loopw [11] (fun i wr => ∃ (j : Nat) (c : Array Value) (q : PT Bool) (Lj : List Reg), i = .int .i64 j ∧ wr.heap[w.heap.size]? = some (.cells c 74) ∧ Is layB q wr (fun b => Part F w b ∨ w.heap.size + 2 ≤ b) (.agg c) ∧ Mem lo hi wr p Lj (cnt + j) ∧
      wr.cell? ⟨w.heap.size + 1, 0, none⟩ = some (.int .i64 ci) ∧ wr.cell? ⟨w.heap.size + 1, 1, none⟩ = some (.int .u64 ce) ∧ Sep (Near F w lo hi) w wr ∧ w.heap.size + 2 ≤ wr.heap.size ∧ j ≤ most.toNat ∧ q.Wf ∧ Words Lj ∧
      (PT.run ci ce (most.toNat - j) Lj q).1 = T.1 ∧ j + (PT.run ci ce (most.toNat - j) Lj q).2.1 = T.2.1 ∧ (PT.run ci ce (most.toNat - j) Lj q).2.2 = T.2.2) (fun i _ => most.toNat - (intOf i).toNat)
  case atStart => exact ⟨0, c, q, L, rfl, h0, hqW, hmW, e0, e1, hs0.sep _, by rw [HSZ.out]; omega, Nat.zero_le _, hwf, hL, by rw [hT]; rfl, by rw [hT, Nat.zero_add]; rfl, by rw [hT]; rfl⟩
  case round =>
    clear h0 hqW hmW e0 e1 hs0 hT hwf hL hcs
    obtain ⟨j, c, q, Lj, rfl, h0, hq, hm, e0, e1, hin, hge, hcj, hwf, hL, r1, r2, r3⟩ := hrel
    have n0 : ¬ Near (fun b => Part F w b ∨ w.heap.size + 2 ≤ b) wr lo hi w.heap.size := by
      rintro (⟨h | h, _⟩ | h)
      · exact absurd h.2 (by omega)
      · omega
      · omega
    have n1 : ¬ Near (fun b => Part F w b ∨ w.heap.size + 2 ≤ b) wr lo hi (w.heap.size + 1) := by
      rintro (⟨h | h, _⟩ | h)
      · exact absurd h.2 (by omega)
      · omega
      · omega
    have hFd' : ∀ b, b < wr.heap.size → (Part F w b ∨ w.heap.size + 2 ≤ b) → ¬ (lo ≤ b ∧ b < hi) := fun b _ hb => by
      rcases hb with hb | hb
      · exact hFd b hb.2 hb.1
      · omega
    cases q with
    | out =>
      rw [PT.run_out] at r3
      exact absurd r3.symm HO.out
    | done r =>
      obtain ⟨rc, hcv, hr⟩ := id hq
      have hr0 := hr
      obtain rfl : rc = [.bool r] := hr
      obtain rfl : c = #[.bool true, .bool r, .int .i64 0, .int .i64 0, .int .u64 0, .int .u64 0, .nilFunc] := (Value.agg.injEq _ _).mp hcv
      obtain ⟨d0, d1, d2, d3, d4, d5, d6, df⟩ := cells7 h0
      have hrD := layB.imp _ _ (fun b => Part F w b ∨ w.heap.size ≤ b) _ _ hr0 (fun b _ (hb : Part F w b ∨ w.heap.size + 2 ≤ b) => hb.imp id (fun x => by omega))
      have R1 := Lib.hid r1
      have R2 := Lib.hid r2
      have R3 := Lib.hid r3
      have HRD := Lib.hid hrD
      clear hcv h0 r1 r2 r3 e0 e1 hq hr0 hrD n0 n1
      by_cases hjm : (j : Int) < most
      all_goals
        go_wp2
        go_region
        all_goals go_wp2
        all_goals go_ret3; exact (ranDB (layB.keep _ _ _ _ _ HRD.out (Same.keeps (Sep.drew _ _))) (hm.same (Sep.drew _ _)) (hin.trans (Sep.drew _ _)) R1.out R2.out R3.out)
    | step A k =>
      obtain ⟨K, caps, hcv, _⟩ := id hq
      obtain rfl : c = #[.bool false, .bool false, .int .i64 A.op, .int .i64 A.at_, .int .u64 A.x, .int .u64 A.y, .func (.func K) #[] caps] := (Value.agg.injEq _ _).mp hcv
      obtain ⟨d0, d1, d2, d3, d4, d5, d6, df⟩ := cells7 h0
      by_cases hjm : (j : Int) < most
      · rw [show most.toNat - j = (most.toNat - (j + 1)) + 1 by omega] at r1 r2 r3
        have HQ := Lib.hid hq
        have HWF := Lib.hid hwf
        have HLW := Lib.hid hL
        cases hok : okB Lj ci ce A.op A.at_ with
        | false =>
          rw [PT.run_no hok] at r1 r2 r3
          have R1 := Lib.hid r1
          have R2 := Lib.hid r2
          have R3 := Lib.hid r3
          have H0 := Lib.hid h0
          clear hcv h0 r1 r2 r3 hq hwf hL n0 n1
          go_wp2_with fail
          refine (stepNB hm HQ.out ci ce hok).mono ?_
          rintro e w1 ⟨rfl, hs1⟩
          obtain ⟨d0, d1, d2, d3, d4, d5, d6, df⟩ := cells7 (hs1.obj H0.out)
          have a0 := fun o => (Sep.alloc (fun _ => False) w1 o).cell d0 (fun x => x)
          have a1 := fun o => (Sep.alloc (fun _ => False) w1 o).cell d1 (fun x => x)
          have a2 := fun o => (Sep.alloc (fun _ => False) w1 o).cell d2 (fun x => x)
          have a3 := fun o => (Sep.alloc (fun _ => False) w1 o).cell d3 (fun x => x)
          have a4 := fun o => (Sep.alloc (fun _ => False) w1 o).cell d4 (fun x => x)
          have a5 := fun o => (Sep.alloc (fun _ => False) w1 o).cell d5 (fun x => x)
          have a6 := fun o => (Sep.alloc (fun _ => False) w1 o).cell d6 (fun x => x)
          have hm1 := hm.same hs1
          have hin1 : Sep (Near F w lo hi) w w1 := hin.trans (hs1.sep _)
          clear hm hin hs1 hok
          go_wp2
          go_region
          all_goals go_wp2
          all_goals go_ret3; exact (ranZB ((hm1.same (Sep.alloc _ _ _)).same (Sep.drew _ _)) ((hin1.trans (Sep.alloc _ _ _)).trans (Sep.drew _ _)) R1.out R2.out R3.out)
        | true =>
          have hlen := ok_lt hok
          rw [PT.run_yes hok] at r1 r2 r3
          have R1 := Lib.hid r1
          have R2 := Lib.hid r2
          have R3 := Lib.hid r3
          have H0 := Lib.hid h0
          clear hcv h0 r1 r2 r3 hq hwf hL
          go_wp2_with fail
          refine (stepYB hm HQ.out ci ce hok (by omega) (HLW.out _ _) hFd').mono ?_
          rintro e w1 ⟨v1, rfl, hi1, hm1, hs1⟩
          have hok0 : Words (doL Lj ci.toNat A.at_.toNat A.op A.x A.y) := HLW.out.doL HWF.out.1 HWF.out.2.1 _ _ hlen
          have hwf1 := HWF.out.2.2 _ (HLW.out ci A.at_)
          obtain ⟨q1, hq1⟩ : ∃ q1, q1 = k (peekOf Lj ci A.at_) := ⟨_, rfl⟩
          obtain ⟨L1, hL1⟩ : ∃ L1, L1 = doL Lj ci.toNat A.at_.toNat A.op A.x A.y := ⟨_, rfl⟩
          rw [← hq1] at hi1 R1 R2 R3 hwf1
          rw [← hL1] at hm1 R1 R2 R3 hok0
          have h01 := Sep.obj hs1 H0.out n0
          obtain ⟨d0, d1, d2, d3, d4, d5, d6, df⟩ := cells7 h01
          have a0 := fun o => (Sep.alloc (fun _ => False) w1 o).cell d0 (fun x => x)
          have a1 := fun o => (Sep.alloc (fun _ => False) w1 o).cell d1 (fun x => x)
          have a2 := fun o => (Sep.alloc (fun _ => False) w1 o).cell d2 (fun x => x)
          have a3 := fun o => (Sep.alloc (fun _ => False) w1 o).cell d3 (fun x => x)
          have a4 := fun o => (Sep.alloc (fun _ => False) w1 o).cell d4 (fun x => x)
          have a5 := fun o => (Sep.alloc (fun _ => False) w1 o).cell d5 (fun x => x)
          have a6 := fun o => (Sep.alloc (fun _ => False) w1 o).cell d6 (fun x => x)
          have af : ∀ o j, (w1.alloc o).frozen? ⟨w.heap.size, j, none⟩ = false := fun o j => free_of_heap ((Sep.alloc (fun _ => False) w1 o).obj h01 (fun x => x))
          have e0' := Sep.cell hs1 e0 n1
          have e1' := Sep.cell hs1 e1 n1
          have hin1 : Sep (Near F w lo hi) w w1 := sep_chain hin hs1 (fun b hb h => by
            rcases h with ⟨h | h, _⟩ | h
            · exact .inl h
            · omega
            · exact .inr h)
          have hge1 : w.heap.size + 2 ≤ w1.heap.size := Nat.le_trans hge hs1.size
          have HI1 : Hid (Is layB q1 w1 (fun b => Part F w b ∨ w.heap.size + 2 ≤ b) v1) := Lib.hid (hi1.imp fun b _ hb => by
            rcases hb with hb | hb
            · exact hb.1
            · exact .inr (by omega))
          have H01 := Lib.hid h01
          have HWF1 := Lib.hid hwf1
          have HOK0 := Lib.hid hok0
          obtain ⟨o2, r0, A2, nx2, rfl, pr0, pn⟩ := formB hi1.form
          unfold Plain at *
          clear hm hin hs1 hok h01 hi1 e0 e1 hwf1 hok0 hq1 hL1 n0 n1 hFd'
          go_wp2
          go_roundw
          case rel =>
            have ha := Sep.alloc (fun _ => False) w1 (.cells #[.bool o2, r0, .int .i64 A2.op, .int .i64 A2.at_, .int .u64 A2.x, .int .u64 A2.y, nx2] 74)
            have h7 := sep7 (w1.alloc (.cells #[.bool o2, r0, .int .i64 A2.op, .int .i64 A2.at_, .int .u64 A2.x, .int .u64 A2.y, nx2] 74)) w.heap.size (.bool o2) (r0) (.int .i64 A2.op) (.int .i64 A2.at_) (.int .u64 A2.x) (.int .u64 A2.y) (nx2)
            refine ⟨j + 1, _, q1, L1, by go_num, heap7 (ha.obj H01.out (fun x => x)) rfl, (((HI1.out.same ha).keep (Sep.keeps h7 (fun b _ hb e => by subst e; rcases hb with hb | hb; exact absurd hb.2 (by omega); omega))).imp fun b _ hb => hb.1), (hm1.same ha).stay h7 (fun q h1 h2 h3 => by omega), h7.cell (ha.cell e0' (fun x => x)) (show ¬ (w.heap.size + 1 = w.heap.size) by omega), h7.cell (ha.cell e1' (fun x => x)) (show ¬ (w.heap.size + 1 = w.heap.size) by omega), sep_then (hin1.trans (Same.sep ha _)) (Nat.le_refl _) h7, Nat.le_trans hge1 (Nat.le_trans ha.size h7.size), by omega, HWF1.out, HOK0.out, R1.out, ?_, R3.out⟩
            have := R2.out
            try dsimp only at this
            omega
          case measure => simp [intOf]; omega
      · rw [show most.toNat - j = 0 by omega, PT.run_zero] at r1 r2 r3
        have R1 := Lib.hid r1
        have R2 := Lib.hid r2
        have R3 := Lib.hid r3
        clear hcv h0 r1 r2 r3 e0 e1 hq hwf hL n0 n1
        go_wp2
        go_region
        all_goals go_wp2
        all_goals go_ret3; exact (ranZB (hm.same (Sep.drew _ _)) (hin.trans (Sep.drew _ _)) R1.out R2.out R3.out)


/-! ### at U -/
theorem ranDU {lo hi p cnt j : Nat} {F : Nat → Prop} {w w' : World} {T : List Reg × Nat × PT Int} {Lj : List Reg} {r : Int} {m : Nat} {ci ce : Int} (hr : layU.rep w' (fun b => Part F w b ∨ w.heap.size ≤ b) [.int .u64 r] r) (hm : Mem lo hi w' p Lj (cnt + j)) (hs : Sep (Near F w lo hi) w w')
    (r1 : (PT.run ci ce m Lj (.done r)).1 = T.1) (r2 : j + (PT.run ci ce m Lj (.done r)).2.1 = T.2.1) (r3 : (PT.run ci ce m Lj (.done r)).2.2 = T.2.2) : RanT layU lo hi p cnt F w T (.returned (.tuple #[layU.val [.int .u64 r], .int .i64 j, .bool true])) w' := by
  rw [PT.run_done] at r1 r2 r3
  obtain ⟨T1, T2, T3⟩ := T
  dsimp only at r1 r2 r3
  subst r1 r3
  obtain rfl : j = T2 := by omega
  exact ⟨_, rfl, hr, hm, hs⟩
theorem ranZU {lo hi p cnt j : Nat} {F : Nat → Prop} {w w' : World} {T : List Reg × Nat × PT Int} {Lj : List Reg} {A : Acc} {k : Int → PT Int} (hm : Mem lo hi w' p Lj (cnt + j)) (hs : Sep (Near F w lo hi) w w')
    (r1 : Lj = T.1) (r2 : j = T.2.1) (r3 : .step A k = T.2.2) : RanT layU lo hi p cnt F w T (.returned (.tuple #[layU.val layU.zero, .int .i64 j, .bool false])) w' := by
  obtain ⟨T1, T2, T3⟩ := T
  dsimp only at r1 r2 r3
  subst r1 r2 r3
  exact ⟨_, rfl, rfl, hm, hs⟩

set_option maxRecDepth 100000 in
set_option maxHeartbeats 2000000 in
theorem runU {lo hi p cnt : Nat} {w : World} {L : List Reg} {F : Nat → Prop} {v : Value} {q : PT Int} (hm : Mem lo hi w p L cnt) (hq : Is layU q w F v) (ci ce most : Int) (hwf : q.Wf) (hL : Words L) (hc : cnt + most.toNat < 1000000000) (ho : (PT.run ci ce most.toNat L q).2.2 ≠ .out)
    (hFd : ∀ b, b < w.heap.size → F b → ¬ (lo ≤ b ∧ b < hi)) :
    Calls Try.prog 39 #[v, .pointer (some ⟨p, 0, none⟩), .agg #[.int .i64 ci, .int .u64 ce], .int .i64 most] w (RanT layU lo hi p cnt F w (PT.run ci ce most.toNat L q)) := by
  obtain ⟨o, r0, A, nx, rfl, pr0, pn⟩ := formU hq.form
  obtain ⟨c, hcc, hcs⟩ : ∃ c : Array Value, c = #[.bool o, r0, .int .i64 A.op, .int .i64 A.at_, .int .u64 A.x, .int .u64 A.y, nx] ∧ c.size = 7 := ⟨_, rfl, rfl⟩
  rw [← hcc] at hq ⊢
  clear hcc pn
  obtain ⟨W, hW, hs0, hsz, h0, h1⟩ := two_t w 80 c #[.int .i64 ci, .int .u64 ce]
  have hle := hm.le
  have hqW : Is layU q W (fun b => Part F w b ∨ w.heap.size + 2 ≤ b) (.agg c) := (hq.keep (Same.keeps hs0)).imp fun b _ hb => .inl hb
  have hmW := hm.same hs0
  have e0 : W.cell? ⟨w.heap.size + 1, 0, none⟩ = some (.int .i64 ci) := by rw [cell_of_heap h1]; rfl
  have e1 : W.cell? ⟨w.heap.size + 1, 1, none⟩ = some (.int .u64 ce) := by rw [cell_of_heap h1]; rfl
  have HW := Lib.hid hW
  have HSZ := Lib.hid hsz
  obtain ⟨T, hT⟩ : ∃ T, T = PT.run ci ce most.toNat L q := ⟨_, rfl⟩
  rw [← hT] at ho ⊢
  have HO := Lib.hid ho
  clear hW hsz h1 hq hm ho
  go_enter Try.func39, Try.ntmps39
  go_wp2_with fail
  rw [← HW.out]
  go_loopw [11] (fun i wr => ∃ (j : Nat) (c : Array Value) (q : PT Int) (Lj : List Reg), i = .int .i64 j ∧ wr.heap[w.heap.size]? = some (.cells c 80) ∧ Is layU q wr (fun b => Part F w b ∨ w.heap.size + 2 ≤ b) (.agg c) ∧ Mem lo hi wr p Lj (cnt + j) ∧
      wr.cell? ⟨w.heap.size + 1, 0, none⟩ = some (.int .i64 ci) ∧ wr.cell? ⟨w.heap.size + 1, 1, none⟩ = some (.int .u64 ce) ∧ Sep (Near F w lo hi) w wr ∧ w.heap.size + 2 ≤ wr.heap.size ∧ j ≤ most.toNat ∧ q.Wf ∧ Words Lj ∧
      (PT.run ci ce (most.toNat - j) Lj q).1 = T.1 ∧ j + (PT.run ci ce (most.toNat - j) Lj q).2.1 = T.2.1 ∧ (PT.run ci ce (most.toNat - j) Lj q).2.2 = T.2.2) (fun i _ => most.toNat - (intOf i).toNat)
  case atStart => exact ⟨0, c, q, L, rfl, h0, hqW, hmW, e0, e1, hs0.sep _, by rw [HSZ.out]; omega, Nat.zero_le _, hwf, hL, by rw [hT]; rfl, by rw [hT, Nat.zero_add]; rfl, by rw [hT]; rfl⟩
  case round =>
    clear h0 hqW hmW e0 e1 hs0 hT hwf hL hcs
    obtain ⟨j, c, q, Lj, rfl, h0, hq, hm, e0, e1, hin, hge, hcj, hwf, hL, r1, r2, r3⟩ := hrel
    have n0 : ¬ Near (fun b => Part F w b ∨ w.heap.size + 2 ≤ b) wr lo hi w.heap.size := by
      rintro (⟨h | h, _⟩ | h)
      · exact absurd h.2 (by omega)
      · omega
      · omega
    have n1 : ¬ Near (fun b => Part F w b ∨ w.heap.size + 2 ≤ b) wr lo hi (w.heap.size + 1) := by
      rintro (⟨h | h, _⟩ | h)
      · exact absurd h.2 (by omega)
      · omega
      · omega
    have hFd' : ∀ b, b < wr.heap.size → (Part F w b ∨ w.heap.size + 2 ≤ b) → ¬ (lo ≤ b ∧ b < hi) := fun b _ hb => by
      rcases hb with hb | hb
      · exact hFd b hb.2 hb.1
      · omega
    cases q with
    | out =>
      rw [PT.run_out] at r3
      exact absurd r3.symm HO.out
    | done r =>
      obtain ⟨rc, hcv, hr⟩ := id hq
      have hr0 := hr
      obtain ⟨rfl, hru⟩ : rc = [.int .u64 r] ∧ isU r := hr
      obtain rfl : c = #[.bool true, .int .u64 r, .int .i64 0, .int .i64 0, .int .u64 0, .int .u64 0, .nilFunc] := (Value.agg.injEq _ _).mp hcv
      obtain ⟨d0, d1, d2, d3, d4, d5, d6, df⟩ := cells7 h0
      have hrD := layU.imp _ _ (fun b => Part F w b ∨ w.heap.size ≤ b) _ _ hr0 (fun b _ (hb : Part F w b ∨ w.heap.size + 2 ≤ b) => hb.imp id (fun x => by omega))
      have R1 := Lib.hid r1
      have R2 := Lib.hid r2
      have R3 := Lib.hid r3
      have HRD := Lib.hid hrD
      clear hcv h0 r1 r2 r3 e0 e1 hq hr0 hrD n0 n1
      by_cases hjm : (j : Int) < most
      all_goals
        go_wp2
        go_region
        all_goals go_wp2
        all_goals go_ret3; exact (ranDU (layU.keep _ _ _ _ _ HRD.out (Same.keeps (Sep.drew _ _))) (hm.same (Sep.drew _ _)) (hin.trans (Sep.drew _ _)) R1.out R2.out R3.out)
    | step A k =>
      obtain ⟨K, caps, hcv, _⟩ := id hq
      obtain rfl : c = #[.bool false, .int .u64 0, .int .i64 A.op, .int .i64 A.at_, .int .u64 A.x, .int .u64 A.y, .func (.func K) #[] caps] := (Value.agg.injEq _ _).mp hcv
      obtain ⟨d0, d1, d2, d3, d4, d5, d6, df⟩ := cells7 h0
      by_cases hjm : (j : Int) < most
      · rw [show most.toNat - j = (most.toNat - (j + 1)) + 1 by omega] at r1 r2 r3
        have HQ := Lib.hid hq
        have HWF := Lib.hid hwf
        have HLW := Lib.hid hL
        cases hok : okB Lj ci ce A.op A.at_ with
        | false =>
          rw [PT.run_no hok] at r1 r2 r3
          have R1 := Lib.hid r1
          have R2 := Lib.hid r2
          have R3 := Lib.hid r3
          have H0 := Lib.hid h0
          clear hcv h0 r1 r2 r3 hq hwf hL n0 n1
          go_wp2_with fail
          refine (stepNU hm HQ.out ci ce hok).mono ?_
          rintro e w1 ⟨rfl, hs1⟩
          obtain ⟨d0, d1, d2, d3, d4, d5, d6, df⟩ := cells7 (hs1.obj H0.out)
          have a0 := fun o => (Sep.alloc (fun _ => False) w1 o).cell d0 (fun x => x)
          have a1 := fun o => (Sep.alloc (fun _ => False) w1 o).cell d1 (fun x => x)
          have a2 := fun o => (Sep.alloc (fun _ => False) w1 o).cell d2 (fun x => x)
          have a3 := fun o => (Sep.alloc (fun _ => False) w1 o).cell d3 (fun x => x)
          have a4 := fun o => (Sep.alloc (fun _ => False) w1 o).cell d4 (fun x => x)
          have a5 := fun o => (Sep.alloc (fun _ => False) w1 o).cell d5 (fun x => x)
          have a6 := fun o => (Sep.alloc (fun _ => False) w1 o).cell d6 (fun x => x)
          have hm1 := hm.same hs1
          have hin1 : Sep (Near F w lo hi) w w1 := hin.trans (hs1.sep _)
          clear hm hin hs1 hok
          go_wp2
          go_region
          all_goals go_wp2
          all_goals go_ret3; exact (ranZU ((hm1.same (Sep.alloc _ _ _)).same (Sep.drew _ _)) ((hin1.trans (Sep.alloc _ _ _)).trans (Sep.drew _ _)) R1.out R2.out R3.out)
        | true =>
          have hlen := ok_lt hok
          rw [PT.run_yes hok] at r1 r2 r3
          have R1 := Lib.hid r1
          have R2 := Lib.hid r2
          have R3 := Lib.hid r3
          have H0 := Lib.hid h0
          clear hcv h0 r1 r2 r3 hq hwf hL
          go_wp2_with fail
          refine (stepYU hm HQ.out ci ce hok (by omega) (HLW.out _ _) hFd').mono ?_
          rintro e w1 ⟨v1, rfl, hi1, hm1, hs1⟩
          have hok0 : Words (doL Lj ci.toNat A.at_.toNat A.op A.x A.y) := HLW.out.doL HWF.out.1 HWF.out.2.1 _ _ hlen
          have hwf1 := HWF.out.2.2 _ (HLW.out ci A.at_)
          obtain ⟨q1, hq1⟩ : ∃ q1, q1 = k (peekOf Lj ci A.at_) := ⟨_, rfl⟩
          obtain ⟨L1, hL1⟩ : ∃ L1, L1 = doL Lj ci.toNat A.at_.toNat A.op A.x A.y := ⟨_, rfl⟩
          rw [← hq1] at hi1 R1 R2 R3 hwf1
          rw [← hL1] at hm1 R1 R2 R3 hok0
          have h01 := Sep.obj hs1 H0.out n0
          obtain ⟨d0, d1, d2, d3, d4, d5, d6, df⟩ := cells7 h01
          have a0 := fun o => (Sep.alloc (fun _ => False) w1 o).cell d0 (fun x => x)
          have a1 := fun o => (Sep.alloc (fun _ => False) w1 o).cell d1 (fun x => x)
          have a2 := fun o => (Sep.alloc (fun _ => False) w1 o).cell d2 (fun x => x)
          have a3 := fun o => (Sep.alloc (fun _ => False) w1 o).cell d3 (fun x => x)
          have a4 := fun o => (Sep.alloc (fun _ => False) w1 o).cell d4 (fun x => x)
          have a5 := fun o => (Sep.alloc (fun _ => False) w1 o).cell d5 (fun x => x)
          have a6 := fun o => (Sep.alloc (fun _ => False) w1 o).cell d6 (fun x => x)
          have af : ∀ o j, (w1.alloc o).frozen? ⟨w.heap.size, j, none⟩ = false := fun o j => free_of_heap ((Sep.alloc (fun _ => False) w1 o).obj h01 (fun x => x))
          have e0' := Sep.cell hs1 e0 n1
          have e1' := Sep.cell hs1 e1 n1
          have hin1 : Sep (Near F w lo hi) w w1 := sep_chain hin hs1 (fun b hb h => by
            rcases h with ⟨h | h, _⟩ | h
            · exact .inl h
            · omega
            · exact .inr h)
          have hge1 : w.heap.size + 2 ≤ w1.heap.size := Nat.le_trans hge hs1.size
          have HI1 : Hid (Is layU q1 w1 (fun b => Part F w b ∨ w.heap.size + 2 ≤ b) v1) := Lib.hid (hi1.imp fun b _ hb => by
            rcases hb with hb | hb
            · exact hb.1
            · exact .inr (by omega))
          have H01 := Lib.hid h01
          have HWF1 := Lib.hid hwf1
          have HOK0 := Lib.hid hok0
          obtain ⟨o2, r0, A2, nx2, rfl, pr0, pn⟩ := formU hi1.form
          unfold Plain at *
          clear hm hin hs1 hok h01 hi1 e0 e1 hwf1 hok0 hq1 hL1 n0 n1 hFd'
          go_wp2
          go_roundw
          case rel =>
            have ha := Sep.alloc (fun _ => False) w1 (.cells #[.bool o2, r0, .int .i64 A2.op, .int .i64 A2.at_, .int .u64 A2.x, .int .u64 A2.y, nx2] 80)
            have h7 := sep7 (w1.alloc (.cells #[.bool o2, r0, .int .i64 A2.op, .int .i64 A2.at_, .int .u64 A2.x, .int .u64 A2.y, nx2] 80)) w.heap.size (.bool o2) (r0) (.int .i64 A2.op) (.int .i64 A2.at_) (.int .u64 A2.x) (.int .u64 A2.y) (nx2)
            refine ⟨j + 1, _, q1, L1, by go_num, heap7 (ha.obj H01.out (fun x => x)) rfl, (((HI1.out.same ha).keep (Sep.keeps h7 (fun b _ hb e => by subst e; rcases hb with hb | hb; exact absurd hb.2 (by omega); omega))).imp fun b _ hb => hb.1), (hm1.same ha).stay h7 (fun q h1 h2 h3 => by omega), h7.cell (ha.cell e0' (fun x => x)) (show ¬ (w.heap.size + 1 = w.heap.size) by omega), h7.cell (ha.cell e1' (fun x => x)) (show ¬ (w.heap.size + 1 = w.heap.size) by omega), sep_then (hin1.trans (Same.sep ha _)) (Nat.le_refl _) h7, Nat.le_trans hge1 (Nat.le_trans ha.size h7.size), by omega, HWF1.out, HOK0.out, R1.out, ?_, R3.out⟩
            have := R2.out
            try dsimp only at this
            omega
          case measure => simp [intOf]; omega
      · rw [show most.toNat - j = 0 by omega, PT.run_zero] at r1 r2 r3
        have R1 := Lib.hid r1
        have R2 := Lib.hid r2
        have R3 := Lib.hid r3
        clear hcv h0 r1 r2 r3 e0 e1 hq hwf hL n0 n1
        go_wp2
        go_region
        all_goals go_wp2
        all_goals go_ret3; exact (ranZU (hm.same (Sep.drew _ _)) (hin.trans (Sep.drew _ _)) R1.out R2.out R3.out)

end Go.Proofs.Ytiljledgoflogaa
