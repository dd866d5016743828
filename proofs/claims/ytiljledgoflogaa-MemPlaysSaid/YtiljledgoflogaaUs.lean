/- Do, Step, Run at programs that come to a list of words: their contracts over trees. -/
import Derived.Test.YtiljledgoflogaaV
namespace Go.Proofs.Ytiljledgoflogaa
open Go.RowKit
set_option linter.unusedSimpArgs false
set_option linter.unusedVariables false


/-! ### at S -/
theorem formS {v : Value} (h : Form layS v) : ∃ (o : Bool) (r0 : Value) (A : Acc) (nx : Value), v = .agg #[.bool o, r0, .int .i64 A.op, .int .i64 A.at_, .int .u64 A.x, .int .u64 A.y, nx] ∧ Plain r0 ∧ Plain nx := by
  obtain ⟨o, rc, A, nx, rfl, hl, hp, hn⟩ := h
  match rc, hl with
  | [r0], _ => exact ⟨o, r0, A, nx, rfl, hp _ (by simp), hn⟩

theorem doS {p : Int → PT _} {w : World} {F : Nat → Prop} {A : Acc} {K : Nat} {caps : Array Value} (hK : Enters K) (hf : ∀ w', Keeps F w w' → ∀ z, isU z → Calls Try.prog K (#[.int .u64 z] ++ caps) w' (Gives layS (p z) F w w')) :
    Calls Try.prog 92 #[.agg #[.int .i64 A.op, .int .i64 A.at_, .int .u64 A.x, .int .u64 A.y], .func (.func K) #[] caps] w fun e w' => ∃ v, e = .returned v ∧ Is layS (.step A p) w' (Part F w) v ∧ Same w w' := by
  have key : ∀ v w', v = Value.agg #[.bool false, .slice none 0 0, .int .i64 A.op, .int .i64 A.at_, .int .u64 A.x, .int .u64 A.y, .func (.func K) #[] caps] → Same w w' → ∃ v', Ending.returned v = .returned v' ∧ Is layS (.step A p) w' (Part F w) v' ∧ Same w w' := by
    rintro v w' rfl hs
    exact ⟨_, rfl, Is.keep (w := w) (F := F) ⟨K, caps, rfl, hK, hf⟩ (Same.keeps hs), hs⟩
  have KEY := Lib.hid key
  clear hf key
  go_enter Try.func92, Try.ntmps92
  go_wp2
  refine bodyPost_ret (v := .agg #[.bool false, .slice none 0 0, .int .i64 A.op, .int .i64 A.at_, .int .u64 A.x, .int .u64 A.y, .func (.func K) #[] caps]) (by simp [results, Try.results92, go_sem]) rfl (KEY.out _ _ rfl ((Sep.alloc _ _ _).thenAlloc _))

set_option maxRecDepth 100000 in
theorem stepOS (r0 : Value) (pr0 : Plain r0) (p ci ce : Value) (hp : ∃ b, p = .pointer b) (w : World) : Calls Try.prog 45 #[.agg #[.bool true, r0, .int .i64 0, .int .i64 0, .int .u64 0, .int .u64 0, .nilFunc], p, .agg #[ci, ce]] w fun e w' =>
    e = .returned (.tuple #[.agg #[.bool true, r0, .int .i64 0, .int .i64 0, .int .u64 0, .int .u64 0, .nilFunc], .bool false]) ∧ Same w w' := by
  obtain ⟨b, rfl⟩ := hp
  unfold Plain at *
  go_enter Try.func45, Try.ntmps45
  go_wp2
  exact bodyPost_ret (v := .tuple #[.agg #[.bool true, r0, .int .i64 0, .int .i64 0, .int .u64 0, .int .u64 0, .nilFunc], .bool false]) (by simp [results, Try.results45, go_sem]) rfl ⟨rfl, ((Sep.alloc _ _ _).thenAlloc _).thenAlloc _⟩

section
variable {lo hi p cnt : Nat} {w : World} {L : List Reg} {F : Nat → Prop}

set_option maxRecDepth 100000 in
theorem stepNS {v : Value} {A : Acc} {k : Int → PT _} (hm : Mem lo hi w p L cnt) (hv : Is layS (.step A k) w F v) (ci ce : Int) (hno : okB L ci ce A.op A.at_ = false) :
    Calls Try.prog 45 #[v, .pointer (some ⟨p, 0, none⟩), .agg #[.int .i64 ci, .int .u64 ce]] w fun e w' => e = .returned (.tuple #[v, .bool false]) ∧ Same w w' := by
  obtain ⟨K, caps, rfl, _, _⟩ := hv
  show Calls Try.prog 45 #[.agg #[.bool false, .slice none 0 0, .int .i64 A.op, .int .i64 A.at_, .int .u64 A.x, .int .u64 A.y, .func (.func K) #[] caps], _, _] w fun e w' => e = .returned (.tuple #[.agg #[.bool false, .slice none 0 0, .int .i64 A.op, .int .i64 A.at_, .int .u64 A.x, .int .u64 A.y, .func (.func K) #[] caps], _]) ∧ Same w w'
  obtain ⟨W, hW, hs0, hsz, h0, h1, h2⟩ := three_t w 87 #[.bool false, .slice none 0 0, .int .i64 A.op, .int .i64 A.at_, .int .u64 A.x, .int .u64 A.y, .func (.func K) #[] caps] #[.int .i64 ci, .int .u64 ce] #[.bool false, .slice none 0 0, .int .i64 0, .int .i64 0, .int .u64 0, .int .u64 0, .nilFunc]
  have HW := Lib.hid hW
  have H0 := Lib.hid h0
  have H2 := Lib.hid h2
  have hmW := hm.same hs0
  clear hW hsz h0 h1 h2 hm
  go_enter Try.func45, Try.ntmps45
  go_wp2_with fail
  rw [← HW.out]
  refine (do_no hmW ci ce A.op A.at_ A.x A.y hno).mono ?_
  rintro e w1 ⟨rfl, hs1⟩
  obtain ⟨d0, d1, d2, d3, d4, d5, d6, df⟩ := cells7 (hs1.obj H0.out)
  obtain ⟨c0, c1, c2, c3, c4, c5, c6, cf⟩ := cells7 (hs1.obj H2.out)
  have h01 := hs0.trans hs1
  clear hs0 hs1 hmW
  go_wp2
  refine bodyPost_ret (v := .tuple #[.agg #[.bool false, .slice none 0 0, .int .i64 A.op, .int .i64 A.at_, .int .u64 A.x, .int .u64 A.y, .func (.func K) #[] caps], .bool false]) (by simp [results, Try.results45, go_sem, c0, c1, c2, c3, c4, c5, c6]) rfl ?_
  have h7 := sep7 w1 (w.heap.size + 2) (.bool false) (.slice none 0 0) (.int .i64 A.op) (.int .i64 A.at_) (.int .u64 A.x) (.int .u64 A.y) (.func (.func K) #[] caps)
  exact ⟨rfl, same_then h01 (Nat.le_add_right _ 2) h7⟩

/-- A step that is done. -/
def SteppedS (lo hi p cnt : Nat) (F : Nat → Prop) (L' : List Reg) (w : World) (q : PT (List Int)) (e : Ending) (w' : World) : Prop :=
  ∃ v', e = .returned (.tuple #[v', .bool true]) ∧ Is layS q w' (Grown F w w) v' ∧ Mem lo hi w' p L' (cnt + 1) ∧ Sep (Near F w lo hi) w w'

set_option maxRecDepth 100000 in
theorem stepYS {v : Value} {A : Acc} {k : Int → PT _} (hm : Mem lo hi w p L cnt) (hv : Is layS (.step A k) w F v) (ci ce : Int) (hok : okB L ci ce A.op A.at_ = true) (hc : cnt < 1000000000) (hu : isU (peekOf L ci A.at_))
    (hFd : ∀ b, b < w.heap.size → F b → ¬ (lo ≤ b ∧ b < hi)) :
    Calls Try.prog 45 #[v, .pointer (some ⟨p, 0, none⟩), .agg #[.int .i64 ci, .int .u64 ce]] w (SteppedS lo hi p cnt F (doL L ci.toNat A.at_.toNat A.op A.x A.y) w (k (peekOf L ci A.at_))) := by
  obtain ⟨K, caps, rfl, hK, hk⟩ := hv
  show Calls Try.prog 45 #[.agg #[.bool false, .slice none 0 0, .int .i64 A.op, .int .i64 A.at_, .int .u64 A.x, .int .u64 A.y, .func (.func K) #[] caps], _, _] w _
  obtain ⟨W, hW, hs0, hsz, h0, h1, h2⟩ := three_t w 87 #[.bool false, .slice none 0 0, .int .i64 A.op, .int .i64 A.at_, .int .u64 A.x, .int .u64 A.y, .func (.func K) #[] caps] #[.int .i64 ci, .int .u64 ce] #[.bool false, .slice none 0 0, .int .i64 0, .int .i64 0, .int .u64 0, .int .u64 0, .nilFunc]
  have hle := hm.le
  have HW := Lib.hid hW
  have H0 := Lib.hid h0
  have H2 := Lib.hid h2
  have HSZ := Lib.hid hsz
  have hmW := hm.same hs0
  have HK := Lib.hid hk
  unfold Enters at hK
  clear hW hsz h0 h1 h2 hm hk
  go_enter Try.func45, Try.ntmps45
  go_wp2_with fail
  rw [← HW.out]
  refine (do_yes hmW ci ce A.op A.at_ A.x A.y hc hok).mono ?_
  rintro e w1 ⟨rfl, hm1, hs1⟩
  obtain ⟨was, hwas⟩ : ∃ was, was = peekOf L ci A.at_ := ⟨_, rfl⟩
  rw [← hwas] at hu ⊢
  have hout : ¬ (lo ≤ w.heap.size ∧ w.heap.size < hi) := by omega
  have hout2 : ¬ (lo ≤ w.heap.size + 2 ∧ w.heap.size + 2 < hi) := by omega
  obtain ⟨d0, d1, d2, d3, d4, d5, d6, df⟩ := cells7 (Sep.obj hs1 H0.out hout)
  have H2' := Lib.hid (Sep.obj hs1 H2.out hout2)
  have hge : W.heap.size ≤ w1.heap.size := hs1.size
  have i01 : In lo hi w w1 := (hs0.sep _).trans hs1
  have hkk : Keeps F w w1 := Sep.keeps i01 hFd
  have HWAS := Lib.hid hwas
  clear hwas hs0 hs1 hmW
  go_wp2_with fail
  refine (HK.out w1 hkk was hu).mono ?_
  rintro e w2 ⟨v2, rfl, hi2, hs2⟩
  have hs2' : Sep (Near F w lo hi) w1 w2 := hs2.mono fun b _ hb => .inl hb
  have i02 : Sep (Near F w lo hi) w w2 := (i01.mono fun b _ hb => .inr hb).trans hs2'
  have hsz1 : w.heap.size + 3 ≤ w1.heap.size := by have := HSZ.out; omega
  have hm2 := hm1.stay hs2 (fun b h1 h2 h3 => hFd b h3.2 h3.1 ⟨h1, h2⟩)
  obtain ⟨c0, c1, c2, c3, c4, c5, c6, cf⟩ := cells7 (Sep.obj hs2 H2'.out (fun h => by have := h.2; omega))
  have HI := Lib.hid hi2
  have HM2 := Lib.hid hm2
  obtain ⟨o2, r0, A2, nx2, rfl, pr0, pn⟩ := formS hi2.form
  unfold Plain at *
  clear hi2 hs2 hs2' hm2 hm1 i01 d0 d1 d2 d3 d4 d5 d6 df hkk hu
  go_wp2
  refine bodyPost_ret (v := .tuple #[.agg #[.bool o2, r0, .int .i64 A2.op, .int .i64 A2.at_, .int .u64 A2.x, .int .u64 A2.y, nx2], .bool true]) (by simp [results, Try.results45, go_sem, c0, c1, c2, c3, c4, c5, c6]) rfl ?_
  have h7 := sep7 w2 (w.heap.size + 2) (.bool o2) (r0) (.int .i64 A2.op) (.int .i64 A2.at_) (.int .u64 A2.x) (.int .u64 A2.y) (nx2)
  rw [← HWAS.out]
  refine ⟨_, rfl, ?_, HM2.out.stay h7 (fun q h1 h2 h3 => by omega), sep_then i02 (Nat.le_add_right _ 2) h7⟩
  exact (HI.out.keep (Sep.keeps h7 (fun b _ hb e => by subst e; rcases hb with hb | hb; exact absurd hb.2 (by omega); omega))).imp fun b _ hb => hb.1.imp id (fun x => Nat.le_trans (by omega) x)
end


/-! ### at S -/
theorem ranDS {rv : Value} {lo hi p cnt j : Nat} {F : Nat → Prop} {w w' : World} {T : List Reg × Nat × PT (List Int)} {Lj : List Reg} {r : (List Int)} {m : Nat} {ci ce : Int} (hr : layS.rep w' (fun b => Part F w b ∨ w.heap.size ≤ b) [rv] r) (hm : Mem lo hi w' p Lj (cnt + j)) (hs : Sep (Near F w lo hi) w w')
    (r1 : (PT.run ci ce m Lj (.done r)).1 = T.1) (r2 : j + (PT.run ci ce m Lj (.done r)).2.1 = T.2.1) (r3 : (PT.run ci ce m Lj (.done r)).2.2 = T.2.2) : RanT layS lo hi p cnt F w T (.returned (.tuple #[layS.val [rv], .int .i64 j, .bool true])) w' := by
  rw [PT.run_done] at r1 r2 r3
  obtain ⟨T1, T2, T3⟩ := T
  dsimp only at r1 r2 r3
  subst r1 r3
  obtain rfl : j = T2 := by omega
  exact ⟨_, rfl, hr, hm, hs⟩
theorem ranZS {lo hi p cnt j : Nat} {F : Nat → Prop} {w w' : World} {T : List Reg × Nat × PT (List Int)} {Lj : List Reg} {A : Acc} {k : Int → PT (List Int)} (hm : Mem lo hi w' p Lj (cnt + j)) (hs : Sep (Near F w lo hi) w w')
    (r1 : Lj = T.1) (r2 : j = T.2.1) (r3 : .step A k = T.2.2) : RanT layS lo hi p cnt F w T (.returned (.tuple #[layS.val layS.zero, .int .i64 j, .bool false])) w' := by
  obtain ⟨T1, T2, T3⟩ := T
  dsimp only at r1 r2 r3
  subst r1 r2 r3
  exact ⟨_, rfl, rfl, hm, hs⟩

set_option maxRecDepth 100000 in
set_option maxHeartbeats 2000000 in
theorem runS {lo hi p cnt : Nat} {w : World} {L : List Reg} {F : Nat → Prop} {v : Value} {q : PT (List Int)} (hm : Mem lo hi w p L cnt) (hq : Is layS q w F v) (ci ce most : Int) (hwf : q.Wf) (hL : Words L) (hc : cnt + most.toNat < 1000000000) (ho : (PT.run ci ce most.toNat L q).2.2 ≠ .out)
    (hFd : ∀ b, b < w.heap.size → F b → ¬ (lo ≤ b ∧ b < hi)) :
    Calls Try.prog 41 #[v, .pointer (some ⟨p, 0, none⟩), .agg #[.int .i64 ci, .int .u64 ce], .int .i64 most] w (RanT layS lo hi p cnt F w (PT.run ci ce most.toNat L q)) := by
  obtain ⟨o, r0, A, nx, rfl, pr0, pn⟩ := formS hq.form
  obtain ⟨c, hcc, hcs⟩ : ∃ c : Array Value, c = #[.bool o, r0, .int .i64 A.op, .int .i64 A.at_, .int .u64 A.x, .int .u64 A.y, nx] ∧ c.size = 7 := ⟨_, rfl, rfl⟩
  rw [← hcc] at hq ⊢
  clear hcc pn
  obtain ⟨W, hW, hs0, hsz, h0, h1⟩ := two_t w 87 c #[.int .i64 ci, .int .u64 ce]
  have hle := hm.le
  have hqW : Is layS q W (fun b => Part F w b ∨ w.heap.size + 2 ≤ b) (.agg c) := (hq.keep (Same.keeps hs0)).imp fun b _ hb => .inl hb
  have hmW := hm.same hs0
  have e0 : W.cell? ⟨w.heap.size + 1, 0, none⟩ = some (.int .i64 ci) := by rw [cell_of_heap h1]; rfl
  have e1 : W.cell? ⟨w.heap.size + 1, 1, none⟩ = some (.int .u64 ce) := by rw [cell_of_heap h1]; rfl
  have HW := Lib.hid hW
  have HSZ := Lib.hid hsz
  obtain ⟨T, hT⟩ : ∃ T, T = PT.run ci ce most.toNat L q := ⟨_, rfl⟩
  rw [← hT] at ho ⊢
  have HO := Lib.hid ho
  clear hW hsz h1 hq hm ho
  go_enter Try.func41, Try.ntmps41
  go_wp2_with fail
  rw [← HW.out]
  go_loopw [11] (fun i wr => ∃ (j : Nat) (c : Array Value) (q : PT (List Int)) (Lj : List Reg), i = .int .i64 j ∧ wr.heap[w.heap.size]? = some (.cells c 87) ∧ Is layS q wr (fun b => Part F w b ∨ w.heap.size + 2 ≤ b) (.agg c) ∧ Mem lo hi wr p Lj (cnt + j) ∧
      wr.cell? ⟨w.heap.size + 1, 0, none⟩ = some (.int .i64 ci) ∧ wr.cell? ⟨w.heap.size + 1, 1, none⟩ = some (.int .u64 ce) ∧ Sep (Near F w lo hi) w wr ∧ w.heap.size + 2 ≤ wr.heap.size ∧ j ≤ most.toNat ∧ q.Wf ∧ Words Lj ∧
      (PT.run ci ce (most.toNat - j) Lj q).1 = T.1 ∧ j + (PT.run ci ce (most.toNat - j) Lj q).2.1 = T.2.1 ∧ (PT.run ci ce (most.toNat - j) Lj q).2.2 = T.2.2) (fun i _ => most.toNat - (intOf i).toNat)
  case atStart => exact ⟨0, c, q, L, rfl, h0, hqW, hmW, e0, e1, hs0.sep _, by rw [HSZ.out]; omega, Nat.zero_le _, hwf, hL, by rw [hT]; rfl, by rw [hT, Nat.zero_add]; rfl, by rw [hT]; rfl⟩
  case round =>
    clear h0 hqW hmW e0 e1 hs0 hT hwf hL hcs
    obtain ⟨j, c, q, Lj, rfl, h0, hq, hm, e0, e1, hin, hge, hcj, hwf, hL, r1, r2, r3⟩ := hrel
    have n0 : ¬ Near (fun b => Part F w b ∨ w.heap.size + 2 ≤ b) wr lo hi w.heap.size := by
      rintro (⟨h | h, _⟩ | h)
      · exact absurd h.2 (by omega)
      · omega
      · omega
    have n1 : ¬ Near (fun b => Part F w b ∨ w.heap.size + 2 ≤ b) wr lo hi (w.heap.size + 1) := by
      rintro (⟨h | h, _⟩ | h)
      · exact absurd h.2 (by omega)
      · omega
      · omega
    have hFd' : ∀ b, b < wr.heap.size → (Part F w b ∨ w.heap.size + 2 ≤ b) → ¬ (lo ≤ b ∧ b < hi) := fun b _ hb => by
      rcases hb with hb | hb
      · exact hFd b hb.2 hb.1
      · omega
    cases q with
    | out =>
      rw [PT.run_out] at r3
      exact absurd r3.symm HO.out
    | done r =>
      obtain ⟨rc, hcv, hr⟩ := id hq
      have hr0 := hr
      obtain ⟨v0, rfl, hsl⟩ : ∃ v, rc = [v] ∧ SlcU _ _ v r := hr
      obtain ⟨sa, sc, rfl⟩ := Slc.form hsl
      obtain ⟨sn, hsn⟩ : ∃ n, n = r.length := ⟨_, rfl⟩
      rw [← hsn] at hr0 hcv
      clear hsl hsn
      obtain rfl : c = #[.bool true, .slice sa sn sc, .int .i64 0, .int .i64 0, .int .u64 0, .int .u64 0, .nilFunc] := (Value.agg.injEq _ _).mp hcv
      obtain ⟨d0, d1, d2, d3, d4, d5, d6, df⟩ := cells7 h0
      have hrD := layS.imp _ _ (fun b => Part F w b ∨ w.heap.size ≤ b) _ _ hr0 (fun b _ (hb : Part F w b ∨ w.heap.size + 2 ≤ b) => hb.imp id (fun x => by omega))
      have R1 := Lib.hid r1
      have R2 := Lib.hid r2
      have R3 := Lib.hid r3
      have HRD := Lib.hid hrD
      clear hcv h0 r1 r2 r3 e0 e1 hq hr0 hrD n0 n1
      by_cases hjm : (j : Int) < most
      all_goals
        go_wp2
        go_region
        all_goals go_wp2
        all_goals go_ret3; exact (ranDS (layS.keep _ _ _ _ _ HRD.out (Same.keeps (Sep.drew _ _))) (hm.same (Sep.drew _ _)) (hin.trans (Sep.drew _ _)) R1.out R2.out R3.out)
    | step A k =>
      obtain ⟨K, caps, hcv, _⟩ := id hq
      obtain rfl : c = #[.bool false, .slice none 0 0, .int .i64 A.op, .int .i64 A.at_, .int .u64 A.x, .int .u64 A.y, .func (.func K) #[] caps] := (Value.agg.injEq _ _).mp hcv
      obtain ⟨d0, d1, d2, d3, d4, d5, d6, df⟩ := cells7 h0
      by_cases hjm : (j : Int) < most
      · rw [show most.toNat - j = (most.toNat - (j + 1)) + 1 by omega] at r1 r2 r3
        have HQ := Lib.hid hq
        have HWF := Lib.hid hwf
        have HLW := Lib.hid hL
        cases hok : okB Lj ci ce A.op A.at_ with
        | false =>
          rw [PT.run_no hok] at r1 r2 r3
          have R1 := Lib.hid r1
          have R2 := Lib.hid r2
          have R3 := Lib.hid r3
          have H0 := Lib.hid h0
          clear hcv h0 r1 r2 r3 hq hwf hL n0 n1
          go_wp2_with fail
          refine (stepNS hm HQ.out ci ce hok).mono ?_
          rintro e w1 ⟨rfl, hs1⟩
          obtain ⟨d0, d1, d2, d3, d4, d5, d6, df⟩ := cells7 (hs1.obj H0.out)
          have a0 := fun o => (Sep.alloc (fun _ => False) w1 o).cell d0 (fun x => x)
          have a1 := fun o => (Sep.alloc (fun _ => False) w1 o).cell d1 (fun x => x)
          have a2 := fun o => (Sep.alloc (fun _ => False) w1 o).cell d2 (fun x => x)
          have a3 := fun o => (Sep.alloc (fun _ => False) w1 o).cell d3 (fun x => x)
          have a4 := fun o => (Sep.alloc (fun _ => False) w1 o).cell d4 (fun x => x)
          have a5 := fun o => (Sep.alloc (fun _ => False) w1 o).cell d5 (fun x => x)
          have a6 := fun o => (Sep.alloc (fun _ => False) w1 o).cell d6 (fun x => x)
          have hm1 := hm.same hs1
          have hin1 : Sep (Near F w lo hi) w w1 := hin.trans (hs1.sep _)
          clear hm hin hs1 hok
          go_wp2
          go_region
          all_goals go_wp2
          all_goals go_ret3; exact (ranZS ((hm1.same (Sep.alloc _ _ _)).same (Sep.drew _ _)) ((hin1.trans (Sep.alloc _ _ _)).trans (Sep.drew _ _)) R1.out R2.out R3.out)
        | true =>
          have hlen := ok_lt hok
          rw [PT.run_yes hok] at r1 r2 r3
          have R1 := Lib.hid r1
          have R2 := Lib.hid r2
          have R3 := Lib.hid r3
          have H0 := Lib.hid h0
          clear hcv h0 r1 r2 r3 hq hwf hL
          go_wp2_with fail
          refine (stepYS hm HQ.out ci ce hok (by omega) (HLW.out _ _) hFd').mono ?_
          rintro e w1 ⟨v1, rfl, hi1, hm1, hs1⟩
          have hok0 : Words (doL Lj ci.toNat A.at_.toNat A.op A.x A.y) := HLW.out.doL HWF.out.1 HWF.out.2.1 _ _ hlen
          have hwf1 := HWF.out.2.2 _ (HLW.out ci A.at_)
          obtain ⟨q1, hq1⟩ : ∃ q1, q1 = k (peekOf Lj ci A.at_) := ⟨_, rfl⟩
          obtain ⟨L1, hL1⟩ : ∃ L1, L1 = doL Lj ci.toNat A.at_.toNat A.op A.x A.y := ⟨_, rfl⟩
          rw [← hq1] at hi1 R1 R2 R3 hwf1
          rw [← hL1] at hm1 R1 R2 R3 hok0
          have h01 := Sep.obj hs1 H0.out n0
          obtain ⟨d0, d1, d2, d3, d4, d5, d6, df⟩ := cells7 h01
          have a0 := fun o => (Sep.alloc (fun _ => False) w1 o).cell d0 (fun x => x)
          have a1 := fun o => (Sep.alloc (fun _ => False) w1 o).cell d1 (fun x => x)
          have a2 := fun o => (Sep.alloc (fun _ => False) w1 o).cell d2 (fun x => x)
          have a3 := fun o => (Sep.alloc (fun _ => False) w1 o).cell d3 (fun x => x)
          have a4 := fun o => (Sep.alloc (fun _ => False) w1 o).cell d4 (fun x => x)
          have a5 := fun o => (Sep.alloc (fun _ => False) w1 o).cell d5 (fun x => x)
          have a6 := fun o => (Sep.alloc (fun _ => False) w1 o).cell d6 (fun x => x)
          have af : ∀ o j, (w1.alloc o).frozen? ⟨w.heap.size, j, none⟩ = false := fun o j => free_of_heap ((Sep.alloc (fun _ => False) w1 o).obj h01 (fun x => x))
          have e0' := Sep.cell hs1 e0 n1
          have e1' := Sep.cell hs1 e1 n1
          have hin1 : Sep (Near F w lo hi) w w1 := sep_chain hin hs1 (fun b hb h => by
            rcases h with ⟨h | h, _⟩ | h
            · exact .inl h
            · omega
            · exact .inr h)
          have hge1 : w.heap.size + 2 ≤ w1.heap.size := Nat.le_trans hge hs1.size
          have HI1 : Hid (Is layS q1 w1 (fun b => Part F w b ∨ w.heap.size + 2 ≤ b) v1) := Lib.hid (hi1.imp fun b _ hb => by
            rcases hb with hb | hb
            · exact hb.1
            · exact .inr (by omega))
          have H01 := Lib.hid h01
          have HWF1 := Lib.hid hwf1
          have HOK0 := Lib.hid hok0
          obtain ⟨o2, r0, A2, nx2, rfl, pr0, pn⟩ := formS hi1.form
          unfold Plain at *
          clear hm hin hs1 hok h01 hi1 e0 e1 hwf1 hok0 hq1 hL1 n0 n1 hFd'
          go_wp2
          go_roundw
          case rel =>
            have ha := Sep.alloc (fun _ => False) w1 (.cells #[.bool o2, r0, .int .i64 A2.op, .int .i64 A2.at_, .int .u64 A2.x, .int .u64 A2.y, nx2] 87)
            have h7 := sep7 (w1.alloc (.cells #[.bool o2, r0, .int .i64 A2.op, .int .i64 A2.at_, .int .u64 A2.x, .int .u64 A2.y, nx2] 87)) w.heap.size (.bool o2) (r0) (.int .i64 A2.op) (.int .i64 A2.at_) (.int .u64 A2.x) (.int .u64 A2.y) (nx2)
            refine ⟨j + 1, _, q1, L1, by go_num, heap7 (ha.obj H01.out (fun x => x)) rfl, (((HI1.out.same ha).keep (Sep.keeps h7 (fun b _ hb e => by subst e; rcases hb with hb | hb; exact absurd hb.2 (by omega); omega))).imp fun b _ hb => hb.1), (hm1.same ha).stay h7 (fun q h1 h2 h3 => by omega), h7.cell (ha.cell e0' (fun x => x)) (show ¬ (w.heap.size + 1 = w.heap.size) by omega), h7.cell (ha.cell e1' (fun x => x)) (show ¬ (w.heap.size + 1 = w.heap.size) by omega), sep_then (hin1.trans (Same.sep ha _)) (Nat.le_refl _) h7, Nat.le_trans hge1 (Nat.le_trans ha.size h7.size), by omega, HWF1.out, HOK0.out, R1.out, ?_, R3.out⟩
            have := R2.out
            try dsimp only at this
            omega
          case measure => simp [intOf]; omega
      · rw [show most.toNat - j = 0 by omega, PT.run_zero] at r1 r2 r3
        have R1 := Lib.hid r1
        have R2 := Lib.hid r2
        have R3 := Lib.hid r3
        clear hcv h0 r1 r2 r3 e0 e1 hq hwf hL n0 n1
        go_wp2
        go_region
        all_goals go_wp2
        all_goals go_ret3; exact (ranZS (hm.same (Sep.drew _ _)) (hin.trans (Sep.drew _ _)) R1.out R2.out R3.out)

end Go.Proofs.Ytiljledgoflogaa
