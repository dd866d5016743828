/- The walk of ThreadStale. -/
import Derived.Test.YtiljledgoflogaaTh
namespace Go.Proofs.Ytiljledgoflogaa
open Go.RowKit
set_option linter.unusedSimpArgs false
set_option linter.unusedVariables false

theorem St.row {lo hi hq wp mp bp c cap : Nat} {w0 w : World} {L : List Reg} {cnt : Nat} {J : Job} (h : St lo hi hq wp mp bp c cap w0 w L cnt J) {a : Option Addr} {ls : List (List Acc)} (hr : ArgR w0 a ls) {k : Nat} (hk : k < ls.length) :
    ∃ b off va vc, a = some ⟨b, off, none⟩ ∧ w.cell? ⟨b, off + k, none⟩ = some (.slice va (ls.getD k []).length vc) ∧ ArgF (FF lo hq) w (.slice va (ls.getD k []).length vc) (ls.getD k []) := by
  have ar := h.ar
  rcases hr with rfl | ⟨b, off, rfl, hb, h1⟩
  · simp at hk
  · obtain ⟨va, vc, h2, h3⟩ := h1 k hk
    exact ⟨b, off, va, vc, rfl, Sep.cell h.inn h2 (by simp; omega), h.arg h3⟩
theorem take_add (ls : List (List Acc)) (k : Nat) (hk : k < ls.length) : ls.take k ++ [ls.getD k []] = ls.take (k + 1) := by
  rw [List.take_add_one]
  simp [List.getD, hk]
theorem drop_cons (ls : List (List Acc)) (k : Nat) (hk : k < ls.length) : ls.drop k = ls.getD k [] :: ls.drop (k + 1) := by
  rw [List.drop_eq_getElem_cons hk]
  simp [List.getD, hk]

theorem tstale_long (a0 : Option Addr) (n0 c0 : Nat) (h : 20 < n0) (w : World) : Calls Try.prog 17 #[.slice a0 n0 c0] w fun e w' => e = .returned (.bool true) ∧ Below w.heap.size w w' := by
  go_enter Try.func17, Try.ntmps17
  go_wp2_with fail
  refine (awake5_ok _).mono ?_
  rintro e w0 ⟨rfl, hs0⟩
  go_wp2_with fail
  refine (awake5_ok _).mono ?_
  rintro e w1 ⟨rfl, hs1⟩
  go_wp2
  go_ret
  exact ⟨rfl, Same.below (hs0.trans hs1)⟩

set_option maxRecDepth 100000 in
set_option maxHeartbeats 2000000 in
theorem tstale_walk (a0 : Option Addr) (c0 : Nat) (ls : List (List Acc)) (hl : ls.length ≤ 20) (w : World) (q0 : ArgR w a0 ls) : Calls Try.prog 17 #[.slice a0 ls.length c0] w fun e w' => e = .returned (.bool true) ∧ Below w.heap.size w w' := by
  obtain ⟨n, hn⟩ : ∃ n, n = ls.length := ⟨_, rfl⟩
  have Q0 := Lib.hid q0
  have hl' : n ≤ 20 := by omega
  rw [← hn]
  have HN := Lib.hid hn
  clear q0 hl hn
  go_enter Try.func17, Try.ntmps17
  go_wp2_with fail
  refine (awake5_ok _).mono ?_
  rintro e w0 ⟨rfl, hs0⟩
  go_wp2_with fail
  refine (new_lit w0 [8] _ 1 rfl rfl (by decide) (by decide)).mono ?_
  rintro e w1 ⟨p, lo, hi, rfl, hm1, hs1, hlo, hhi⟩
  have HHI := Lib.hid hhi
  have hs01 := hs0.trans hs1
  have hsz := hs0.size
  clear hhi hs0 hs1
  go_wp2_with fail
  refine (St.make (w0 := w) 20 (by decide) (by decide) hm1 hs01 (by omega) HHI.out).mono ?_
  rintro e w2 ⟨wp, bp, c, hq, rfl, h2⟩
  replace h2 : St lo hi hq wp p bp c 20 w w2 fresh8 0 ⟨[], none⟩ := h2
  clear hm1 HHI hs01 hlo hsz
  go_wp2
  go_loopw [7] (fun i wr => ∃ k : Nat, k ≤ n ∧ i = .int .i64 k ∧ St lo hi hq wp p bp c 20 w wr fresh8 0 ⟨ls.take k, none⟩ ∧ ∀ j, j < k → (ls.getD j []).length ≤ 10) (fun i _ => n - (intOf i).toNat)
  case atStart => exact ⟨0, by omega, rfl, h2, fun j hj => by omega⟩
  case round =>
    obtain ⟨k, hk, rfl, hst, hten⟩ := hrel
    by_cases hlt : k < n
    · have HST := Lib.hid hst
      have HTEN := Lib.hid hten
      have hkl : k < ls.length := by rw [← HN.out]; exact hlt
      obtain ⟨b, off, va, vc, rfl, hc, harg⟩ := hst.row Q0.out hkl
      obtain ⟨rn, hrn⟩ : ∃ rn, rn = (ls.getD k []).length := ⟨_, rfl⟩
      rw [← hrn] at hc harg
      have HARG := Lib.hid harg
      have HRN := Lib.hid hrn
      have HKL := Lib.hid hkl
      clear hst h2 harg hrn hkl hten
      by_cases h10 : rn ≤ 10
      · go_wp2_with fail
        refine (HST.out.give HARG.out (by have := HN.out; simp; omega)).mono ?_
        rintro e w3 ⟨rfl, h3⟩
        have H3 := Lib.hid h3
        clear h3
        go_wp2
        go_roundw
        case rel => exact ⟨k + 1, by omega, by go_num, by rw [← take_add ls k HKL.out]; exact H3.out, fun j hj => by
          rcases Nat.lt_succ_iff_lt_or_eq.mp hj with h | rfl
          · exact HTEN.out j h
          · rw [← HRN.out]; exact h10⟩
        case measure => simp [intOf]; omega
      · go_wp2
        go_ret
        exact ⟨rfl, HST.out.inn.below HST.out.ar.1 (Nat.le_refl _)⟩
    · obtain rfl : k = n := by omega
      have HTEN := Lib.hid hten
      have hst' : St lo hi hq wp p bp c 20 w wr fresh8 0 ⟨ls.drop 0, none⟩ := by
        rw [HN.out, List.take_length] at hst
        exact hst
      have HST := Lib.hid hst'
      clear hst hst' h2 hten
      go_wp2
      go_loopw [8] (fun i wr => ∃ j : Nat, j ≤ k ∧ i = .int .i64 j ∧ St lo hi hq wp p bp c 20 w wr fresh8 0 ⟨ls.drop j, none⟩) (fun i _ => k - (intOf i).toNat)
      case atStart => exact ⟨0, by omega, rfl, HST.out⟩
      case round =>
        clear HST
        obtain ⟨j, hj, rfl, hst⟩ := hrel
        by_cases hlt : j < k
        · have hjl : j < ls.length := by rw [← HN.out]; exact hlt
          obtain ⟨b, off, va, vc, rfl, hc, harg⟩ := hst.row Q0.out hjl
          have h10 := HTEN.out j hlt
          rw [drop_cons ls j hjl] at hst
          obtain ⟨rn, hrn⟩ : ∃ rn, rn = (ls.getD j []).length := ⟨_, rfl⟩
          rw [← hrn] at hc h10
          have HST := Lib.hid hst
          obtain ⟨r, hr⟩ : ∃ r, r = (ls.drop (j + 1)).length := ⟨_, rfl⟩
          have hr2 : k = j + 1 + r := by rw [hr, List.length_drop, ← HN.out]; omega
          have hkr : ((r : Int) == (k : Int) - 1 - (j : Int)) = true := by simp; omega
          have HR := Lib.hid hr
          have HR2 := Lib.hid hr2
          have HRN := Lib.hid hrn
          clear hst harg hrn hjl hr hr2
          rcases hrow : ls.getD j [] with _ | ⟨A, l⟩
          · have h0 : rn = 0 := by rw [HRN.out, hrow]; rfl
            subst h0
            have HST' : Hid (St lo hi hq wp p bp c 20 w wr fresh8 0 ⟨[] :: ls.drop (j + 1), none⟩) := by rw [← hrow]; exact HST.out
            clear hrow HST HRN
            go_wp2_with fail
            refine (HST'.out.skip 0 9).mono ?_
            rintro e w3 ⟨ra, rc, rfl, h3, h4⟩
            have H4 := Lib.hid h4
            clear h3 h4
            unfold evt
            go_wp2_with fail
            refine (busy_any (H4.out.same (Sep.alloc _ _ _)).wk).mono ?_
            rintro e w5 ⟨rfl, rfl⟩
            go_wp2_with fail
            refine (waits_any (H4.out.same (Sep.alloc _ _ _)).wk).mono ?_
            rintro e w6 ⟨rfl, rfl⟩
            rw [← HR.out]
            go_wp2
            go_roundw
            case rel => exact ⟨j + 1, by omega, by go_num, H4.out.same (Sep.alloc _ _ _)⟩
            case measure => simp [intOf]; omega
          · have h0 : 1 ≤ rn := by rw [HRN.out, hrow]; simp
            have hll : l.length < 1000 := by have := HRN.out; rw [hrow] at this; simp at this; omega
            have HST' : Hid (St lo hi hq wp p bp c 20 w wr fresh8 0 ⟨(A :: l) :: ls.drop (j + 1), none⟩) := by rw [← hrow]; exact HST.out
            clear hrow HST HRN
            go_wp2_with fail
            refine (HST'.out.step (.inr ⟨rfl, rfl⟩) 0 9 (by decide) (by decide) hll).mono ?_
            have hno : okB fresh8 0 9 A.op A.at_ = false := by simp [okB, goodB]
            rintro e w3 (⟨_, rfl, h4⟩ | ⟨hx, _⟩ | ⟨hx, _⟩)
            rotate_left
            · rw [hno] at hx; cases hx
            · rw [hno] at hx; cases hx
            have H4 := Lib.hid h4
            clear h4 hno
            unfold evt
            go_wp2_with fail
            refine (busy_any (H4.out.same (Sep.alloc _ _ _)).wk).mono ?_
            rintro e w5 ⟨rfl, rfl⟩
            go_wp2_with fail
            refine (waits_any (H4.out.same (Sep.alloc _ _ _)).wk).mono ?_
            rintro e w6 ⟨rfl, rfl⟩
            rw [← HR.out]
            go_wp2
            go_roundw
            case rel => exact ⟨j + 1, by omega, by go_num, H4.out.same (Sep.alloc _ _ _)⟩
            case measure => simp [intOf]; omega
        · obtain rfl : j = k := by omega
          rw [HN.out, List.drop_length] at hst
          have HST := Lib.hid hst
          clear hst
          have hkf := run_kind
          go_wp2_with fail
          refine (count_any HST.out.mem).mono ?_
          rintro e w3 ⟨rfl, rfl⟩
          go_wp2_with fail
          refine (cap_any HST.out.mem 0).mono ?_
          rintro e w5 ⟨rfl, hs5⟩
          rw [show capOf fresh8 0 = .agg #[.int .i64 0, .int .u64 1] from rfl]
          go_wp2_with fail
          refine ((HST.out.same hs5).idle 0 1).mono ?_
          rintro e w6 ⟨rfl, h6⟩
          unfold evt
          go_wp2
          go_ret
          exact ⟨rfl, h6.inn.below h6.ar.1 (Nat.le_refl _)⟩
end Go.Proofs.Ytiljledgoflogaa
