/- The walk of ThreadOne. -/
import Derived.Test.YtiljledgoflogaaTi
namespace Go.Proofs.Ytiljledgoflogaa
open Go.RowKit
set_option linter.unusedSimpArgs false
set_option linter.unusedVariables false

theorem St.row2 {lo hi hq wp mp bp c cap : Nat} {w0 w : World} {L : List Reg} {cnt : Nat} {J : Job} (h : St lo hi hq wp mp bp c cap w0 w L cnt J) {b off : Nat} {ls : List (List Acc)} (hr : ArgR w0 (some ⟨b, off, none⟩) ls) {k : Nat} (hk : k < ls.length) :
    ∃ va vc, w.cell? ⟨b, off + k, none⟩ = some (.slice va (ls.getD k []).length vc) := by
  obtain ⟨b', off', va, vc, h1, h2, _⟩ := h.row hr hk
  obtain ⟨rfl, rfl⟩ : b = b' ∧ off = off' := by simpa using h1
  exact ⟨va, vc, h2⟩

/-- The picks that lists want, one a list at least. -/
def remL : List (List Acc) → Nat
  | [] => 0
  | l :: ls => max l.length 1 + remL ls
theorem remL_add (a b : List (List Acc)) : remL (a ++ b) = remL a + remL b := by
  induction a with
  | nil => simp [remL]
  | cons x a ih => simp [remL, ih]; omega
theorem remL_le (ls : List (List Acc)) (h : ∀ j, j < ls.length → (ls.getD j []).length ≤ 10) : remL ls ≤ 10 * ls.length := by
  induction ls with
  | nil => simp [remL]
  | cons x a ih =>
    have h0 := h 0 (by simp)
    have ha := ih (fun j hj => by have := h (j + 1) (by simpa using hj); simpa using this)
    simp [remL] at h0 ⊢
    omega
theorem remL_take (ls : List (List Acc)) (k : Nat) (hk : k < ls.length) : remL (ls.take (k + 1)) = remL (ls.take k) + max (ls.getD k []).length 1 := by
  rw [← take_add ls k hk, remL_add]
  simp [remL]
/-- The picks that a worker wants yet. -/
def remJ (J : Job) : Nat := match J.cur with
  | none => remL J.box
  | some (l, _) => l.length + remL J.box

set_option maxRecDepth 100000 in
theorem tone_long (a0 : Option Addr) (n0 c0 : Nat) (h : 20 < n0) (w : World) : Calls Try.prog 16 #[.slice a0 n0 c0] w fun e w' => e = .returned (.bool true) ∧ Below w.heap.size w w' := by
  go_enter Try.func16, Try.ntmps16
  go_wp2_with fail
  refine (awake5_ok _).mono ?_
  rintro e w0 ⟨rfl, hs0⟩
  go_wp2_with fail
  refine (awake5_ok _).mono ?_
  rintro e w1 ⟨rfl, hs1⟩
  go_wp2
  go_ret
  exact ⟨rfl, Same.below (hs0.trans hs1)⟩

/-- What the worker is at: so many lists are done. -/
def AtL (ls : List (List Acc)) (d : Nat) (J : Job) : Prop :=
  J = ⟨ls.drop d, none⟩ ∨ ∃ A left told, J = ⟨ls.drop (d + 1), some (A :: left, told)⟩ ∧ d < ls.length ∧ told.length + (left.length + 1) = (ls.getD d []).length
theorem AtL.split {ls : List (List Acc)} {d : Nat} {J : Job} (h : AtL ls d J) (hd : d < ls.length) :
    (J = ⟨[] :: ls.drop (d + 1), none⟩ ∧ (ls.getD d []).length = 0 ∧ remJ J = 1 + remL (ls.drop (d + 1))) ∨
    ∃ A l told, (J = ⟨ls.drop (d + 1), some (A :: l, told)⟩ ∨ (J = ⟨(A :: l) :: ls.drop (d + 1), none⟩ ∧ told = [])) ∧ told.length + (l.length + 1) = (ls.getD d []).length ∧ remJ J = l.length + 1 + remL (ls.drop (d + 1)) := by
  rcases h with rfl | ⟨A, l, told, rfl, h1, h2⟩
  · rw [drop_cons ls d hd]
    rcases ls.getD d [] with _ | ⟨A, l⟩
    · exact .inl ⟨rfl, rfl, by simp [remJ, remL]⟩
    · exact .inr ⟨A, l, [], .inr ⟨rfl, rfl⟩, by simp, by simp [remJ, remL]⟩
  · exact .inr ⟨A, l, told, .inl rfl, h2, by simp [remJ]⟩
theorem AtL.done {ls : List (List Acc)} {J : Job} {d : Nat} (h : AtL ls d J) (hd : d = ls.length) : J = ⟨[], none⟩ := by
  rcases h with rfl | ⟨A, l, told, rfl, h1, h2⟩
  · rw [hd, List.drop_length]
  · omega
theorem AtL.next {ls : List (List Acc)} (d : Nat) : AtL ls d ⟨ls.drop d, none⟩ := .inl rfl

set_option maxRecDepth 100000 in
set_option maxHeartbeats 2000000 in
theorem tone_walk (a0 : Option Addr) (c0 : Nat) (ls : List (List Acc)) (hl : ls.length ≤ 20) (w : World) (q0 : ArgR w a0 ls) : Calls Try.prog 16 #[.slice a0 ls.length c0] w fun e w' => e = .returned (.bool true) ∧ Below w.heap.size w w' := by
  obtain ⟨n, hn⟩ : ∃ n, n = ls.length := ⟨_, rfl⟩
  have Q0 := Lib.hid q0
  have hl' : n ≤ 20 := by omega
  rw [← hn]
  have HN := Lib.hid hn
  clear q0 hl hn
  go_enter Try.func16, Try.ntmps16
  go_wp2_with fail
  refine (awake5_ok _).mono ?_
  rintro e w0 ⟨rfl, hs0⟩
  go_wp2_with fail
  refine (new_lit w0 [8] _ 1 rfl rfl (by decide) (by decide)).mono ?_
  rintro e w1 ⟨p, lo, hi, rfl, hm1, hs1, hlo, hhi⟩
  have HHI := Lib.hid hhi
  have hs01 := hs0.trans hs1
  have hsz := hs0.size
  clear hhi hs0 hs1
  go_wp2_with fail
  refine (St.make (w0 := w) 20 (by decide) (by decide) hm1 hs01 (by omega) HHI.out).mono ?_
  rintro e w2 ⟨wp, bp, c, hq, rfl, h2⟩
  replace h2 : St lo hi hq wp p bp c 20 w w2 fresh8 0 ⟨[], none⟩ := h2
  clear hm1 HHI hs01 hlo hsz
  go_wp2
  go_loopw [7, 8] (fun pk i wr => ∃ (k pn : Nat), k ≤ n ∧ i = .int .i64 k ∧ pk = .int .i64 pn ∧ pn = remL (ls.take k) ∧ pn ≤ 10 * k ∧ St lo hi hq wp p bp c 20 w wr fresh8 0 ⟨ls.take k, none⟩ ∧ ∀ j, j < k → (ls.getD j []).length ≤ 10) (fun _ i _ => n - (intOf i).toNat)
  case atStart => exact ⟨0, 0, by omega, rfl, rfl, rfl, by omega, h2, fun j hj => by omega⟩
  case round =>
    obtain ⟨k, pn, hk, rfl, rfl, hpn, hp10, hst, hten⟩ := hrel
    have HPN := Lib.hid hpn
    clear hpn
    by_cases hlt : k < n
    · have HST := Lib.hid hst
      have HTEN := Lib.hid hten
      have hkl : k < ls.length := by rw [← HN.out]; exact hlt
      obtain ⟨b, off, va, vc, rfl, hc, harg⟩ := hst.row Q0.out hkl
      obtain ⟨rn, hrn⟩ : ∃ rn, rn = (ls.getD k []).length := ⟨_, rfl⟩
      rw [← hrn] at hc harg
      have HARG := Lib.hid harg
      have HRN := Lib.hid hrn
      have HKL := Lib.hid hkl
      clear hst h2 harg hrn hkl hten
      by_cases h10 : rn ≤ 10
      · rcases Nat.eq_zero_or_pos rn with hr0 | hr1
        · subst hr0
          go_wp2_with fail
          refine (HST.out.give HARG.out (by have := HN.out; simp; omega)).mono ?_
          rintro e w3 ⟨rfl, h3⟩
          have H3 := Lib.hid h3
          clear h3
          go_wp2
          go_roundw
          case rel => exact ⟨k + 1, pn + 1, by omega, by go_num, by go_num, by rw [remL_take ls k HKL.out, ← HPN.out, ← HRN.out]; omega, by omega, by rw [← take_add ls k HKL.out]; exact H3.out, fun j hj => by
            rcases Nat.lt_succ_iff_lt_or_eq.mp hj with h | rfl
            · exact HTEN.out j h
            · rw [← HRN.out]; exact h10⟩
          case measure => simp [intOf]; omega
        · have hr2 : ¬ ((rn : Int) < 1) := by omega
          go_wp2_with fail
          refine (HST.out.give HARG.out (by have := HN.out; simp; omega)).mono ?_
          rintro e w3 ⟨rfl, h3⟩
          have H3 := Lib.hid h3
          clear h3
          go_wp2
          go_roundw
          case rel => exact ⟨k + 1, pn + rn, by omega, by go_num, by go_num, by rw [remL_take ls k HKL.out, ← HPN.out, ← HRN.out]; omega, by omega, by rw [← take_add ls k HKL.out]; exact H3.out, fun j hj => by
            rcases Nat.lt_succ_iff_lt_or_eq.mp hj with h | rfl
            · exact HTEN.out j h
            · rw [← HRN.out]; exact h10⟩
          case measure => simp [intOf]; omega
      · go_wp2
        go_ret
        exact ⟨rfl, HST.out.inn.below HST.out.ar.1 (Nat.le_refl _)⟩
    · obtain rfl : k = n := by omega
      have HTEN := Lib.hid hten
      have hst' : St lo hi hq wp p bp c 20 w wr fresh8 0 ⟨ls.drop 0, none⟩ := by
        rw [HN.out, List.take_length] at hst
        exact hst
      have hpn' : pn = remL (ls.drop 0) := by have := HPN.out; rw [HN.out, List.take_length] at this; exact this
      have HPN' := Lib.hid hpn'
      have HST := Lib.hid hst'
      clear hst hst' h2 hten HPN hpn'
      go_wp2
      go_loopw [9, 10] (fun ds is wr => ∃ (d j : Nat) (L : List Reg) (cnt : Nat) (J : Job), ds = .int .i64 d ∧ is = .int .i64 j ∧ d ≤ k ∧ j + remJ J ≤ pn ∧ AtL ls d J ∧ OneUp L ∧ cnt ≤ j ∧ St lo hi hq wp p bp c 20 w wr L cnt J) (fun _ is _ => pn + 1 - (intOf is).toNat)
      case atStart => exact ⟨0, 0, fresh8, 0, ⟨ls.drop 0, none⟩, rfl, rfl, by omega, by rw [HPN'.out]; simp [remJ], .inl rfl, ⟨rfl, rfl⟩, by omega, HST.out⟩
      case round =>
        clear HST HPN'
        obtain ⟨d, j, L, cnt, J, rfl, rfl, hd, hrem, hat, hone, hcnt, hst⟩ := hrel
        have HREM := Lib.hid hrem
        have HAT := Lib.hid hat
        have HONE := Lib.hid hone
        have hj1 : (j : Int) < (pn : Int) + 1 := by omega
        by_cases hlt : d < k
        · have hdl : d < ls.length := by rw [← HN.out]; exact hlt
          obtain ⟨b, off, va, vc, rfl, hc, _⟩ := hst.row Q0.out hdl
          have h10 := HTEN.out d hlt
          obtain ⟨rn, hrn⟩ : ∃ rn, rn = (ls.getD d []).length := ⟨_, rfl⟩
          rw [← hrn] at hc h10
          have HST := Lib.hid hst
          have HRN := Lib.hid hrn
          have HDL := Lib.hid hdl
          clear hst hrn hdl hrem hat hone hc
          go_wp2_with fail
          refine (count_any HST.out.mem).mono ?_
          rintro e w3 ⟨rfl, rfl⟩
          go_wp2_with fail
          refine (cap_any HST.out.mem 0).mono ?_
          rintro e w4 ⟨rfl, hs4⟩
          rw [HONE.out.cap]
          have H3 := Lib.hid (HST.out.same hs4)
          clear hs4
          rcases HAT.out.split HDL.out with ⟨rfl, h0, hr⟩ | ⟨A, l, told, hJ, htl, hr⟩
          · obtain rfl : rn = 0 := by rw [HRN.out]; exact h0
            rw [hr] at HREM
            have hremn : j + 1 + remJ ⟨ls.drop (d + 1), none⟩ ≤ pn := by have := HREM.out; simp [remJ]; omega
            have HREMN := Lib.hid hremn
            clear h0 hr hremn
            go_wp2_with fail
            refine (H3.out.skip 0 1).mono ?_
            rintro e w5 ⟨ra, rc, rfl, h3, h4⟩
            have H4 := Lib.hid h4
            obtain ⟨va5, vc5, hc5⟩ := h4.row2 Q0.out HDL.out
            rw [← HRN.out] at hc5
            have hcA := fun o => (Sep.alloc (fun _ => False) w5 o).cell hc5 (fun x => x)
            clear h3 h4 hc5
            unfold evt
            go_wp2_with fail
            refine (count_any (H4.out.same (Sep.alloc _ _ _)).mem).mono ?_
            rintro e w6 ⟨rfl, rfl⟩
            go_wp2
            go_quiet (fail)
            go_wp2
            go_roundw
            case rel => exact ⟨d + 1, j + 1, L, cnt, ⟨ls.drop (d + 1), none⟩, by go_num, by go_num, by omega, HREMN.out, .next _, HONE.out, by omega, (H4.out.same (Sep.alloc _ _ _)).same (Sep.drewN _ _ _)⟩
            case measure => simp [intOf]; omega
          · have htl' : told.length + (l.length + 1) = rn := by rw [HRN.out]; exact htl
            have hle : l.length < 1000 := by omega
            have hkt : told.length ≤ 1000 := by omega
            rw [hr] at HREM
            have hremn : j + 1 + remJ ⟨ls.drop (d + 1), none⟩ ≤ pn := by have := HREM.out; simp [remJ]; omega
            have HREMN := Lib.hid hremn
            have hremm : ∀ t, j + 1 + remJ ⟨ls.drop (d + 1), some (l, t)⟩ ≤ pn := by intro t; have := HREM.out; simp [remJ]; omega
            have HREMM := Lib.hid hremm
            have HTL := Lib.hid htl'
            have HTL0 := Lib.hid htl
            have hstep := H3.out.step hJ 0 1 (by omega) hkt hle
            clear hr hremn hremm hJ htl htl'
            go_wp2_with fail
            refine hstep.mono ?_
            clear hstep
            rintro e w5 (⟨_, rfl, h4⟩ | ⟨_, hl0, ra, rc, rfl, h3, h4⟩ | ⟨_, hl0, rfl, h4⟩)
            · have H4 := Lib.hid h4
              clear h4
              unfold evt
              go_wp2_with fail
              refine (count_any (H4.out.same (Sep.alloc _ _ _)).mem).mono ?_
              rintro e w6 ⟨rfl, rfl⟩
              go_wp2
              go_quiet (fail)
              go_wp2
              go_roundw
              case rel => exact ⟨d + 1, j + 1, L, cnt, ⟨ls.drop (d + 1), none⟩, by go_num, by go_num, by omega, HREMN.out, .next _, HONE.out, by omega, (H4.out.same (Sep.alloc _ _ _)).same (Sep.drewN _ _ _)⟩
              case measure => simp [intOf]; omega
            · have H4 := Lib.hid h4
              obtain ⟨va5, vc5, hc5⟩ := h4.row2 Q0.out HDL.out
              have hrt : rn = told.length + 1 := by have := HTL.out; rw [hl0] at this; simpa using this.symm
              rw [← HRN.out] at hc5
              rw [← hrt]
              have hcA := fun o => (Sep.alloc (fun _ => False) w5 o).cell hc5 (fun x => x)
              clear h3 h4 hc5 hl0 hrt
              unfold evt
              go_wp2_with fail
              refine (count_any (H4.out.same (Sep.alloc _ _ _)).mem).mono ?_
              rintro e w6 ⟨rfl, rfl⟩
              go_wp2
              rw [show ((cnt : Int) + 1 - (cnt : Int)) = 1 by omega]
              go_quiet (fail)
              go_wp2
              go_roundw
              case rel => exact ⟨d + 1, j + 1, _, cnt + 1, ⟨ls.drop (d + 1), none⟩, by go_num, by go_num, by omega, HREMN.out, .next _, HONE.out.doL _ _ _ _ _, by omega, (H4.out.same (Sep.alloc _ _ _)).same (Sep.drewN _ _ _)⟩
              case measure => simp [intOf]; omega
            · have H4 := Lib.hid h4
              obtain ⟨A', l', rfl⟩ : ∃ A' l', l = A' :: l' := by
                cases l with
                | nil => exact absurd rfl hl0
                | cons A' l' => exact ⟨A', l', rfl⟩
              have hat' : Hid (AtL ls d ⟨ls.drop (d + 1), some (A' :: l', told ++ [peekOf L 0 A.at_])⟩) := .inr ⟨A', l', _, rfl, HDL.out, by have := HTL0.out; simp at this ⊢; omega⟩
              clear h4 hl0
              unfold evt
              go_wp2_with fail
              refine (count_any (H4.out.same (Sep.alloc _ _ _)).mem).mono ?_
              rintro e w6 ⟨rfl, rfl⟩
              go_wp2
              rw [show ((cnt : Int) + 1 - (cnt : Int)) = 1 by omega]
              go_quiet (fail)
              go_wp2
              go_roundw
              case rel => exact ⟨d, j + 1, _, cnt + 1, ⟨ls.drop (d + 1), some (A' :: l', told ++ [peekOf L 0 A.at_])⟩, by go_num, by go_num, by omega, HREMM.out _, hat'.out, HONE.out.doL _ _ _ _ _, by omega, (H4.out.same (Sep.alloc _ _ _)).same (Sep.drewN _ _ _)⟩
              case measure => simp [intOf]; omega
        · obtain rfl : d = k := by omega
          obtain rfl := HAT.out.done HN.out
          have HST := Lib.hid hst
          clear hst hrem hat hone
          go_wp2_with fail
          refine (cap_any HST.out.mem 0).mono ?_
          rintro e w4 ⟨rfl, hs4⟩
          rw [HONE.out.cap]
          go_wp2_with fail
          refine ((HST.out.same hs4).idle 0 1).mono ?_
          rintro e w5 ⟨rfl, h5⟩
          have H5 := Lib.hid h5
          clear h5 hs4
          unfold evt
          go_wp2_with fail
          refine (busy_any (H5.out.same (Sep.alloc _ _ _)).wk).mono ?_
          rintro e w6 ⟨rfl, rfl⟩
          go_wp2_with fail
          refine (waits_any (H5.out.same (Sep.alloc _ _ _)).wk).mono ?_
          rintro e w7 ⟨rfl, rfl⟩
          go_wp2
          go_ret
          exact ⟨rfl, (H5.out.same (Sep.alloc _ _ _)).inn.below H5.out.ar.1 (Nat.le_refl _)⟩
end Go.Proofs.Ytiljledgoflogaa
