/- The walk of ThreadTwo. -/
import Derived.Test.YtiljledgoflogaaTl
namespace Go.Proofs.Ytiljledgoflogaa
open Go.RowKit
set_option linter.unusedSimpArgs false
set_option linter.unusedVariables false

set_option maxRecDepth 100000 in
theorem ttwo_long (a0 a1 a2 : Option Addr) (n0 c0 n1 c1 n2 c2 : Nat) (h : 20 < n0 ∨ 20 < n1 ∨ 60 < n2) (w : World) : Calls Try.prog 18 #[.slice a0 n0 c0, .slice a1 n1 c1, .slice a2 n2 c2] w fun e w' => e = .returned (.bool true) ∧ Below w.heap.size w w' := by
  by_cases h0 : 20 < n0
  · go_enter Try.func18, Try.ntmps18
    go_wp2_with fail
    refine (awake5_ok _).mono ?_
    rintro e w0 ⟨rfl, hs0⟩
    go_wp2_with fail
    refine (awake5_ok _).mono ?_
    rintro e w1 ⟨rfl, hs1⟩
    go_wp2
    go_ret
    exact ⟨rfl, Same.below (hs0.trans hs1)⟩
  · by_cases h1 : 20 < n1
    · go_enter Try.func18, Try.ntmps18
      go_wp2_with fail
      refine (awake5_ok _).mono ?_
      rintro e w0 ⟨rfl, hs0⟩
      go_wp2_with fail
      refine (awake5_ok _).mono ?_
      rintro e w1 ⟨rfl, hs1⟩
      go_wp2
      go_ret
      exact ⟨rfl, Same.below (hs0.trans hs1)⟩
    · have h2 : 60 < n2 := by omega
      go_enter Try.func18, Try.ntmps18
      go_wp2_with fail
      refine (awake5_ok _).mono ?_
      rintro e w0 ⟨rfl, hs0⟩
      go_wp2_with fail
      refine (awake5_ok _).mono ?_
      rintro e w1 ⟨rfl, hs1⟩
      go_wp2
      go_ret
      exact ⟨rfl, Same.below (hs0.trans hs1)⟩

theorem St2.rowN {lo hi mid hq mp xp xb xc yp yb yc : Nat} {w0 w : World} {v cnt : Nat} {Jx Jy : Job} (h : St2 lo hi mid hq mp xp xb xc yp yb yc w0 w v cnt Jx Jy) {a : Option Addr} {l : List Nat} (hr : RowN w0 a l) {k : Nat} (hk : k < l.length) :
    ∃ b off, a = some ⟨b, off, none⟩ ∧ b < w0.heap.size ∧ w.cell? ⟨b, off + k, none⟩ = some (.int .u8 (l.getD k 0 : Nat)) := by
  have ar := h.ar
  rcases hr with rfl | ⟨b, off, rfl, hb, h1⟩
  · simp at hk
  · exact ⟨b, off, rfl, hb, Sep.cell h.inn (h1 k hk) (by simp; omega)⟩
theorem St2.rowN2 {lo hi mid hq mp xp xb xc yp yb yc : Nat} {w0 w : World} {v cnt : Nat} {Jx Jy : Job} (h : St2 lo hi mid hq mp xp xb xc yp yb yc w0 w v cnt Jx Jy) {b off : Nat} {l : List Nat} (hr : RowN w0 (some ⟨b, off, none⟩) l) {k : Nat} (hk : k < l.length) :
    w.cell? ⟨b, off + k, none⟩ = some (.int .u8 (l.getD k 0 : Nat)) := by
  obtain ⟨b', off', h1, _, h2⟩ := h.rowN hr hk
  obtain ⟨rfl, rfl⟩ : b = b' ∧ off = off' := by simpa using h1
  exact h2
theorem St2.rowL {lo hi mid hq mp xp xb xc yp yb yc : Nat} {w0 w : World} {v cnt : Nat} {Jx Jy : Job} (h : St2 lo hi mid hq mp xp xb xc yp yb yc w0 w v cnt Jx Jy) {a : Option Addr} {l : List Bool} (hr : RowL w0 a l) {k : Nat} (hk : k < l.length) :
    ∃ b off, a = some ⟨b, off, none⟩ ∧ w.cell? ⟨b, off + k, none⟩ = some (.bool (l.getD k false)) := by
  have ar := h.ar
  rcases hr with rfl | ⟨b, off, rfl, hb, h1⟩
  · simp at hk
  · exact ⟨b, off, rfl, Sep.cell h.inn (h1 k hk) (by simp; omega)⟩

set_option maxRecDepth 100000 in
set_option maxHeartbeats 2000000 in
theorem ttwo_walk (a0 a1 a2 : Option Addr) (c0 c1 c2 : Nat) (ra1 rb1 : List Nat) (ps : List Bool) (ha : ra1.length ≤ 20) (hb : rb1.length ≤ 20) (hp : ps.length ≤ 60) (hA : ∀ n ∈ ra1, n ≤ 255) (hB : ∀ n ∈ rb1, n ≤ 255) (w : World) (qa : RowN w a0 ra1) (qb : RowN w a1 rb1) (qp : RowL w a2 ps) :
    Calls Try.prog 18 #[.slice a0 ra1.length c0, .slice a1 rb1.length c1, .slice a2 ps.length c2] w fun e w' => e = .returned (.bool true) ∧ Below w.heap.size w w' := by
  obtain ⟨na, hna⟩ : ∃ n, n = ra1.length := ⟨_, rfl⟩
  obtain ⟨nb, hnb⟩ : ∃ n, n = rb1.length := ⟨_, rfl⟩
  obtain ⟨np, hnp⟩ : ∃ n, n = ps.length := ⟨_, rfl⟩
  have QA := Lib.hid qa
  have QB := Lib.hid qb
  have QP := Lib.hid qp
  have hA' : ∀ k, k < na → ra1.getD k 0 ≤ 255 := by
    intro k hk
    rw [hna] at hk
    simp only [List.getD, List.getElem?_eq_getElem hk, Option.getD_some]
    exact hA _ (List.getElem_mem hk)
  have hB' : ∀ k, k < nb → rb1.getD k 0 ≤ 255 := by
    intro k hk
    rw [hnb] at hk
    simp only [List.getD, List.getElem?_eq_getElem hk, Option.getD_some]
    exact hB _ (List.getElem_mem hk)
  have HA := Lib.hid hA'
  have HB := Lib.hid hB'
  have la : na ≤ 20 := by omega
  have lb : nb ≤ 20 := by omega
  have lp : np ≤ 60 := by omega
  rw [← hna, ← hnb, ← hnp]
  have HNA := Lib.hid hna
  have HNB := Lib.hid hnb
  have HNP := Lib.hid hnp
  clear ha hb hp hA hB qa qb qp hna hnb hnp hA' hB'
  go_enter Try.func18, Try.ntmps18
  go_wp2_with fail
  refine (awake5_ok _).mono ?_
  rintro e w0 ⟨rfl, hs0⟩
  go_wp2_with fail
  refine (new_lit w0 [1] _ 1 rfl rfl (by decide) (by decide)).mono ?_
  rintro e w1 ⟨p, lo, hi, rfl, hm1, hs1, hlo, hhi⟩
  have HHI := Lib.hid hhi
  have hs01 := hs0.trans hs1
  have hsz := hs0.size
  clear hhi hs0 hs1
  go_wp2_with fail
  refine (wnew_ok (F := fun _ => True) p 20 (by decide) (by decide) w1).mono ?_
  rintro e w2 ⟨xp, xb, xc, rfl, hx, x1, x2, x3, hs2⟩
  have HX := Lib.hid hx
  go_wp2_with fail
  refine (wnew_ok (F := fun _ => True) p 20 (by decide) (by decide) w2).mono ?_
  rintro e w3 ⟨yp, yb, yc, rfl, hy, y1, y2, y3, hs3⟩
  have HY := Lib.hid hy
  have h3 : Hid (St2 lo hi w2.heap.size w3.heap.size p xp xb xc yp yb yc w w3 0 0 ⟨[], none⟩ ⟨[], none⟩) := by
    obtain ⟨k1, k2, k3, _⟩ := hx.lt
    obtain ⟨k4, k5, k6, _⟩ := hy.lt
    have hl := hm1.lop
    have := HHI.out
    exact ⟨(hx.same hs3).free, hy.free, (Mem.same hm1 hs2).same hs3, Same.sep ((hs01.trans hs2).trans hs3) _, Nat.le_refl _, by omega, by omega, by omega, by omega, by omega, by omega, by omega, by omega, by omega, by omega, by omega, by omega, by omega, by omega⟩
  obtain ⟨mid, hmid⟩ : ∃ m, m = w2.heap.size := ⟨_, rfl⟩
  obtain ⟨hq, hhq⟩ : ∃ m, m = w3.heap.size := ⟨_, rfl⟩
  rw [← hmid, ← hhq] at h3
  clear HX HY hx hy x1 x2 x3 y1 y2 y3 hs2 hs3 hm1 HHI hs01 hlo hsz hmid hhq
  go_wp2
  go_loopw [13, 14] (fun ss is wr => ∃ (k s : Nat) (J : Job), k ≤ na ∧ is = .int .i64 k ∧ ss = .int .u64 s ∧ s ≤ 255 * k ∧ St2 lo hi mid hq p xp xb xc yp yb yc w wr 0 0 J ⟨[], none⟩ ∧ GoodJ J ∧ J.box.length = k ∧ addsJ J = s ∧ leftJ J = 2 * k) (fun _ is _ => na - (intOf is).toNat)
  case atStart => exact ⟨0, 0, ⟨[], none⟩, by omega, rfl, rfl, by omega, h3.out, ⟨fun _ h => (by cases h), fun _ _ h => (by cases h)⟩, rfl, rfl, rfl⟩
  case round =>
    clear h3
    obtain ⟨k, s, J, hk, rfl, rfl, hs, hst, hg, hbl, had, hle⟩ := hrel
    have HST := Lib.hid hst
    have HG := Lib.hid hg
    have HBL := Lib.hid hbl
    have HAD := Lib.hid had
    have HLE := Lib.hid hle
    clear hg hbl had hle
    by_cases hlt : k < na
    · obtain ⟨b, off, rfl, hbw, hc⟩ := hst.rowN QA.out (by rw [← HNA.out]; exact hlt)
      have hn := HA.out k hlt
      obtain ⟨n, hnn⟩ : ∃ n, n = ra1.getD k 0 := ⟨_, rfl⟩
      rw [← hnn] at hn hc
      have ar := hst.ar
      have hcA : ∀ o, (wr.alloc o).cell? ⟨b, off + k, none⟩ = some (.int .u8 n) := fun o => (Sep.alloc (fun _ => False) wr o).cell hc (fun x => x)
      have HNN := Lib.hid hnn
      clear hst hnn ar
      go_wp2_with fail
      refine ((HST.out.same (Sep.alloc _ _ _)).givex (l := lx n) (lx_new wr n (.inr HST.out.le)) (by rw [HBL.out]; omega)).mono ?_
      rintro e w4 ⟨rfl, h4⟩
      have hc4 := h4.rowN2 QA.out (k := k) (by rw [← HNA.out]; exact hlt)
      rw [← HNN.out] at hc4
      have H4 := Lib.hid h4
      clear h4 hc hcA
      go_wp2
      go_roundw
      case rel => exact ⟨k + 1, s + n, _, by omega, by go_num, by go_num, by omega, H4.out, HG.out.give (by simp) (by simp) (good_lx n hn), by simp [HBL.out], by rw [adds_give, HAD.out]; simp [addsA], by rw [left_give, HLE.out]; simp; omega⟩
      case measure => simp [intOf]; omega
    · obtain rfl : k = na := by omega
      clear hst
      go_wp2
      go_loopw [13, 15] (fun ss is wr => ∃ (k2 s2 : Nat) (Jy : Job), k2 ≤ nb ∧ is = .int .i64 k2 ∧ ss = .int .u64 s2 ∧ s2 ≤ 255 * (k + k2) ∧ St2 lo hi mid hq p xp xb xc yp yb yc w wr 0 0 J Jy ∧ GoodJ Jy ∧ Jy.box.length = k2 ∧ addsJ J + addsJ Jy = s2 ∧ leftJ Jy = k2) (fun _ is _ => nb - (intOf is).toNat)
      case atStart => exact ⟨0, s, ⟨[], none⟩, by omega, rfl, rfl, by omega, HST.out, ⟨fun _ h => (by cases h), fun _ _ h => (by cases h)⟩, rfl, by rw [HAD.out]; rfl, rfl⟩
      case round =>
        clear HST HAD HBL hs
        obtain ⟨k2, s2, Jy, hk2, rfl, rfl, hs2, hst, hgy, hbl, had, hle⟩ := hrel
        have HST := Lib.hid hst
        have HGY := Lib.hid hgy
        have HBL := Lib.hid hbl
        have HAD := Lib.hid had
        have HLY := Lib.hid hle
        clear hgy hbl had hle
        by_cases hlt : k2 < nb
        · obtain ⟨b, off, rfl, hbw, hc⟩ := hst.rowN QB.out (by rw [← HNB.out]; exact hlt)
          have hn := HB.out k2 hlt
          obtain ⟨n, hnn⟩ : ∃ n, n = rb1.getD k2 0 := ⟨_, rfl⟩
          rw [← hnn] at hn hc
          have hcA : ∀ o, (wr.alloc o).cell? ⟨b, off + k2, none⟩ = some (.int .u8 n) := fun o => (Sep.alloc (fun _ => False) wr o).cell hc (fun x => x)
          have HNN := Lib.hid hnn
          clear hst hnn
          go_wp2_with fail
          refine ((HST.out.same (Sep.alloc _ _ _)).givey (l := ly n) (ly_new wr n (.inr HST.out.le)) (by rw [HBL.out]; omega)).mono ?_
          rintro e w4 ⟨rfl, h4⟩
          have hc4 := h4.rowN2 QB.out (k := k2) (by rw [← HNB.out]; exact hlt)
          rw [← HNN.out] at hc4
          have H4 := Lib.hid h4
          clear h4 hc hcA
          go_wp2
          go_roundw
          case rel => exact ⟨k2 + 1, s2 + n, _, by omega, by go_num, by go_num, by omega, H4.out, HGY.out.give (by simp) (by simp) (good_ly n hn), by simp [HBL.out], by rw [adds_give, ← HAD.out]; simp [addsA]; omega, by rw [left_give, HLY.out]; simp⟩
          case measure => simp [intOf]; omega
        · obtain rfl : k2 = nb := by omega
          have hle' := HLE.out
          have hly' := HLY.out
          clear hst HBL
          go_wp2
          go_loopw [16] (fun is wr => ∃ (j v cnt : Nat) (Jx' Jy' : Job), is = .int .i64 j ∧ j ≤ np + 60 ∧ St2 lo hi mid hq p xp xb xc yp yb yc w wr v cnt Jx' Jy' ∧ GoodJ Jx' ∧ GoodJ Jy' ∧ v + addsJ Jx' + addsJ Jy' = s2 ∧ cnt + leftJ Jx' + leftJ Jy' = 2 * k + k2 ∧
            leftJ Jx' ≤ 40 - ((j - np) - ((j + 2) / 3 - (np + 2) / 3)) ∧ leftJ Jy' ≤ 20 - ((j + 2) / 3 - (np + 2) / 3)) (fun is _ => np + 60 - (intOf is).toNat)
          case atStart => exact ⟨0, 0, 0, J, Jy, rfl, by omega, HST.out, HG.out, HGY.out, by rw [← HAD.out]; omega, by omega, by omega, by omega⟩
          case round =>
            clear HST HAD HLE HLY HG HGY hle' hly'
            obtain ⟨j, v, cnt, Jx, Jy2, rfl, hj, hst, hgx, hgy, had, hleft, hlx, hly⟩ := hrel
            have HST := Lib.hid hst
            have HGX := Lib.hid hgx
            have HGY := Lib.hid hgy
            have HAD := Lib.hid had
            have HLEFT := Lib.hid hleft
            have HLX := Lib.hid hlx
            have HLY := Lib.hid hly
            have hv : v ≤ 1000000 := by omega
            have hcn : cnt < 1000000000 := by omega
            clear hgx hgy had hleft hlx hly
            by_cases hlt : j < np + 60
            · by_cases hjp : j < np
              · obtain ⟨b, off, rfl, hc⟩ := hst.rowL QP.out (by rw [← HNP.out]; exact hjp)
                clear hst
                cases hbv : ps.getD j false with
                | true =>
                  rw [hbv] at hc
                  clear hbv
                  go_wp2_with fail
                  refine (cap_any HST.out.mem 0).mono ?_
                  rintro e w4 ⟨rfl, hs4⟩
                  rw [show capOf [⟨[(v : Int)], 1⟩] 0 = .agg #[.int .i64 0, .int .u64 1] from rfl]
                  go_wp2_with fail
                  refine ((HST.out.same hs4).pickx HGX.out hv hcn).mono ?_
                  rintro e w5 ⟨r, J5, v5, cnt5, rfl, h5, g5, e1, e2, e3⟩
                  have H5 := Lib.hid h5
                  have E1 := Lib.hid e1
                  have E2 := Lib.hid e2
                  have E3 := Lib.hid e3
                  clear h5 e1 e2 e3 hs4
                  go_wp2
                  go_roundw
                  case rel => exact ⟨j + 1, v5, cnt5, J5, Jy2, by go_num, by omega, H5.out, g5, HGY.out, by have := HAD.out; have := E1.out; omega, by have := HLEFT.out; have := E2.out; omega, by have := HLX.out; have := HLY.out; have := E3.out; omega, by have := HLX.out; have := HLY.out; have := E3.out; omega⟩
                  case measure => simp [intOf]; omega
                | false =>
                  rw [hbv] at hc
                  clear hbv
                  go_wp2_with fail
                  refine (cap_any HST.out.mem 0).mono ?_
                  rintro e w4 ⟨rfl, hs4⟩
                  rw [show capOf [⟨[(v : Int)], 1⟩] 0 = .agg #[.int .i64 0, .int .u64 1] from rfl]
                  go_wp2_with fail
                  refine ((HST.out.same hs4).picky HGY.out hv hcn).mono ?_
                  rintro e w5 ⟨r, J5, v5, cnt5, rfl, h5, g5, e1, e2, e3⟩
                  have H5 := Lib.hid h5
                  have E1 := Lib.hid e1
                  have E2 := Lib.hid e2
                  have E3 := Lib.hid e3
                  clear h5 e1 e2 e3 hs4
                  go_wp2
                  go_roundw
                  case rel => exact ⟨j + 1, v5, cnt5, Jx, J5, by go_num, by omega, H5.out, HGX.out, g5, by have := HAD.out; have := E1.out; omega, by have := HLEFT.out; have := E2.out; omega, by have := HLX.out; have := HLY.out; have := E3.out; omega, by have := HLX.out; have := HLY.out; have := E3.out; omega⟩
                  case measure => simp [intOf]; omega
              · by_cases hm : 0 < (j : Int) % 3
                · clear hst
                  go_wp2_with fail
                  refine (cap_any HST.out.mem 0).mono ?_
                  rintro e w4 ⟨rfl, hs4⟩
                  rw [show capOf [⟨[(v : Int)], 1⟩] 0 = .agg #[.int .i64 0, .int .u64 1] from rfl]
                  go_wp2_with fail
                  refine ((HST.out.same hs4).pickx HGX.out hv hcn).mono ?_
                  rintro e w5 ⟨r, J5, v5, cnt5, rfl, h5, g5, e1, e2, e3⟩
                  have H5 := Lib.hid h5
                  have E1 := Lib.hid e1
                  have E2 := Lib.hid e2
                  have E3 := Lib.hid e3
                  clear h5 e1 e2 e3 hs4
                  go_wp2
                  go_roundw
                  case rel => exact ⟨j + 1, v5, cnt5, J5, Jy2, by go_num, by omega, H5.out, g5, HGY.out, by have := HAD.out; have := E1.out; omega, by have := HLEFT.out; have := E2.out; omega, by have := HLX.out; have := HLY.out; have := E3.out; omega, by have := HLX.out; have := HLY.out; have := E3.out; omega⟩
                  case measure => simp [intOf]; omega
                · clear hst
                  go_wp2_with fail
                  refine (cap_any HST.out.mem 0).mono ?_
                  rintro e w4 ⟨rfl, hs4⟩
                  rw [show capOf [⟨[(v : Int)], 1⟩] 0 = .agg #[.int .i64 0, .int .u64 1] from rfl]
                  go_wp2_with fail
                  refine ((HST.out.same hs4).picky HGY.out hv hcn).mono ?_
                  rintro e w5 ⟨r, J5, v5, cnt5, rfl, h5, g5, e1, e2, e3⟩
                  have H5 := Lib.hid h5
                  have E1 := Lib.hid e1
                  have E2 := Lib.hid e2
                  have E3 := Lib.hid e3
                  clear h5 e1 e2 e3 hs4
                  go_wp2
                  go_roundw
                  case rel => exact ⟨j + 1, v5, cnt5, Jx, J5, by go_num, by omega, H5.out, HGX.out, g5, by have := HAD.out; have := E1.out; omega, by have := HLEFT.out; have := E2.out; omega, by have := HLX.out; have := HLY.out; have := E3.out; omega, by have := HLX.out; have := HLY.out; have := E3.out; omega⟩
                  case measure => simp [intOf]; omega
            · have hjn : j = np + 60 := by omega
              have ex : leftJ Jx = 0 := by have := HLX.out; omega
              have ey : leftJ Jy2 = 0 := by have := HLY.out; omega
              obtain rfl := HGX.out.done ex
              obtain rfl := HGY.out.done ey
              have hvs : v = s2 := by have := HAD.out; simpa [addsJ, addsB] using this
              have hcc : cnt = 2 * k + k2 := by have := HLEFT.out; simpa [leftJ, leftB] using this
              have HV := Lib.hid hvs
              have HC := Lib.hid hcc
              clear hst ex ey hvs hcc hjn
              go_wp2_with fail
              refine (peek_any HST.out.mem 0 0).mono ?_
              rintro e w4 ⟨rfl, rfl⟩
              rw [show peekOf [⟨[(v : Int)], 1⟩] 0 0 = (v : Int) from rfl, HV.out]
              go_wp2_with fail
              refine (busy_any HST.out.wx).mono ?_
              rintro e w5 ⟨rfl, rfl⟩
              go_wp2_with fail
              refine (busy_any HST.out.wy).mono ?_
              rintro e w6 ⟨rfl, rfl⟩
              go_wp2_with fail
              refine (count_any HST.out.mem).mono ?_
              rintro e w7 ⟨rfl, rfl⟩
              rw [HC.out]
              go_wp2
              go_ret
              exact ⟨rfl, HST.out.inn.below HST.out.ar.1 (Nat.le_refl _)⟩
end Go.Proofs.Ytiljledgoflogaa
