/- The walk of ThreadPicks. -/
import Derived.Test.YtiljledgoflogaaPf
import Derived.Deep.CutBlock
import Derived.Deep.CutRange
namespace Go.Proofs.Ytiljledgoflogaa
open Go.RowKit
set_option linter.unusedSimpArgs false
set_option linter.unusedVariables false

/-- What the loop of ThreadPicks keeps. -/
def PLoop (lo hi hq wp mp bp c sz bx bv bf : Nat) (w0 : World) (k : Nat) (wr : World) : Prop :=
  ∃ L cnt J, Both lo hi hq wp mp bp c sz bx bv bf w0 wr L cnt J ∧ GoodT J ∧ Sized L cnt k ∧ J.box.length ≤ sz
/-- The reference's Give is done. -/
def PGive (F : Nat → Prop) (sz : Nat) (bo : Bool) (J2 : Job) (wr : World) (s14 s15 : Value) (wx : World) : Prop :=
  ∃ (b14 : Nat) (z0 z1 z2 z3 z4 : Value), s14 = .pointer (some ⟨b14, 0, none⟩) ∧ s15 = .bool bo ∧ Same wr wx ∧ wr.heap.size ≤ b14 ∧ wx.heap[b14]? = some (.cells #[z0, z1, z2, z3, z4] 118) ∧ RW F wx (.agg #[z0, z1, z2, z3, z4]) sz J2
theorem two_b (w : World) (x0 x1 x2 u0 u1 : Value) : ∃ W, W = (w.alloc (.cells #[x0, x1, x2] 51)).alloc (.cells #[u0, u1] 33) ∧ Same w W ∧ W.heap[w.heap.size]? = some (.cells #[x0, x1, x2] 51) := by
  have hs : ∀ (w : World) (o : Obj), (w.alloc o).heap.size = w.heap.size + 1 := by intro w o; simp
  refine ⟨_, rfl, (Sep.alloc _ _ _).thenAlloc _, ?_⟩
  simp only [heap_push, hs]
  repeat (first | exact if_pos trivial | rw [if_pos (by omega)] | rw [if_neg (by omega)])
theorem three_q (w : World) (x0 x1 x2 x3 x4 m0 m1 m2 e0 e1 : Value) : ∃ W, W = ((w.alloc (.cells #[x0, x1, x2, x3, x4] 118)).alloc (.cells #[m0, m1, m2] 51)).alloc (.cells #[e0, e1] 123) ∧
    Same w W ∧ W.heap[w.heap.size]? = some (.cells #[x0, x1, x2, x3, x4] 118) ∧ W.heap[w.heap.size + 1]? = some (.cells #[m0, m1, m2] 51) ∧ W.heap[w.heap.size + 2]? = some (.cells #[e0, e1] 123) := by
  have hs : ∀ (w : World) (o : Obj), (w.alloc o).heap.size = w.heap.size + 1 := by intro w o; simp
  refine ⟨_, rfl, ((Sep.alloc _ _ _).thenAlloc _).thenAlloc _, ?_, ?_, ?_⟩ <;> (simp only [heap_push, hs]; repeat (first | exact if_pos trivial | rw [if_pos (by omega)] | rw [if_neg (by omega)]))
theorem rbump_z {F : Nat → Prop} {w : World} {v : Value} {L : List Reg} {cnt : Nat} (h : RM F w v L cnt) (hi : 0 < L.length) (he : (L.getD 0 default).ep < 1000000) (hn : L.length ≤ 1000) (hF : ∀ b, w.heap.size ≤ b → F b) :
    Calls Try.prog 30 #[v, .int .i64 0] w fun e w' => ∃ (z0 z1 z2 : Value) (e1 : Int) (u2 : Value), e = .returned (.tuple #[.agg #[z0, z1, z2], .agg #[.int .i64 0, .int .u64 e1], u2]) ∧ RM F w' (.agg #[z0, z1, z2]) (bumpL L 0) cnt ∧ Same w w' := by
  refine (rbump_ok h 0 hi he hn hF).mono ?_
  rintro e w' ⟨v', rfl, h2, hs⟩
  obtain ⟨wa, wc, ea, ec, rfl⟩ := h2.form
  exact ⟨_, _, _, _, _, rfl, h2, hs⟩
theorem RM.form0 {F : Nat → Prop} {w : World} {v : Value} {L : List Reg} {cnt : Nat} (h : RM F w v L cnt) : ∃ z0 z1 z2, v = .agg #[z0, z1, z2] := by
  obtain ⟨wa, wc, ea, ec, rfl⟩ := h.form
  exact ⟨_, _, _, rfl⟩
theorem RW.form5 {F : Nat → Prop} {w : World} {size : Nat} {J : Job} {z0 z1 z2 z3 z4 : Value} (h : RW F w (.agg #[z0, z1, z2, z3, z4]) size J) : ∃ (ba : Option Addr) (bl bc : Nat) (bz : Bool) (la : Option Addr) (ll lc : Nat) (ta : Option Addr) (tl tc : Nat), z0 = .int .i64 (size : Int) ∧ z1 = .slice ba bl bc ∧ z2 = .bool bz ∧ z3 = .slice la ll lc ∧ z4 = .slice ta tl tc := by
  obtain ⟨ba, bc, la, ln, lc, ta, tn, tc, vs, e, _⟩ := h
  simp at e
  exact ⟨_, _, _, _, _, _, _, _, _, _, e.1, e.2.1, e.2.2.1, e.2.2.2.1, e.2.2.2.2⟩
theorem RM.form5 {F : Nat → Prop} {w : World} {L : List Reg} {cnt : Nat} {z0 z1 z2 : Value} (h : RM F w (.agg #[z0, z1, z2]) L cnt) : ∃ (wa : Option Addr) (wl wk : Nat) (ea : Option Addr) (el ec : Nat) (cq : Int), z0 = .slice wa wl wk ∧ z1 = .slice ea el ec ∧ z2 = .int .i64 cq := by
  obtain ⟨wa, wc, ea, ec, e⟩ := h.form
  simp at e
  exact ⟨_, _, _, _, _, _, _, e.1, e.2.1, e.2.2⟩
theorem set5 {w : World} {b : Nat} {y0 y1 y2 y3 y4 x0 x1 x2 x3 x4 : Value} (h : w.heap[b]? = some (.cells #[y0, y1, y2, y3, y4] 118)) :
    (((((w.setCell ⟨b, 0, none⟩ x0).setCell ⟨b, 1, none⟩ x1).setCell ⟨b, 2, none⟩ x2).setCell ⟨b, 3, none⟩ x3).setCell ⟨b, 4, none⟩ x4).heap[b]? = some (.cells #[x0, x1, x2, x3, x4] 118) := by
  rw [heap_set_same (heap_set_same (heap_set_same (heap_set_same (heap_set_same h))))]; rfl
/-- Both, behind a give. -/
theorem Both.mk2 {lo hi hq wp mp bp c size bx bv bf : Nat} {w0 w : World} {L : List Reg} {cnt : Nat} {J : Job} {x0 x1 x2 v0 v1 v2 v3 v4 : Value} (st : St lo hi hq wp mp bp c size w0 w L cnt J) (ox : w.heap[bx]? = some (.cells #[x0, x1, x2] 51)) (rm : RM (FR lo hi wp bp c bx bv bf) w (.agg #[x0, x1, x2]) L cnt)
    (ov : w.heap[bv]? = some (.cells #[v0, v1, v2, v3, v4] 118)) (rw : RW (FR lo hi wp bp c bx bv bf) w (.agg #[v0, v1, v2, v3, v4]) size J) (fb : w.heap[bf]? = some (.cells #[.int .i64 0, .int .u64 1] 33))
    (br : hi ≤ bx ∧ bx < hq ∧ hi ≤ bv ∧ bv < hq ∧ hi ≤ bf ∧ bf < hq ∧ bx ≠ wp ∧ bx ≠ bp ∧ bx ≠ c ∧ bv ≠ wp ∧ bv ≠ bp ∧ bv ≠ c ∧ bf ≠ wp ∧ bf ≠ bp ∧ bf ≠ c ∧ bx ≠ bv ∧ bx ≠ bf ∧ bv ≠ bf) : Both lo hi hq wp mp bp c size bx bv bf w0 w L cnt J :=
  ⟨st, ⟨x0, x1, x2, ox, rm⟩, ⟨v0, v1, v2, v3, v4, ov, rw⟩, fb, br⟩

set_option maxRecDepth 100000 in
set_option maxHeartbeats 8000000 in
theorem tpicks_round (b off : Nat) (va : Option Addr) (vc n k kd' : Nat) : True := trivial

set_option maxRecDepth 100000 in
set_option maxHeartbeats 8000000 in
theorem tpicks_walk (a0 : Option Addr) (c0 : Nat) (ls : List PCall) (size : Int) (w : World) (q0 : ArgP w a0 ls) : Calls Try.prog 19 #[.int .i64 size, .slice a0 ls.length c0] w fun e w' => e = .returned (.bool true) ∧ Below w.heap.size w w' := by
  obtain ⟨n, hn⟩ : ∃ n, n = ls.length := ⟨_, rfl⟩
  have Q0 := Lib.hid q0
  rw [← hn]
  have HN := Lib.hid hn
  clear q0 hn
  go_enter Try.func19, Try.ntmps19
  go_wp2_with fail
  refine (awake5_ok _).mono ?_
  rintro e w0 ⟨rfl, hs0⟩
  go_wp2_with fail
  refine (few5_n a0 n c0 ls w0 HN.out (Q0.out.same hs0)).mono ?_
  rintro e w1 ⟨r, rfl, rfl, hr⟩
  cases r with
  | false =>
    go_wp2_with fail
    refine (awake5_ok _).mono ?_
    rintro e w2 ⟨rfl, hs2⟩
    go_wp2
    go_ret
    exact ⟨rfl, Same.below (hs0.trans hs2)⟩
  | true =>
  obtain ⟨hn80, hten⟩ := hr rfl
  have HTEN := Lib.hid hten
  have hn80' : n ≤ 80 := by rw [HN.out]; exact hn80
  clear hr hten hn80
  go_wp2_with fail
  refine (new_lit w0 [8] _ 1 rfl rfl (by decide) (by decide)).mono ?_
  rintro e w1 ⟨p, lo, hi, rfl, hm, hs, hlo', hhi⟩
  have hlo : w.heap.size ≤ lo := Nat.le_trans hs0.size hlo'
  have hsa : Same w w1 := hs0.trans hs
  replace hm : Mem lo hi w1 p fresh8 0 := hm
  have hle1 : hi ≤ w1.heap.size := hm.le
  clear hs hlo' hs0 hhi
  go_wp2_with fail
  refine (rnew8 (F := fun b => hi ≤ b) w1 (fun b hb => Nat.le_trans hle1 hb)).mono ?_
  rintro e w2 ⟨wa, wk, ea, ec, rfl, hrm, hs2⟩
  have hm2 := hm.same hs2
  have hsa2 : Same w w2 := hsa.trans hs2
  obtain ⟨bx, hbx⟩ : ∃ b, b = w2.heap.size := ⟨_, rfl⟩
  obtain ⟨W2, hW2⟩ : ∃ x, x = w2.alloc (.cells #[.slice wa 1 wk, .slice ea 1 ec, .int .i64 ((0 : Nat) : Int)] 51) := ⟨_, rfl⟩
  have hobx : W2.heap[bx]? = some (.cells #[.slice wa 1 wk, .slice ea 1 ec, .int .i64 ((0 : Nat) : Int)] 51) := by rw [hW2, hbx]; exact heap_alloc_new _ _
  have hsW2 : Same w2 W2 := by rw [hW2]; exact Sep.alloc _ _ _
  have hrm2 := (hrm.imp (G := fun b => hi ≤ b ∧ b ≠ bx) (fun b hb hlt => ⟨hb, by omega⟩)).same hsW2
  have hmW2 := hm2.same hsW2
  have hsaW2 : Same w W2 := hsa2.trans hsW2
  have hbxi : hi ≤ bx := by have := hm2.le; omega
  have hbxW : bx < W2.heap.size := lt_of_block hobx
  have HBX := Lib.hid hbx
  have HW2 := Lib.hid hW2
  have HOBX := Lib.hid hobx
  have HRM2 := Lib.hid hrm2
  clear hm hsa hs2 hrm hm2 hsa2 hbx hW2 hobx hsW2 hrm2
  rw [show ((0 : Nat) : Int) = 0 from rfl] at HW2 HOBX HRM2 ⊢
  go_wp2_with fail
  rw [← HBX.out, ← HW2.out]
  by_cases hsz : size < 1 ∨ 4096 < size
  · refine (wnew_no (some ⟨p, 0, none⟩) size hsz W2).mono ?_
    rintro e w3 ⟨rfl, rfl⟩
    by_cases h1 : size < 1
    · go_wp2
      go_ret
      exact ⟨rfl, Same.below hsaW2⟩
    · have h2 : 4096 < size := by omega
      go_wp2
      go_ret
      exact ⟨rfl, Same.below hsaW2⟩
  obtain ⟨sz, rfl⟩ : ∃ sz : Nat, size = (sz : Int) := ⟨size.toNat, by omega⟩
  have hsz1 : 1 ≤ sz := by omega
  have hsz2 : sz ≤ 4096 := by omega
  have hszi1 : ¬ ((sz : Int) < 1) := by omega
  have hszi2 : ¬ ((4096 : Int) < (sz : Int)) := by omega
  clear hsz
  refine (St.make2 (w0 := w) sz hsz1 hsz2 hmW2 hsaW2 hlo hmW2.le).mono ?_
  rintro e w3 ⟨wp, bp, c, hq0, rfl, hst, hs3, a1, a2, a3, hhq⟩
  obtain ⟨bv, hbv⟩ : ∃ b, b = w3.heap.size := ⟨_, rfl⟩
  obtain ⟨W3, hW3⟩ : ∃ x, x = w3.alloc (.cells #[.int .i64 (sz : Int), .slice none 0 0, .bool false, .slice none 0 0, .slice none 0 0] 118) := ⟨_, rfl⟩
  have hobv : W3.heap[bv]? = some (.cells #[.int .i64 (sz : Int), .slice none 0 0, .bool false, .slice none 0 0, .slice none 0 0] 118) := by rw [hW3, hbv]; exact heap_alloc_new _ _
  have hsW3 : Same w3 W3 := by rw [hW3]; exact Sep.alloc _ _ _
  have hstW3 := hst.same hsW3
  have hbvW : bv < W3.heap.size := lt_of_block hobv
  have HBV := Lib.hid hbv
  have HW3 := Lib.hid hW3
  have HOBV := Lib.hid hobv
  have HSW3 := Lib.hid hsW3
  have HS3 := Lib.hid hs3
  have HST3 := Lib.hid hstW3
  clear hbv hW3 hobv hst hstW3 hsW3 hs3
  go_wp2_with fail
  rw [← HBV.out, ← HW3.out]
  refine (cap_any HST3.out.mem 0).mono ?_
  rintro e w4 ⟨rfl, hs4⟩
  rw [show capOf fresh8 0 = .agg #[.int .i64 0, .int .u64 1] from rfl]
  obtain ⟨bf, hbf⟩ : ∃ b, b = w4.heap.size := ⟨_, rfl⟩
  obtain ⟨W4, hW4⟩ : ∃ W, W = w4.alloc (.cells #[.int .i64 0, .int .u64 1] 33) := ⟨_, rfl⟩
  have hobf : W4.heap[bf]? = some (.cells #[.int .i64 0, .int .u64 1] 33) := by rw [hW4, hbf]; exact heap_alloc_new _ _
  have hsW4 : Same W3 W4 := by rw [hW4]; exact hs4.thenAlloc _
  have hbfW : bf < W4.heap.size := lt_of_block hobf
  obtain ⟨hq, hhq2⟩ : ∃ b, b = W4.heap.size := ⟨_, rfl⟩
  have hPL : PLoop lo hi hq wp p bp c sz bx bv bf w 0 W4 := by
    have e3 := HBV.out
    have z2 := HS3.out.size
    have z4 := hs4.size
    have z3 := HST3.out.wk.lt
    have zW := hsW4.size
    have ar := HST3.out.ar
    have hs24 : Same W2 W4 := (HS3.out.trans HSW3.out).trans hsW4
    have br : hi ≤ bx ∧ bx < hq ∧ hi ≤ bv ∧ bv < hq ∧ hi ≤ bf ∧ bf < hq ∧ bx ≠ wp ∧ bx ≠ bp ∧ bx ≠ c ∧ bv ≠ wp ∧ bv ≠ bp ∧ bv ≠ c ∧ bf ≠ wp ∧ bf ≠ bp ∧ bf ≠ c ∧ bx ≠ bv ∧ bx ≠ bf ∧ bv ≠ bf := by omega
    refine ⟨fresh8, 0, ⟨[], none⟩, Both.mk2 ((HST3.out.same hsW4).wide (by omega) (by omega)) (Same.obj hs24 HOBX.out) ((HRM2.out.imp (G := FR lo hi wp bp c bx bv bf) (fun b hb hlt => by omega)).same hs24) (Same.obj hsW4 HOBV.out) ?_ hobf br, ⟨fun l h => by simp at h, fun l t h => by cases h⟩, ⟨rfl, rfl, by decide, by omega⟩, by simp⟩
    exact ⟨none, 0, none, 0, 0, none, 0, 0, [], rfl, ⟨rfl, .inl ⟨rfl, rfl⟩⟩, trivial, fun l t h => by cases h⟩
  have HWl : Hid (w.heap.size ≤ lo) := hlo
  have HBF := Lib.hid hbf
  have HW4 := Lib.hid hW4
  have HPL := Lib.hid hPL
  clear hPL hbf hW4 hobf hsW4 hhq2 hbfW hbvW hbxW hs4 HST3 HSW3 HS3 HOBV HOBX HRM2 hmW2 hsaW2 hlo hle1 hbxi a1 a2 a3 hhq
  go_wp2
  rw [← HBF.out, ← HW4.out]
  go_loopw [13] (fun i wr => ∃ k : Nat, k ≤ n ∧ i = .int .i64 k ∧ PLoop lo hi hq wp p bp c sz bx bv bf w k wr) (fun i _ => n - (intOf i).toNat)
  case atStart => exact ⟨0, by omega, rfl, HPL.out⟩
  case round =>
    clear HPL
    obtain ⟨k, hk, rfl, L, cnt, J, hB, hG, hS, hJs⟩ := hrel
    by_cases hlt : k < n
    · have hkl : k < ls.length := by rw [← HN.out]; exact hlt
      obtain ⟨b, off, va, vc, rfl, hblo, ck, cs, cl, harg⟩ := hB.st.prow Q0.out hkl
      obtain ⟨lk, hlk⟩ : ∃ x, x = (ls.getD k default).l := ⟨_, rfl⟩
      have hl10 : lk.length ≤ 10 := by rw [hlk]; exact HTEN.out k hkl
      rw [← hlk] at cl harg
      obtain ⟨ln, hln⟩ : ∃ x, x = lk.length := ⟨_, rfl⟩
      rw [← hln] at cl
      obtain ⟨kd, hkd⟩ : ∃ x, x = (ls.getD k default).kind := ⟨_, rfl⟩
      rw [← hkd] at ck
      obtain ⟨sl, hsl⟩ : ∃ x, x = (ls.getD k default).stale := ⟨_, rfl⟩
      rw [← hsl] at cs
      have HB := Lib.hid hB
      have HG := Lib.hid hG
      have HS := Lib.hid hS
      have HJS := Lib.hid hJs
      have HLN := Lib.hid hln
      have HARG := Lib.hid harg
      have HL10 := Lib.hid hl10
      clear hB hG hS hJs hln harg hkl hkd hsl hlk hl10
      go_upto_block 2 with fail
      go_cut [14, 15, 16, 17, 18, 19, 20, 21, 22, 23] from 77 to 168 (fun _ _ _ _ _ _ _ _ _ _ wx => PLoop lo hi hq wp p bp c sz bx bv bf w (k + 1) wx)
      case first =>
        obtain ⟨x0, x1, x2, ox, hrm⟩ := HB.out.xb
        obtain ⟨v0, v1, v2, v3, v4, ov, hrw⟩ := HB.out.vb
        have HOX := Lib.hid ox
        have HOV := Lib.hid ov
        have HRM := Lib.hid hrm
        have HRW := Lib.hid hrw
        have HBR := Lib.hid HB.out.br
        have HAR := Lib.hid HB.out.st.ar
        have HLE := Lib.hid HB.out.st.le
        have HFF : Hid (∀ b, hq ≤ b → FR lo hi wp bp c bx bv bf b) := fun b hb => by have := HBR.out; have := HAR.out; omega
        clear hrm hrw ck
        by_cases h1 : kd = 1
        · subst h1
          obtain ⟨bo, hbo⟩ : ∃ bo, bo = decide (J.box.length < sz) := ⟨_, rfl⟩
          have HBO := Lib.hid hbo
          have HARR : Hid (ArgF (FR lo hi wp bp c bx bv bf) wr (.slice va lk.length vc) lk) := HB.out.st.argR (by have := HBR.out; omega) HARG.out
          clear hbo ox cs
          obtain ⟨y0, y1, y2, y3, y4, yf⟩ := cells5 ov
          clear ov yf
          go_upto_region 28 with fail
          go_cut [14, 15] from 77 to 168 (fun s14 s15 wx => PGive (FR lo hi wp bp c bx bv bf) sz bo (giveJ bo J lk) wr s14 s15 wx)
          case first =>
            refine wp_region_held_drew (S := (fun v => v.cell? ⟨bv, 0, none⟩ = some (v0) ∧ v.cell? ⟨bv, 1, none⟩ = some (v1) ∧ v.cell? ⟨bv, 2, none⟩ = some (v2) ∧ v.cell? ⟨bv, 3, none⟩ = some (v3) ∧ v.cell? ⟨bv, 4, none⟩ = some (v4) ∧ v.cell? ⟨b, off + k * 3 + 2, none⟩ = some (.slice va ln vc))) (by kernel_rfl) ?_ (fun hHeld => ?_)
            · exact ⟨(Sep.drew (fun _ => False) wr).cell y0 (fun x => x), (Sep.drew (fun _ => False) wr).cell y1 (fun x => x), (Sep.drew (fun _ => False) wr).cell y2 (fun x => x), (Sep.drew (fun _ => False) wr).cell y3 (fun x => x), (Sep.drew (fun _ => False) wr).cell y4 (fun x => x), (Sep.drew (fun _ => False) wr).cell cl (fun x => x)⟩
            change wpAnyH _ _ _ _ _ 13 _ _ _
            refine wpAnyH_take (i := 0) (oi := ⟨some 125, _, _, _, _, _⟩) (v := ?v1) rfl (by kernel_rfl) (by kernel_rfl) (by kernel_rfl) (fun _ _ _ h => h) (Or.inl ⟨by kernel_rfl, ?h1⟩) hHeld ?_
            case h1 => intro w hSw; (try dsimp only at hSw); go_simp; try with_reducible rfl
            try simp only [Act.put, List.setIfInBounds_toArray, List.set_cons_zero, List.set_cons_succ]
            refine wpAnyH_take (i := 1) (oi := ⟨some 126, _, _, _, _, _⟩) (v := ?v2) rfl (by kernel_rfl) (by kernel_rfl) (by kernel_rfl) (fun _ _ _ h => h) (Or.inl ⟨by kernel_rfl, ?h2⟩) hHeld ?_
            case h2 => intro w hSw; (try dsimp only at hSw); go_simp; try with_reducible rfl
            try simp only [Act.put, List.setIfInBounds_toArray, List.set_cons_zero, List.set_cons_succ]
            refine wpAnyH_take (i := 2) (oi := ⟨some 127, _, _, _, _, _⟩) (v := ?v3) rfl (by kernel_rfl) (by kernel_rfl) (by kernel_rfl) (fun _ _ _ h => h) (Or.inl ⟨by kernel_rfl, ?h3⟩) hHeld ?_
            case h3 => intro w hSw; (try dsimp only at hSw); go_simp; try with_reducible rfl
            try simp only [Act.put, List.setIfInBounds_toArray, List.set_cons_zero, List.set_cons_succ]
            refine wpAnyH_take (i := 3) (oi := ⟨some 128, _, _, _, _, _⟩) (v := ?v4) rfl (by kernel_rfl) (by kernel_rfl) (by kernel_rfl) (fun _ _ _ h => h) (Or.inl ⟨by kernel_rfl, ?h4⟩) hHeld ?_
            case h4 => intro w hSw; (try dsimp only at hSw); go_simp; try with_reducible rfl
            try simp only [Act.put, List.setIfInBounds_toArray, List.set_cons_zero, List.set_cons_succ]
            refine wpAnyH_take (i := 4) (oi := ⟨some 129, _, _, _, _, _⟩) (v := ?v5) rfl (by kernel_rfl) (by kernel_rfl) (by kernel_rfl) (fun _ _ _ h => h) (Or.inl ⟨by kernel_rfl, ?h5⟩) hHeld ?_
            case h5 => intro w hSw; (try dsimp only at hSw); go_simp; try with_reducible rfl
            try simp only [Act.put, List.setIfInBounds_toArray, List.set_cons_zero, List.set_cons_succ]
            refine wpAnyH_take (i := 5) (oi := ⟨some 130, _, _, _, _, _⟩) (v := ?v6) rfl (by kernel_rfl) (by kernel_rfl) (by kernel_rfl) (fun _ _ _ h => h) (Or.inl ⟨by kernel_rfl, ?h6⟩) hHeld ?_
            case h6 => intro w hSw; (try dsimp only at hSw); go_simp; try with_reducible rfl
            try simp only [Act.put, List.setIfInBounds_toArray, List.set_cons_zero, List.set_cons_succ]
            refine wpAnyH_ready (rs := [6, 10]) (by kernel_rfl) (by simp) ?_
            refine AllReadyH.cons (o := ⟨some 131, _, _, _, _, _⟩) rfl (fun K hK => ?_) ?_
            ·
              rw [if_pos (by kernel_rfl)]
              go_simp
              refine (rgive_any (F := fun q => FR lo hi wp bp c bx bv bf q) ((HRW.out.imp (fun q hq hlt => hq)).same (Sep.drew (fun _ => False) wr)) HLN.out ((HARR.out.imp (fun q hq hlt => hq)).stay (Sep.drew (fun _ => False) wr) (fun _ _ _ x => x)) (by omega) (fun q hq => by have := Sep.size (Sep.drew (fun _ => False) wr); exact HFF.out q (by have := HLE.out; omega)) bo HBO.out).mono ?_
              rintro e wS ⟨z0, z1, z2, z3, z4, rfl, hrw2, hsS⟩
              obtain ⟨ba, bl, bc, bz, la, ll, lc, ta, tl, tc, rfl, rfl, rfl, rfl, rfl⟩ := hrw2.form5
              have hS : Same wr wS := Sep.trans (Sep.drew (fun _ => False) wr) hsS
              refine hK.out _ _ ?_ (fun hHeld => ?_)
              · exact ⟨Same.cell hS y0, Same.cell hS y1, Same.cell hS y2, Same.cell hS y3, Same.cell hS y4, Same.cell hS cl⟩
              clear hK K
              try simp only [Act.put, List.setIfInBounds_toArray, List.set_cons_zero, List.set_cons_succ]
              refine wpAnyH_take (i := 7) (oi := ⟨some 124, _, _, _, _, _⟩) (v := ?v7) rfl (by kernel_rfl) (by kernel_rfl) (by kernel_rfl) (fun _ _ _ h => h) (Or.inl ⟨by kernel_rfl, ?h7⟩) hHeld ?_
              case h7 => intro w hSw; (try dsimp only at hSw); go_simp; try with_reducible rfl
              try simp only [Act.put, List.setIfInBounds_toArray, List.set_cons_zero, List.set_cons_succ]
              refine wpAnyH_take (i := 8) (oi := ⟨some 132, _, _, _, _, _⟩) (v := ?v8) rfl (by kernel_rfl) (by kernel_rfl) (by kernel_rfl) (fun _ _ _ h => h) (Or.inl ⟨by kernel_rfl, ?h8⟩) hHeld ?_
              case h8 => intro w hSw; (try dsimp only at hSw); go_simp; try with_reducible rfl
              try simp only [Act.put, List.setIfInBounds_toArray, List.set_cons_zero, List.set_cons_succ]
              refine wpAnyH_take (i := 9) (oi := ⟨some 133, _, _, _, _, _⟩) (v := ?v9) rfl (by kernel_rfl) (by kernel_rfl) (by kernel_rfl) (fun _ _ _ h => h) (Or.inl ⟨by kernel_rfl, ?h9⟩) hHeld ?_
              case h9 => intro w hSw; (try dsimp only at hSw); go_simp; try with_reducible rfl
              try simp only [Act.put, List.setIfInBounds_toArray, List.set_cons_zero, List.set_cons_succ]
              refine wpAnyH_ready (rs := [10]) (by kernel_rfl) (by simp) ?_
              refine AllReadyH.cons (o := ⟨some 14, _, _, _, _, _⟩) rfl (fun K hK => ?_) AllReadyH.nil
              rw [if_pos (by kernel_rfl)]
              go_simp
              obtain ⟨wA, hwA⟩ : ∃ x, x = wS.alloc (.cells #[.int .i64 0, .slice none 0 0, .bool false, .slice none 0 0, .slice none 0 0] 118) := ⟨_, rfl⟩
              rw [← hwA]
              have hA0 : Same wS wA := by rw [hwA]; exact Sep.alloc _ _ _
              have obA : wA.heap[wS.heap.size]? = some (.cells #[.int .i64 0, .slice none 0 0, .bool false, .slice none 0 0, .slice none 0 0] 118) := by rw [hwA]; exact heap_alloc_new _ _
              obtain ⟨b14, hb14⟩ : ∃ b, b = wS.heap.size := ⟨_, rfl⟩
              have hA : Same wr wA := hS.trans hA0
              have g14 : wr.heap.size ≤ b14 := by have := hS.size; omega
              have g14S : wS.heap.size ≤ b14 := by omega
              rw [← hb14] at obA ⊢
              clear hwA hb14
              refine hK.out _ _ ?_ (fun hHeld => ?_)
              · exact ⟨Same.cell hA y0, Same.cell hA y1, Same.cell hA y2, Same.cell hA y3, Same.cell hA y4, Same.cell hA cl⟩
              clear hK K
              try simp only [Act.put, List.setIfInBounds_toArray, List.set_cons_zero, List.set_cons_succ]
              refine wpAnyH_ready (rs := [11]) (by kernel_rfl) (by simp) ?_
              refine AllReadyH.cons (o := ⟨none, _, _, _, _, _⟩) rfl (fun K hK => ?_) AllReadyH.nil
              obtain ⟨t0, t1, t2, t3, t4, tf⟩ := cells5 obA
              rw [if_pos (by kernel_rfl)]
              go_simp
              obtain ⟨wT, hwT⟩ : ∃ x, x = (((((wA.setCell ⟨b14, 0, none⟩ (.int .i64 (sz : Int))).setCell ⟨b14, 1, none⟩ (.slice ba bl bc)).setCell ⟨b14, 2, none⟩ (.bool bz)).setCell ⟨b14, 3, none⟩ (.slice la ll lc)).setCell ⟨b14, 4, none⟩ (.slice ta tl tc)) := ⟨_, rfl⟩
              rw [← hwT]
              have h7 : Sep (fun k => k = b14) wA wT := by rw [hwT]; exact sep5 wA b14 (.int .i64 (sz : Int)) (.slice ba bl bc) (.bool bz) (.slice la ll lc) (.slice ta tl tc)
              have obT : wT.heap[b14]? = some (.cells #[(.int .i64 (sz : Int)), (.slice ba bl bc), (.bool bz), (.slice la ll lc), (.slice ta tl tc)] 118) := by rw [hwT]; exact set5 obA
              have hT : Same wr wT := same_then hA g14 h7
              clear hwT
              refine hK.out _ _ ?_ (fun hHeld => ?_)
              · exact ⟨Same.cell hT y0, Same.cell hT y1, Same.cell hT y2, Same.cell hT y3, Same.cell hT y4, Same.cell hT cl⟩
              clear hK K
              try simp only [Act.put, List.setIfInBounds_toArray, List.set_cons_zero, List.set_cons_succ]
              refine wpAnyH_take (i := 12) (oi := ⟨some 15, _, _, _, _, _⟩) (v := ?v10) rfl (by kernel_rfl) (by kernel_rfl) (by kernel_rfl) (fun _ _ _ h => h) (Or.inl ⟨by kernel_rfl, ?h10⟩) hHeld ?_
              case h10 => intro w hSw; (try dsimp only at hSw); go_simp; try with_reducible rfl
              try simp only [Act.put, List.setIfInBounds_toArray, List.set_cons_zero, List.set_cons_succ]
              refine wpAnyH_done (by kernel_rfl) ?_ _
              clear hHeld y0 y1 y2 y3 y4 t0 t1 t2 t3 t4 tf
              go_wp2
              go_meet
              case rel =>
                exact ⟨b14, _, _, _, _, _, rfl, rfl, hT, g14, obT, (((hrw2.imp (G := fun q => FR lo hi wp bp c bx bv bf q ∧ q ≠ b14) (fun q hq hlt => ⟨hq, by omega⟩)).same hA0).stay h7 (fun q hq _ => hq.2)).imp (fun q hq _ => hq.1)⟩
            refine AllReadyH.cons (o := ⟨some 14, _, _, _, _, _⟩) rfl (fun K hK => ?_) AllReadyH.nil
            ·
              rw [if_pos (by kernel_rfl)]
              go_simp
              obtain ⟨wA, hwA⟩ : ∃ x, x = (wr.alloc (.cells #[.int .i64 0, .slice none 0 0, .bool false, .slice none 0 0, .slice none 0 0] 118)).drew := ⟨_, rfl⟩
              rw [← hwA]
              have hA : Same wr wA := by rw [hwA]; exact Sep.trans (Sep.alloc _ wr _) (Sep.drew _ _)
              have obA : wA.heap[wr.heap.size]? = some (.cells #[.int .i64 0, .slice none 0 0, .bool false, .slice none 0 0, .slice none 0 0] 118) := by rw [hwA]; exact heap_alloc_new wr _
              obtain ⟨b14, hb14⟩ : ∃ b, b = wr.heap.size := ⟨_, rfl⟩
              have g14 : wr.heap.size ≤ b14 := by omega
              rw [← hb14] at obA ⊢
              clear hwA hb14
              refine hK.out _ _ ?_ (fun hHeld => ?_)
              · exact ⟨Same.cell hA y0, Same.cell hA y1, Same.cell hA y2, Same.cell hA y3, Same.cell hA y4, Same.cell hA cl⟩
              clear hK K
              try simp only [Act.put, List.setIfInBounds_toArray, List.set_cons_zero, List.set_cons_succ]
              refine wpAnyH_ready (rs := [6]) (by kernel_rfl) (by simp) ?_
              refine AllReadyH.cons (o := ⟨some 131, _, _, _, _, _⟩) rfl (fun K hK => ?_) AllReadyH.nil
              rw [if_pos (by kernel_rfl)]
              go_simp
              refine (rgive_any (F := fun q => FR lo hi wp bp c bx bv bf q ∧ q ≠ b14) ((HRW.out.imp (fun q hq hlt => ⟨hq, by omega⟩)).same (hA)) HLN.out ((HARR.out.imp (fun q hq hlt => ⟨hq, by omega⟩)).stay (hA) (fun _ _ _ x => x)) (by omega) (fun q hq => by have := Sep.size (hA); have := lt_of_block obA; exact ⟨HFF.out q (by have := HLE.out; omega), by omega⟩) bo HBO.out).mono ?_
              rintro e wS ⟨z0, z1, z2, z3, z4, rfl, hrw2, hsS⟩
              obtain ⟨ba, bl, bc, bz, la, ll, lc, ta, tl, tc, rfl, rfl, rfl, rfl, rfl⟩ := hrw2.form5
              have hS : Same wr wS := Sep.trans (hA) hsS
              have obS := Same.obj hsS obA
              refine hK.out _ _ ?_ (fun hHeld => ?_)
              · exact ⟨Same.cell hS y0, Same.cell hS y1, Same.cell hS y2, Same.cell hS y3, Same.cell hS y4, Same.cell hS cl⟩
              clear hK K
              try simp only [Act.put, List.setIfInBounds_toArray, List.set_cons_zero, List.set_cons_succ]
              refine wpAnyH_take (i := 7) (oi := ⟨some 124, _, _, _, _, _⟩) (v := ?v11) rfl (by kernel_rfl) (by kernel_rfl) (by kernel_rfl) (fun _ _ _ h => h) (Or.inl ⟨by kernel_rfl, ?h11⟩) hHeld ?_
              case h11 => intro w hSw; (try dsimp only at hSw); go_simp; try with_reducible rfl
              try simp only [Act.put, List.setIfInBounds_toArray, List.set_cons_zero, List.set_cons_succ]
              refine wpAnyH_take (i := 8) (oi := ⟨some 132, _, _, _, _, _⟩) (v := ?v12) rfl (by kernel_rfl) (by kernel_rfl) (by kernel_rfl) (fun _ _ _ h => h) (Or.inl ⟨by kernel_rfl, ?h12⟩) hHeld ?_
              case h12 => intro w hSw; (try dsimp only at hSw); go_simp; try with_reducible rfl
              try simp only [Act.put, List.setIfInBounds_toArray, List.set_cons_zero, List.set_cons_succ]
              refine wpAnyH_take (i := 9) (oi := ⟨some 133, _, _, _, _, _⟩) (v := ?v13) rfl (by kernel_rfl) (by kernel_rfl) (by kernel_rfl) (fun _ _ _ h => h) (Or.inl ⟨by kernel_rfl, ?h13⟩) hHeld ?_
              case h13 => intro w hSw; (try dsimp only at hSw); go_simp; try with_reducible rfl
              try simp only [Act.put, List.setIfInBounds_toArray, List.set_cons_zero, List.set_cons_succ]
              refine wpAnyH_ready (rs := [11]) (by kernel_rfl) (by simp) ?_
              refine AllReadyH.cons (o := ⟨none, _, _, _, _, _⟩) rfl (fun K hK => ?_) AllReadyH.nil
              obtain ⟨t0, t1, t2, t3, t4, tf⟩ := cells5 obS
              rw [if_pos (by kernel_rfl)]
              go_simp
              obtain ⟨wT, hwT⟩ : ∃ x, x = (((((wS.setCell ⟨b14, 0, none⟩ (.int .i64 (sz : Int))).setCell ⟨b14, 1, none⟩ (.slice ba bl bc)).setCell ⟨b14, 2, none⟩ (.bool bz)).setCell ⟨b14, 3, none⟩ (.slice la ll lc)).setCell ⟨b14, 4, none⟩ (.slice ta tl tc)) := ⟨_, rfl⟩
              rw [← hwT]
              have h7 : Sep (fun k => k = b14) wS wT := by rw [hwT]; exact sep5 wS b14 (.int .i64 (sz : Int)) (.slice ba bl bc) (.bool bz) (.slice la ll lc) (.slice ta tl tc)
              have obT : wT.heap[b14]? = some (.cells #[(.int .i64 (sz : Int)), (.slice ba bl bc), (.bool bz), (.slice la ll lc), (.slice ta tl tc)] 118) := by rw [hwT]; exact set5 obS
              have hT : Same wr wT := same_then hS g14 h7
              clear hwT
              refine hK.out _ _ ?_ (fun hHeld => ?_)
              · exact ⟨Same.cell hT y0, Same.cell hT y1, Same.cell hT y2, Same.cell hT y3, Same.cell hT y4, Same.cell hT cl⟩
              clear hK K
              try simp only [Act.put, List.setIfInBounds_toArray, List.set_cons_zero, List.set_cons_succ]
              refine wpAnyH_take (i := 12) (oi := ⟨some 15, _, _, _, _, _⟩) (v := ?v14) rfl (by kernel_rfl) (by kernel_rfl) (by kernel_rfl) (fun _ _ _ h => h) (Or.inl ⟨by kernel_rfl, ?h14⟩) hHeld ?_
              case h14 => intro w hSw; (try dsimp only at hSw); go_simp; try with_reducible rfl
              try simp only [Act.put, List.setIfInBounds_toArray, List.set_cons_zero, List.set_cons_succ]
              refine wpAnyH_done (by kernel_rfl) ?_ _
              clear hHeld y0 y1 y2 y3 y4 t0 t1 t2 t3 t4 tf
              go_wp2
              go_meet
              case rel =>
                exact ⟨b14, _, _, _, _, _, rfl, rfl, hT, g14, obT, (hrw2.stay h7 (fun q hq _ => hq.2)).imp (fun q hq _ => hq.1)⟩
          case rest =>
            obtain ⟨b14, z0, z1, z2, z3, z4, rfl, rfl, hT, g14, ob14, hrw⟩ := hcut
            obtain ⟨ba, bl, bc, bz, la, ll, lc, ta, tl, tc, rfl, rfl, rfl, rfl, rfl⟩ := hrw.form5
            obtain ⟨t0, t1, t2, t3, t4, tf⟩ := cells5 ob14
            obtain ⟨y0', y1', y2', y3', y4', yf'⟩ := cells5 (Same.obj hT HOV.out)
            have cl' := Same.cell hT cl
            have n14 : ¬ b14 = bv := by have := HBR.out; have := HLE.out; omega
            have nb : ¬ b = bv := by have := HBR.out; have := HAR.out; omega
            have HRWX := Lib.hid hrw
            have HTX := Lib.hid hT
            clear hrw hT cl y0 y1 y2 y3 y4 ob14
            go_wp2_with fail
            obtain ⟨wV, hwV⟩ : ∃ x, x = ((((wc.setCell ⟨bv, 0, none⟩ (.int .i64 (sz : Int))).setCell ⟨bv, 1, none⟩ (.slice ba bl bc)).setCell ⟨bv, 2, none⟩ (.bool bz)).setCell ⟨bv, 3, none⟩ (.slice la ll lc)).setCell ⟨bv, 4, none⟩ (.slice ta tl tc) := ⟨_, rfl⟩
            rw [← hwV]
            have sV : Sep (fun k => k = bv) wc wV := by rw [hwV]; exact sep5 _ _ _ _ _ _ _
            have oV : wV.heap[bv]? = some (.cells #[(.int .i64 (sz : Int)), (.slice ba bl bc), (.bool bz), (.slice la ll lc), (.slice ta tl tc)] 118) := by rw [hwV]; exact set5 (Same.obj HTX.out HOV.out)
            clear hwV t0 t1 t2 t3 t4 tf y0' y1' y2' y3' y4' yf' cl'
            have stV := (HB.out.st.same HTX.out).keep sV (fun k hk => by have := HBR.out; omega)
            refine (stV.give_any HLN.out (stV.arg HARG.out) bo HBO.out).mono ?_
            rintro e w5 ⟨z, rfl, hz, h5, hs5⟩
            have oX5 := hs5.obj (sV.obj (Same.obj HTX.out HOX.out) (by have := HBR.out; omega)) (by have := HBR.out; omega)
            have rm5 := rm_own ((HRM.out.same HTX.out).stay sV (fun b hb _ h => hb.2.2.2.2.2.1 h)) hs5
            have oV5 := hs5.obj oV (by have := HBR.out; omega)
            have rw5 := rw_own (HRWX.out.stay sV (fun b hb _ h => hb.2.2.2.2.2.1 h)) hs5
            have oF5 := hs5.obj (sV.obj (Same.obj HTX.out HB.out.fb) (by have := HBR.out; omega)) (by have := HBR.out; omega)
            have gg := giveJ_good HG.out HL10.out HBO.out HJS.out
            have HEND : Hid (PLoop lo hi hq wp p bp c sz bx bv bf w (k + 1) w5) := ⟨L, cnt, _, Both.mk2 h5 oX5 rm5 oV5 rw5 oF5 HBR.out, gg.1, HS.out.up, gg.2⟩
            clear h5 hs5 oX5 rm5 oV5 rw5 oF5 gg sV oV stV
            rcases hz with ⟨rfl, rfl⟩ | ⟨rfl, rfl⟩
            · go_wp2
              go_meet
              case rel => exact HEND.out
            · go_wp2
              go_meet
              case rel => exact HEND.out
        by_cases h2 : kd = 2
        · subst h2
          have HS' := HS.out
          clear ox ov cs cl
          go_wp2_with fail
          refine (HB.out.st.bump (by have := HS.out.1; omega) (by have := HS.out.2.2.1; omega)).mono ?_
          rintro e w3 ⟨x, y, rfl, h3, hs3⟩
          have ox3 := hs3.obj HOX.out (by have := HBR.out; omega)
          have HRM3 := Lib.hid (rm_own HRM.out hs3)
          have HOX3 := Lib.hid ox3
          have H3 := Lib.hid h3
          have HS3 := Lib.hid hs3
          obtain ⟨m0, m1, m2, mf⟩ := cells3x ox3
          clear h3 hs3 ox3 mf
          go_wp2_with fail
          refine (rbump_z HRM3.out (by have := HS.out.1; omega) (by have := HS.out.2.2.1; omega) (by have := HS.out.1; omega) (fun b hb => HFF.out b (by have := HS3.out.size; have := HLE.out; omega))).mono ?_
          rintro e w4 ⟨z0, z1, z2, e1, u2, rfl, hrm4, hs4⟩
          obtain ⟨wa', wl, wk', ea', el, ec', cq, rfl, rfl, rfl⟩ := hrm4.form5
          obtain ⟨W5, hW5, hs5, ob16⟩ := two_b w4 (.slice wa' wl wk') (.slice ea' el ec') (.int .i64 cq) (.int .i64 0) (.int .u64 e1)
          obtain ⟨t0, t1, t2, tf⟩ := cells3x ob16
          have hs35 := hs4.trans hs5
          have ox5 := Same.obj hs35 HOX3.out
          obtain ⟨q0, q1, q2, qf⟩ := cells3x ox5
          have HW5 := Lib.hid hW5
          have HRM5 := Lib.hid (hrm4.same hs5)
          have HS35 := Lib.hid hs35
          have HOX5 := Lib.hid ox5
          have HGE4 : Hid (hq ≤ w4.heap.size) := by show _ ≤ _; have := HS3.out.size; have := HLE.out; have := hs4.size; omega
          clear hW5 hrm4 hs4 hs5 hs35 ox5 ob16 m0 m1 m2
          go_upto_region 35 with fail
          rw [← HW5.out]
          go_wp2
          go_meet
          case rel =>
            obtain ⟨wV, hwV⟩ : ∃ x, x = ((W5.setCell ⟨bx, 0, none⟩ (.slice wa' wl wk')).setCell ⟨bx, 1, none⟩ (.slice ea' el ec')).setCell ⟨bx, 2, none⟩ (.int .i64 cq) := ⟨_, rfl⟩
            rw [← hwV]
            have sV : Sep (fun k => k = bx) W5 wV := by rw [hwV]; exact sep3 _ _ _ _ _
            have oV : wV.heap[bx]? = some (.cells #[(.slice wa' wl wk'), (.slice ea' el ec'), (.int .i64 cq)] 51) := by rw [hwV]; exact heap3 HOX5.out rfl
            have stV := (H3.out.same HS35.out).keep sV (fun k hk => by have := HBR.out; omega)
            have rmV := HRM5.out.stay sV (fun b hb _ h => hb.2.2.2.2.1 h)
            have ovV := sV.obj (Same.obj HS35.out (HS3.out.obj HOV.out (by have := HBR.out; omega))) (by have := HBR.out; omega)
            have rwV := ((rw_own HRW.out HS3.out).same HS35.out).stay sV (fun b hb _ h => hb.2.2.2.2.1 h)
            have ofV := sV.obj (Same.obj HS35.out (HS3.out.obj HB.out.fb (by have := HBR.out; omega))) (by have := HBR.out; omega)
            exact ⟨_, cnt, J, Both.mk2 stV oV rmV ovV rwV ofV HBR.out, HG.out, HS.out.bump, HJS.out⟩
        · clear ox ov cl
          obtain ⟨ep, hep⟩ : ∃ x, x = (((L.getD 0 default).ep : Nat) : Int) := ⟨_, rfl⟩
          have hcap := HS.out.cap
          rw [← hep] at hcap
          clear hep
          go_wp2_with fail
          refine (cap_any HB.out.st.mem 0).mono ?_
          rintro e w3 ⟨rfl, hs3⟩
          rw [hcap]
          obtain ⟨b19, hb19⟩ : ∃ b, b = w3.heap.size := ⟨_, rfl⟩
          obtain ⟨W3', hW3'⟩ : ∃ W, W = w3.alloc (.cells #[.int .i64 0, .int .u64 ep] 33) := ⟨_, rfl⟩
          have ob19 : W3'.heap[b19]? = some (.cells #[.int .i64 0, .int .u64 ep] 33) := by rw [hW3', hb19]; exact heap_alloc_new _ _
          have hsX : Same wr W3' := by rw [hW3']; exact hs3.thenAlloc _
          have g19 : wr.heap.size ≤ b19 := by rw [hb19]; exact hs3.size
          obtain ⟨c0', c1', cf'⟩ := cells2 ob19
          obtain ⟨f0', f1', ff'⟩ := cells2 (Same.obj hsX HB.out.fb)
          have cs' := Same.cell hsX cs
          have n19 : ¬ b19 = bf := by have := HBR.out; have := HLE.out; omega
          have HW3' := Lib.hid hW3'
          have HB19 := Lib.hid hb19
          have HSX := Lib.hid hsX
          have HOB19 := Lib.hid ob19
          have HG19 := Lib.hid g19
          clear hW3' hb19 hsX ob19 hs3 hcap cs
          go_upto_region 19 with fail
          rw [← HB19.out, ← HW3'.out]
          cases sl with
          | false =>
            go_wp2_with fail
            refine ((HB.out.st.same HSX.out).pick HG.out 0 ep (by have := HS.out.2.2.2; omega)).mono ?_
            rintro e w5 ⟨ra, rn, rc, rfl, hr1, h5, hs5⟩
            obtain ⟨R, hR⟩ : ∃ R, R = pickJ L 0 ep J := ⟨_, rfl⟩
            have gg := pickJ_good (ci := 0) (ce := ep) HG.out HS.out
            rw [← hR] at hr1 h5 gg ⊢
            obtain ⟨kq, hkq⟩ : ∃ x, x = R.kind := ⟨_, rfl⟩
            rw [← hkq]
            have hsz5 : hq ≤ w5.heap.size := by have := (HSX.out).size; have := hs5.size; have := HLE.out; omega
            obtain ⟨b20, hb20⟩ : ∃ b, b = w5.heap.size := ⟨_, rfl⟩
            obtain ⟨W6, hW6⟩ : ∃ x, x = w5.alloc (.cells #[.int .i64 kq, .slice ra rn rc] 107) := ⟨_, rfl⟩
            have ob20 : W6.heap[b20]? = some (.cells #[.int .i64 kq, .slice ra rn rc] 107) := by rw [hW6, hb20]; exact heap_alloc_new _ _
            have hs6 : Same w5 W6 := by rw [hW6]; exact Sep.alloc _ _ _
            have ov6 := Same.obj hs6 (hs5.obj (Same.obj HSX.out HOV.out) (by have := HBR.out; omega))
            have ox6 := Same.obj hs6 (hs5.obj (Same.obj HSX.out HOX.out) (by have := HBR.out; omega))
            have of6 := Same.obj hs6 (hs5.obj (Same.obj HSX.out HB.out.fb) (by have := HBR.out; omega))
            have oc6 := Same.obj hs6 (hs5.obj HOB19.out (by have := HG19.out; have := HAR.out; have := HLE.out; have := HB.out.st.wk.lt; omega))
            have RM6 := Lib.hid ((rm_own (HRM.out.same HSX.out) hs5).same hs6)
            have RW6 := Lib.hid ((rw_own (HRW.out.same HSX.out) hs5).same hs6)
            have H6 := Lib.hid (h5.same hs6)
            have HR1 := Lib.hid (Slc.stay hr1 hs6 (fun _ _ _ x => x))
            have HR := Lib.hid hR
            have HKQ := Lib.hid hkq
            have HGG := Lib.hid gg
            have HW6 := Lib.hid hW6
            have HB20 := Lib.hid hb20
            have HGE6 : Hid (hq ≤ W6.heap.size) := Nat.le_trans hsz5 hs6.size
            have HG20 : Hid (hq ≤ b20) := by show hq ≤ b20; omega
            have OV6 := Lib.hid ov6
            have OX6 := Lib.hid ox6
            have OF6 := Lib.hid of6
            have OB20 := Lib.hid ob20
            obtain ⟨y0, y1, y2, y3, y4, yf⟩ := cells5 ov6
            obtain ⟨m0, m1, m2, mf⟩ := cells3x ox6
            obtain ⟨d0, d1, df⟩ := cells2 oc6
            clear hr1 h5 gg hR hkq hW6 hb20 hs6 ov6 ox6 of6 oc6 ob20 hs5 hsz5 c0' c1' cf' f0' f1' ff' cs' yf mf df
            unfold evt
            go_upto_region 22 with fail
            rw [← HB20.out, ← HW6.out]
            have hL2 : ∀ i, i < L.length → (L.getD i default).ws.length ≤ 1000000 := by
              intro i hi
              obtain ⟨e1, e2, _⟩ := HS.out
              obtain rfl : i = 0 := by omega
              omega
            go_wp2_with fail
            refine (RW6.out.pick RM6.out HG.out 0 ep (fun b hb => HFF.out b (by have := HGE6.out; omega)) (by have := HS.out.2.2.2; omega) (by have := HS.out.1; omega) hL2).mono ?_
            rintro e w7 ⟨v', mv', sa, sn, sc, rfl, hr2, hrw7, hrm7, hs7⟩
            rw [← HR.out] at hr2 hrw7 hrm7 ⊢
            rw [← HKQ.out]
            obtain ⟨z0, z1, z2, z3, z4, rfl⟩ := hrw7.form
            obtain ⟨u0, u1, u2, rfl⟩ := hrm7.form0
            obtain ⟨ba, bl, bc, bz, la, ll, lc, ta, tl, tc, rfl, rfl, rfl, rfl, rfl⟩ := hrw7.form5
            obtain ⟨wa', wl, wk', ea', el, ec', cq, rfl, rfl, rfl⟩ := hrm7.form5
            obtain ⟨W8, hW8, hs8, ob21, ob22, ob23⟩ := three_q w7 (.int .i64 (sz : Int)) (.slice ba bl bc) (.bool bz) (.slice la ll lc) (.slice ta tl tc) (.slice wa' wl wk') (.slice ea' el ec') (.int .i64 cq) (.int .i64 kq) (.slice sa sn sc)
            have hs78 := hs7.trans hs8
            obtain ⟨t0, t1, t2, t3, t4, tf⟩ := cells5 ob21
            obtain ⟨q0, q1, q2, q3, q4, qf⟩ := cells5 (Same.obj hs78 OV6.out)
            have HS78 := Lib.hid hs78
            have HW8 := Lib.hid hW8
            have OB22 := Lib.hid ob22
            have OB23 := Lib.hid ob23
            have HR2 := Lib.hid (Slc.stay hr2 hs8 (fun _ _ _ x => x))
            have RW8 := Lib.hid (hrw7.same hs8)
            have RM8 := Lib.hid (hrm7.same hs8)
            have HGE7 : Hid (hq ≤ w7.heap.size) := Nat.le_trans HGE6.out hs7.size
            have n21 : ¬ w7.heap.size = bv := by have := HGE7.out; have := HBR.out; omega
            clear y0 y1 y2 y3 y4 m0 m1 m2 d0 d1 hr2 hrw7 hrm7 hs7 hW8 hs8 ob21 ob22 ob23 hs78
            unfold evt
            go_upto_region 23 with fail
            rw [← HW8.out]
            go_upto_region 24 with fail
            obtain ⟨wV, hwV⟩ : ∃ x, x = ((((W8.setCell ⟨bv, 0, none⟩ (.int .i64 (sz : Int))).setCell ⟨bv, 1, none⟩ (.slice ba bl bc)).setCell ⟨bv, 2, none⟩ (.bool bz)).setCell ⟨bv, 3, none⟩ (.slice la ll lc)).setCell ⟨bv, 4, none⟩ (.slice ta tl tc) := ⟨_, rfl⟩
            rw [← hwV]
            have sV : Sep (fun k => k = bv) W8 wV := by rw [hwV]; exact sep5 _ _ _ _ _ _ _
            have OVV : Hid (wV.heap[bv]? = some (.cells #[(.int .i64 (sz : Int)), (.slice ba bl bc), (.bool bz), (.slice la ll lc), (.slice ta tl tc)] 118)) := by rw [hwV]; exact set5 (Same.obj HS78.out OV6.out)
            obtain ⟨p0, p1, p2, pf⟩ := cells3x (sV.obj OB22.out (by have := HGE7.out; have := HBR.out; omega))
            have oxV := sV.obj (Same.obj HS78.out OX6.out) (by have := HBR.out; omega)
            obtain ⟨m0, m1, m2, mf⟩ := cells3x oxV
            have n22 : ¬ w7.heap.size + 1 = bx := by have := HGE7.out; have := HBR.out; omega
            have SV := Lib.hid sV
            have OXV := Lib.hid oxV
            clear sV oxV hwV t0 t1 t2 t3 t4 tf q0 q1 q2 q3 q4 qf
            go_upto_region 25 with fail
            obtain ⟨wY, hwY⟩ : ∃ x, x = ((wV.setCell ⟨bx, 0, none⟩ (.slice wa' wl wk')).setCell ⟨bx, 1, none⟩ (.slice ea' el ec')).setCell ⟨bx, 2, none⟩ (.int .i64 cq) := ⟨_, rfl⟩
            rw [← hwY]
            have sY : Sep (fun k => k = bx) wV wY := by rw [hwY]; exact sep3 _ _ _ _ _
            have OXY : Hid (wY.heap[bx]? = some (.cells #[(.slice wa' wl wk'), (.slice ea' el ec'), (.int .i64 cq)] 51)) := by rw [hwY]; exact heap3 OXV.out rfl
            have sVY : Sep (fun k => k = bv ∨ k = bx) W8 wY := (SV.out.mono fun _ _ h => .inl h).trans (sY.mono fun _ _ h => .inr h)
            obtain ⟨g0, g1, gf⟩ := cells2 (sVY.obj (Same.obj HS78.out OB20.out) (by have := HG20.out; have := HBR.out; omega))
            obtain ⟨j0, j1, jf⟩ := cells2 (sVY.obj OB23.out (by have := HGE7.out; have := HBR.out; omega))
            have HU : Hid (SlcU (FF lo hq) wY (.slice ra rn rc) R.told) := Slc.stay (Slc.stay HR1.out HS78.out (fun _ _ _ x => x)) sVY (fun b hb _ h => by have := HBR.out; have := HAR.out; omega)
            have HV2 : Hid (SlcU (FR lo hi wp bp c bx bv bf) wY (.slice sa sn sc) R.told) := Slc.stay HR2.out sVY (fun b hb _ h => by omega)
            have SVY := Lib.hid sVY
            have SY := Lib.hid sY
            clear sY sVY hwY p0 p1 p2 pf m0 m1 m2 mf
            go_wp2_with fail
            refine (same_yes HU.out HV2.out (by have := HGG.out.2.2.2; omega)).mono ?_
            rintro e w9 ⟨rfl, hs9⟩
            have hend : PLoop lo hi hq wp p bp c sz bx bv bf w (k + 1) w9 := by
              refine ⟨R.L, cnt + R.d, R.J, Both.mk2 (((H6.out.same HS78.out).keep SVY.out (fun k hk => by have := HBR.out; omega)).same hs9) (Same.obj hs9 OXY.out) ((RM8.out.stay SVY.out (fun b hb _ h => by omega)).same hs9) (Same.obj hs9 (SY.out.obj OVV.out (by have := HBR.out; omega))) ((RW8.out.stay SVY.out (fun b hb _ h => by omega)).same hs9) (Same.obj hs9 (SVY.out.obj (Same.obj HS78.out OF6.out) (by have := HBR.out; omega))) HBR.out, HGG.out.1, HGG.out.2.1, Nat.le_trans HGG.out.2.2.1 HJS.out⟩
            have HEND := Lib.hid hend
            clear hend hs9 g0 g1 gf j0 j1 jf
            go_wp2
            go_meet
            case rel => exact HEND.out
          | true =>
            go_wp2_with fail
            obtain ⟨wS, hwS⟩ : ∃ x, x = (W3'.setCell ⟨b19, 0, none⟩ (.int .i64 0)).setCell ⟨b19, 1, none⟩ (.int .u64 1) := ⟨_, rfl⟩
            rw [← hwS]
            have HSX2 : Hid (Same wr wS) := same_then HSX.out HG19.out (by rw [hwS]; exact sep2b _ _ _ _)
            have HOBS : Hid (wS.heap[b19]? = some (.cells #[.int .i64 0, .int .u64 1] 33)) := by
              rw [hwS]; show _ = _; rw [heap_set_same (heap_set_same HOB19.out)]; rfl
            clear hwS
            refine ((HB.out.st.same HSX2.out).pick HG.out 0 1 (by have := HS.out.2.2.2; omega)).mono ?_
            rintro e w5 ⟨ra, rn, rc, rfl, hr1, h5, hs5⟩
            obtain ⟨R, hR⟩ : ∃ R, R = pickJ L 0 1 J := ⟨_, rfl⟩
            have gg := pickJ_good (ci := 0) (ce := 1) HG.out HS.out
            rw [← hR] at hr1 h5 gg ⊢
            obtain ⟨kq, hkq⟩ : ∃ x, x = R.kind := ⟨_, rfl⟩
            rw [← hkq]
            have hsz5 : hq ≤ w5.heap.size := by have := (HSX2.out).size; have := hs5.size; have := HLE.out; omega
            obtain ⟨b20, hb20⟩ : ∃ b, b = w5.heap.size := ⟨_, rfl⟩
            obtain ⟨W6, hW6⟩ : ∃ x, x = w5.alloc (.cells #[.int .i64 kq, .slice ra rn rc] 107) := ⟨_, rfl⟩
            have ob20 : W6.heap[b20]? = some (.cells #[.int .i64 kq, .slice ra rn rc] 107) := by rw [hW6, hb20]; exact heap_alloc_new _ _
            have hs6 : Same w5 W6 := by rw [hW6]; exact Sep.alloc _ _ _
            have ov6 := Same.obj hs6 (hs5.obj (Same.obj HSX2.out HOV.out) (by have := HBR.out; omega))
            have ox6 := Same.obj hs6 (hs5.obj (Same.obj HSX2.out HOX.out) (by have := HBR.out; omega))
            have of6 := Same.obj hs6 (hs5.obj (Same.obj HSX2.out HB.out.fb) (by have := HBR.out; omega))
            have oc6 := Same.obj hs6 (hs5.obj HOBS.out (by have := HG19.out; have := HAR.out; have := HLE.out; have := HB.out.st.wk.lt; omega))
            have RM6 := Lib.hid ((rm_own (HRM.out.same HSX2.out) hs5).same hs6)
            have RW6 := Lib.hid ((rw_own (HRW.out.same HSX2.out) hs5).same hs6)
            have H6 := Lib.hid (h5.same hs6)
            have HR1 := Lib.hid (Slc.stay hr1 hs6 (fun _ _ _ x => x))
            have HR := Lib.hid hR
            have HKQ := Lib.hid hkq
            have HGG := Lib.hid gg
            have HW6 := Lib.hid hW6
            have HB20 := Lib.hid hb20
            have HGE6 : Hid (hq ≤ W6.heap.size) := Nat.le_trans hsz5 hs6.size
            have HG20 : Hid (hq ≤ b20) := by show hq ≤ b20; omega
            have OV6 := Lib.hid ov6
            have OX6 := Lib.hid ox6
            have OF6 := Lib.hid of6
            have OB20 := Lib.hid ob20
            obtain ⟨y0, y1, y2, y3, y4, yf⟩ := cells5 ov6
            obtain ⟨m0, m1, m2, mf⟩ := cells3x ox6
            obtain ⟨d0, d1, df⟩ := cells2 oc6
            clear hr1 h5 gg hR hkq hW6 hb20 hs6 ov6 ox6 of6 oc6 ob20 hs5 hsz5 c0' c1' cf' f0' f1' ff' cs' yf mf df
            unfold evt
            go_upto_region 22 with fail
            rw [← HB20.out, ← HW6.out]
            have hL2 : ∀ i, i < L.length → (L.getD i default).ws.length ≤ 1000000 := by
              intro i hi
              obtain ⟨e1, e2, _⟩ := HS.out
              obtain rfl : i = 0 := by omega
              omega
            go_wp2_with fail
            refine (RW6.out.pick RM6.out HG.out 0 1 (fun b hb => HFF.out b (by have := HGE6.out; omega)) (by have := HS.out.2.2.2; omega) (by have := HS.out.1; omega) hL2).mono ?_
            rintro e w7 ⟨v', mv', sa, sn, sc, rfl, hr2, hrw7, hrm7, hs7⟩
            rw [← HR.out] at hr2 hrw7 hrm7 ⊢
            rw [← HKQ.out]
            obtain ⟨z0, z1, z2, z3, z4, rfl⟩ := hrw7.form
            obtain ⟨u0, u1, u2, rfl⟩ := hrm7.form0
            obtain ⟨ba, bl, bc, bz, la, ll, lc, ta, tl, tc, rfl, rfl, rfl, rfl, rfl⟩ := hrw7.form5
            obtain ⟨wa', wl, wk', ea', el, ec', cq, rfl, rfl, rfl⟩ := hrm7.form5
            obtain ⟨W8, hW8, hs8, ob21, ob22, ob23⟩ := three_q w7 (.int .i64 (sz : Int)) (.slice ba bl bc) (.bool bz) (.slice la ll lc) (.slice ta tl tc) (.slice wa' wl wk') (.slice ea' el ec') (.int .i64 cq) (.int .i64 kq) (.slice sa sn sc)
            have hs78 := hs7.trans hs8
            obtain ⟨t0, t1, t2, t3, t4, tf⟩ := cells5 ob21
            obtain ⟨q0, q1, q2, q3, q4, qf⟩ := cells5 (Same.obj hs78 OV6.out)
            have HS78 := Lib.hid hs78
            have HW8 := Lib.hid hW8
            have OB22 := Lib.hid ob22
            have OB23 := Lib.hid ob23
            have HR2 := Lib.hid (Slc.stay hr2 hs8 (fun _ _ _ x => x))
            have RW8 := Lib.hid (hrw7.same hs8)
            have RM8 := Lib.hid (hrm7.same hs8)
            have HGE7 : Hid (hq ≤ w7.heap.size) := Nat.le_trans HGE6.out hs7.size
            have n21 : ¬ w7.heap.size = bv := by have := HGE7.out; have := HBR.out; omega
            clear y0 y1 y2 y3 y4 m0 m1 m2 d0 d1 hr2 hrw7 hrm7 hs7 hW8 hs8 ob21 ob22 ob23 hs78
            unfold evt
            go_upto_region 23 with fail
            rw [← HW8.out]
            go_upto_region 24 with fail
            obtain ⟨wV, hwV⟩ : ∃ x, x = ((((W8.setCell ⟨bv, 0, none⟩ (.int .i64 (sz : Int))).setCell ⟨bv, 1, none⟩ (.slice ba bl bc)).setCell ⟨bv, 2, none⟩ (.bool bz)).setCell ⟨bv, 3, none⟩ (.slice la ll lc)).setCell ⟨bv, 4, none⟩ (.slice ta tl tc) := ⟨_, rfl⟩
            rw [← hwV]
            have sV : Sep (fun k => k = bv) W8 wV := by rw [hwV]; exact sep5 _ _ _ _ _ _ _
            have OVV : Hid (wV.heap[bv]? = some (.cells #[(.int .i64 (sz : Int)), (.slice ba bl bc), (.bool bz), (.slice la ll lc), (.slice ta tl tc)] 118)) := by rw [hwV]; exact set5 (Same.obj HS78.out OV6.out)
            obtain ⟨p0, p1, p2, pf⟩ := cells3x (sV.obj OB22.out (by have := HGE7.out; have := HBR.out; omega))
            have oxV := sV.obj (Same.obj HS78.out OX6.out) (by have := HBR.out; omega)
            obtain ⟨m0, m1, m2, mf⟩ := cells3x oxV
            have n22 : ¬ w7.heap.size + 1 = bx := by have := HGE7.out; have := HBR.out; omega
            have SV := Lib.hid sV
            have OXV := Lib.hid oxV
            clear sV oxV hwV t0 t1 t2 t3 t4 tf q0 q1 q2 q3 q4 qf
            go_upto_region 25 with fail
            obtain ⟨wY, hwY⟩ : ∃ x, x = ((wV.setCell ⟨bx, 0, none⟩ (.slice wa' wl wk')).setCell ⟨bx, 1, none⟩ (.slice ea' el ec')).setCell ⟨bx, 2, none⟩ (.int .i64 cq) := ⟨_, rfl⟩
            rw [← hwY]
            have sY : Sep (fun k => k = bx) wV wY := by rw [hwY]; exact sep3 _ _ _ _ _
            have OXY : Hid (wY.heap[bx]? = some (.cells #[(.slice wa' wl wk'), (.slice ea' el ec'), (.int .i64 cq)] 51)) := by rw [hwY]; exact heap3 OXV.out rfl
            have sVY : Sep (fun k => k = bv ∨ k = bx) W8 wY := (SV.out.mono fun _ _ h => .inl h).trans (sY.mono fun _ _ h => .inr h)
            obtain ⟨g0, g1, gf⟩ := cells2 (sVY.obj (Same.obj HS78.out OB20.out) (by have := HG20.out; have := HBR.out; omega))
            obtain ⟨j0, j1, jf⟩ := cells2 (sVY.obj OB23.out (by have := HGE7.out; have := HBR.out; omega))
            have HU : Hid (SlcU (FF lo hq) wY (.slice ra rn rc) R.told) := Slc.stay (Slc.stay HR1.out HS78.out (fun _ _ _ x => x)) sVY (fun b hb _ h => by have := HBR.out; have := HAR.out; omega)
            have HV2 : Hid (SlcU (FR lo hi wp bp c bx bv bf) wY (.slice sa sn sc) R.told) := Slc.stay HR2.out sVY (fun b hb _ h => by omega)
            have SVY := Lib.hid sVY
            have SY := Lib.hid sY
            clear sY sVY hwY p0 p1 p2 pf m0 m1 m2 mf
            go_wp2_with fail
            refine (same_yes HU.out HV2.out (by have := HGG.out.2.2.2; omega)).mono ?_
            rintro e w9 ⟨rfl, hs9⟩
            have hend : PLoop lo hi hq wp p bp c sz bx bv bf w (k + 1) w9 := by
              refine ⟨R.L, cnt + R.d, R.J, Both.mk2 (((H6.out.same HS78.out).keep SVY.out (fun k hk => by have := HBR.out; omega)).same hs9) (Same.obj hs9 OXY.out) ((RM8.out.stay SVY.out (fun b hb _ h => by omega)).same hs9) (Same.obj hs9 (SY.out.obj OVV.out (by have := HBR.out; omega))) ((RW8.out.stay SVY.out (fun b hb _ h => by omega)).same hs9) (Same.obj hs9 (SVY.out.obj (Same.obj HS78.out OF6.out) (by have := HBR.out; omega))) HBR.out, HGG.out.1, HGG.out.2.1, Nat.le_trans HGG.out.2.2.1 HJS.out⟩
            have HEND := Lib.hid hend
            clear hend hs9 g0 g1 gf j0 j1 jf
            go_wp2
            go_meet
            case rel => exact HEND.out
      case rest =>
        clear HB HG HS HJS HLN HARG HL10 ck cs cl
        obtain ⟨L', cnt', J', hB', hG', hS', hJs'⟩ := hcut
        obtain ⟨v0, v1, v2, v3, v4, ov, hrw⟩ := hB'.vb
        obtain ⟨rfl, ba, bc, rfl⟩ := hrw.form2
        obtain ⟨y0, y1, y2, y3, y4, yf⟩ := cells5 ov
        have hb0 := fun (m : Nat) => busy_any (hB'.same (Sep.drewN (fun _ => False) wc m)).st.wk
        have hw0 := fun (m : Nat) => waits_any (hB'.same (Sep.drewN (fun _ => False) wc m)).st.wk
        obtain ⟨bz, hbz⟩ : ∃ bz, bz = J'.cur.isSome := ⟨_, rfl⟩
        obtain ⟨bl, hbl⟩ : ∃ bl, bl = J'.box.length := ⟨_, rfl⟩
        rw [← hbl] at y1
        rw [← hbz] at y2
        rw [← hbz] at hb0
        rw [← hbl] at hw0
        have HEND : Hid (∀ m, PLoop lo hi hq wp p bp c sz bx bv bf w (k + 1) (wc.drewN m)) := fun m => ⟨L', cnt', J', hB'.same (Sep.drewN _ _ _), hG', hS', hJs'⟩
        have HB0 : Hid (∀ m, Calls Try.prog 55 #[.pointer (some ⟨wp, 0, none⟩)] (wc.drewN m) fun e w'' => e = .returned (.bool bz) ∧ ∃ q, w'' = wc.drewN q) := fun m => (hb0 m).mono fun e w' ⟨he, hw⟩ => ⟨he, m, hw.symm⟩
        have HW0 : Hid (∀ m, Calls Try.prog 53 #[.pointer (some ⟨wp, 0, none⟩)] (wc.drewN m) fun e w'' => e = .returned (.int .i64 bl) ∧ ∃ q, w'' = wc.drewN q) := fun m => (hw0 m).mono fun e w' ⟨he, hw⟩ => ⟨he, m, hw.symm⟩
        clear hB' hG' hS' hJs' ov hrw hb0 hw0 hbz hbl yf
        go_upto_region 36 with fail
        cases bz
        · go_quiet (first | exact HB0.out _ | exact HW0.out _)
          go_wp2
          go_roundw
          case rel => exact ⟨k + 1, by omega, by go_num, HEND.out _⟩
          case measure => simp [intOf]; omega
        · go_quiet (first | exact HB0.out _ | exact HW0.out _)
          go_wp2
          go_roundw
          case rel => exact ⟨k + 1, by omega, by go_num, HEND.out _⟩
          case measure => simp [intOf]; omega
    · obtain ⟨x0, x1, x2, ox, hrm⟩ := hB.xb
      obtain rfl := hrm.form3
      have HB := Lib.hid hB
      have HOX := Lib.hid ox
      have HRM := Lib.hid hrm
      clear hB hG hS hJs ox hrm
      go_wp2
      go_loopw [24] (fun i wx => ∃ j : Nat, j ≤ 8 ∧ i = .int .i64 j ∧ Same wr wx) (fun i _ => 8 - (intOf i).toNat)
      case atStart => exact ⟨0, by omega, rfl, Sep.refl _ _⟩
      case round =>
        obtain ⟨j, hj, rfl, hsL⟩ := hrel
        obtain ⟨y0, y1, y2, yf⟩ := cells3x (Same.obj hsL HOX.out)
        have HSL := Lib.hid hsL
        clear hsL yf
        by_cases hlt8 : j < 8
        · go_upto_region 41 with fail
          refine wp_region_held_drew (S := (fun v => v.cell? ⟨bx, 0, none⟩ = some x0 ∧ v.cell? ⟨bx, 1, none⟩ = some x1 ∧ v.cell? ⟨bx, 2, none⟩ = some (.int .i64 (cnt : Int)) ∧ Same wr v)) (by kernel_rfl) ?_ (fun hHeld => ?_)
          · exact ⟨(Sep.drew (fun _ => False) wr).cell y0 (fun x => x), (Sep.drew (fun _ => False) wr).cell y1 (fun x => x), (Sep.drew (fun _ => False) wr).cell y2 (fun x => x), Sep.drew _ _⟩
          change wpAnyH _ _ _ _ _ 7 _ _ _
          refine wpAnyH_take (i := 0) (oi := ⟨some 173, _, _, _, _, _⟩) (v := ?v15) rfl (by kernel_rfl) (by kernel_rfl) (by kernel_rfl) (fun _ _ _ h => h) (Or.inl ⟨by kernel_rfl, ?h15⟩) hHeld ?_
          case h15 => intro w hSw; (try dsimp only at hSw); go_simp; try with_reducible rfl
          try simp only [Act.put, List.setIfInBounds_toArray, List.set_cons_zero, List.set_cons_succ]
          refine wpAnyH_take (i := 1) (oi := ⟨some 174, _, _, _, _, _⟩) (v := ?v16) rfl (by kernel_rfl) (by kernel_rfl) (by kernel_rfl) (fun _ _ _ h => h) (Or.inl ⟨by kernel_rfl, ?h16⟩) hHeld ?_
          case h16 => intro w hSw; (try dsimp only at hSw); go_simp; try with_reducible rfl
          try simp only [Act.put, List.setIfInBounds_toArray, List.set_cons_zero, List.set_cons_succ]
          refine wpAnyH_take (i := 3) (oi := ⟨some 176, _, _, _, _, _⟩) (v := ?v17) rfl (by kernel_rfl) (by kernel_rfl) (by kernel_rfl) (fun _ _ _ h => h) (Or.inl ⟨by kernel_rfl, ?h17⟩) hHeld ?_
          case h17 => intro w hSw; (try dsimp only at hSw); go_simp; try with_reducible rfl
          try simp only [Act.put, List.setIfInBounds_toArray, List.set_cons_zero, List.set_cons_succ]
          refine wpAnyH_take (i := 4) (oi := ⟨some 177, _, _, _, _, _⟩) (v := ?v18) rfl (by kernel_rfl) (by kernel_rfl) (by kernel_rfl) (fun _ _ _ h => h) (Or.inl ⟨by kernel_rfl, ?h18⟩) hHeld ?_
          case h18 => intro w hSw; (try dsimp only at hSw); go_simp; try with_reducible rfl
          try simp only [Act.put, List.setIfInBounds_toArray, List.set_cons_zero, List.set_cons_succ]
          refine wpAnyH_ready (rs := [2]) (by kernel_rfl) (by simp) ?_
          refine AllReadyH.cons (o := ⟨some 175, _, _, _, _, _⟩) rfl (fun K hK => ?_) AllReadyH.nil
          rw [if_pos (by kernel_rfl)]
          go_simp
          refine (peek_any (HB.out.same (HSL.out.trans hHeld.2.2.2)).st.mem 0 j).mono ?_
          rintro e wP0 ⟨rfl, rfl⟩
          refine hK.out _ _ ?_ (fun hHeld => ?_)
          · exact hHeld
          clear hK K
          try simp only [Act.put, List.setIfInBounds_toArray, List.set_cons_zero, List.set_cons_succ]
          refine wpAnyH_ready (rs := [5]) (by kernel_rfl) (by simp) ?_
          refine AllReadyH.cons (o := ⟨some 178, _, _, _, _, _⟩) rfl (fun K hK => ?_) AllReadyH.nil
          rw [if_pos (by kernel_rfl)]
          go_simp
          refine (rpeek (HRM.out.same (HSL.out.trans hHeld.2.2.2)) 0 j).mono ?_
          rintro e wQ ⟨rfl, hsQ⟩
          refine hK.out _ _ ?_ (fun hHeld => ?_)
          · exact ⟨Same.cell hsQ hHeld.1, Same.cell hsQ hHeld.2.1, Same.cell hsQ hHeld.2.2.1, Sep.trans hHeld.2.2.2 hsQ⟩
          clear hK K
          try simp only [Act.put, List.setIfInBounds_toArray, List.set_cons_zero, List.set_cons_succ]
          refine wpAnyH_take (i := 6) (oi := ⟨some 179, _, _, _, _, _⟩) (v := ?v19) rfl (by kernel_rfl) (by kernel_rfl) (by kernel_rfl) (fun _ _ _ h => h) (Or.inl ⟨by kernel_rfl, ?h19⟩) hHeld ?_
          case h19 => intro w hSw; (try dsimp only at hSw); go_simp; try with_reducible rfl
          try simp only [Act.put, List.setIfInBounds_toArray, List.set_cons_zero, List.set_cons_succ]
          refine wpAnyH_done (by kernel_rfl) ?_ _
          have hs' := HSL.out.trans hHeld.2.2.2
          clear hHeld y0 y1 y2
          go_wp2
          go_roundw
          case rel => exact ⟨j + 1, by omega, by go_num, hs'⟩
          case measure => simp [intOf]; omega
        · have HC0 : Hid (∀ m, Calls Try.prog 27 #[.pointer (some ⟨p, 0, none⟩)] (wr.drewN m) fun e w'' => e = .returned (.int .i64 cnt) ∧ ∃ q, w'' = wr.drewN q) := fun m => (count_any ((HB.out.same HSL.out).same (Sep.drewN (fun _ => False) wr m)).st.mem).mono fun e w' ⟨he, hw⟩ => ⟨he, m, hw.symm⟩
          go_wp2
          go_quiet (exact HC0.out _)
          go_wp2
          go_ret
          exact ⟨by simp, ((HB.out.same HSL.out).same (Sep.drewN _ _ _)).st.inn.below HWl.out (Nat.le_refl _)⟩
end Go.Proofs.Ytiljledgoflogaa

