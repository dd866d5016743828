/- The worker's Pick where an access comes up. -/
import Derived.Test.YtiljledgoflogaaTd
import Derived.Deep.CutBlock
namespace Go.Proofs.Ytiljledgoflogaa
open Go.RowKit
set_option linter.unusedSimpArgs false
set_option linter.unusedVariables false

/-- Pick ahead of its step: the program's next access is A. -/
def Ready (F : Nat → Prop) (lo hi : Nat) (L : List Reg) (cnt wp mp bp c cap : Nat) (ci ce : Int) (B : List (List Acc)) (A : Acc) (l : List Acc) (told : List Int) (w wx : World) : Prop :=
  ∃ (vs : List Value) (bz : Bool) (x0 x1 x2 x3 x4 x5 x6 : Value), wx.heap[wp]? = some (wcells mp bp bz x0 x1 x2 x3 x4 x5 x6) ∧ Box 176 wx bp c cap vs ∧ Fits (Off F w.heap.size) wx vs B ∧ LP (Off F w.heap.size) wx (.agg #[x0, x1, x2, x3, x4, x5, x6]) (A :: l) told ∧ Mem lo hi wx mp L cnt ∧
    Sep (fun k => k = wp ∨ k = c) w wx ∧ w.heap.size + 2 ≤ wx.heap.size ∧ wx.heap[w.heap.size]? = some (.cells #[.int .i64 ci, .int .u64 ce] 33) ∧ wx.heap[w.heap.size + 1]? = some (.cells #[.int .i64 0, .slice none 0 0] 107)

/-- What the step leaves as it was. -/
def Kept (F : Nat → Prop) (lo hi : Nat) (wp mp bp c cap : Nat) (B : List (List Acc)) (w wx : World) : Prop :=
  ∃ (vs : List Value) (bz : Bool) (x0 x1 x2 x3 x4 x5 x6 : Value), wx.heap[wp]? = some (wcells mp bp bz x0 x1 x2 x3 x4 x5 x6) ∧ Box 176 wx bp c cap vs ∧ Fits (Off F w.heap.size) wx vs B ∧
    Sep (fun k => (lo ≤ k ∧ k < hi) ∨ k = wp ∨ k = c) w wx ∧ w.heap.size + 2 ≤ wx.heap.size ∧ wx.heap[w.heap.size + 1]? = some (.cells #[.int .i64 0, .slice none 0 0] 107)
theorem Kept.keep {F : Nat → Prop} {lo hi wp mp bp c cap : Nat} {B : List (List Acc)} {w wx wy : World} (h : Kept F lo hi wp mp bp c cap B w wx) (hs : In lo hi wx wy) (hFd : ∀ b, F b → ¬ (lo ≤ b ∧ b < hi)) (h1 : ¬ (lo ≤ wp ∧ wp < hi)) (h2 : ¬ (lo ≤ bp ∧ bp < hi)) (h3 : ¬ (lo ≤ c ∧ c < hi)) (hle : True) (hle2 : hi ≤ w.heap.size) : Kept F lo hi wp mp bp c cap B w wy := by
  obtain ⟨vs, bz, x0, x1, x2, x3, x4, x5, x6, a, b, d, e, f, g⟩ := h
  exact ⟨vs, bz, x0, x1, x2, x3, x4, x5, x6, Sep.obj hs a h1, b.stay hs h2 h3, Fits.stay hs (fun b hb _ => hFd b hb.1) d, e.trans (hs.mono fun _ _ k => .inl k), Nat.le_trans f hs.size, Sep.obj hs g (by omega)⟩
theorem Kept.same {F : Nat → Prop} {lo hi wp mp bp c cap : Nat} {B : List (List Acc)} {w wx wy : World} (h : Kept F lo hi wp mp bp c cap B w wx) (hs : Same wx wy) : Kept F lo hi wp mp bp c cap B w wy := by
  obtain ⟨vs, bz, x0, x1, x2, x3, x4, x5, x6, a, b, d, e, f, g⟩ := h
  exact ⟨vs, bz, x0, x1, x2, x3, x4, x5, x6, Same.obj hs a, b.stay hs (fun x => x) (fun x => x), Fits.stay hs (fun _ _ _ x => x) d, e.trans (Same.sep hs _), Nat.le_trans f hs.size, Same.obj hs g⟩

/-- Pick behind its step. -/
def Stept (F : Nat → Prop) (lo hi : Nat) (L : List Reg) (cnt wp mp bp c cap : Nat) (ci ce : Int) (B : List (List Acc)) (A : Acc) (l : List Acc) (told : List Int) (w : World) (s8 s9 : Value) (wx : World) : Prop :=
  Kept F lo hi wp mp bp c cap B w wx ∧ ∃ b8 : Nat, s8 = .pointer (some ⟨b8, 0, none⟩) ∧
    ((okB L ci ce A.op A.at_ = false ∧ s9 = .bool false ∧ Mem lo hi wx mp L cnt) ∨
     (okB L ci ce A.op A.at_ = true ∧ s9 = .bool true ∧ w.heap.size + 2 ≤ b8 ∧ Mem lo hi wx mp (doL L ci.toNat A.at_.toNat A.op A.x A.y) (cnt + 1) ∧
      ∃ y0 y1 y2 y3 y4 y5 y6, wx.heap[b8]? = some (.cells #[y0, y1, y2, y3, y4, y5, y6] 87) ∧ LP (Off F w.heap.size) wx (.agg #[y0, y1, y2, y3, y4, y5, y6]) l (told ++ [peekOf L ci A.at_])))

/-- What Pick answers where an access comes up. -/
def PickOut (F : Nat → Prop) (lo hi : Nat) (L : List Reg) (cnt wp mp bp c cap : Nat) (ci ce : Int) (B : List (List Acc)) (A : Acc) (l : List Acc) (told : List Int) (w : World) (e : Ending) (w' : World) : Prop :=
  Sep (fun k => (lo ≤ k ∧ k < hi) ∨ k = wp ∨ k = c) w w' ∧
  ((okB L ci ce A.op A.at_ = false ∧ e = .returned (evt 3 (.slice none 0 0)) ∧ Mem lo hi w' mp L cnt ∧ Wk F w' wp mp bp c cap ⟨B, none⟩) ∨
   (okB L ci ce A.op A.at_ = true ∧ Mem lo hi w' mp (doL L ci.toNat A.at_.toNat A.op A.x A.y) (cnt + 1) ∧
    ((l = [] ∧ ∃ ra rc, e = .returned (evt 2 (.slice ra (told.length + 1) rc)) ∧ SlcU F w' (.slice ra (told.length + 1) rc) (told ++ [peekOf L ci A.at_]) ∧ Wk F w' wp mp bp c cap ⟨B, none⟩) ∨
     (l ≠ [] ∧ e = .returned (evt 1 (.slice none 0 0)) ∧ Wk F w' wp mp bp c cap ⟨B, some (l, told ++ [peekOf L ci A.at_])⟩))))

theorem Stept.no {F : Nat → Prop} {lo hi : Nat} {L : List Reg} {cnt wp mp bp c cap : Nat} {ci ce : Int} {B : List (List Acc)} {A : Acc} {l : List Acc} {told : List Int} {w wx : World} {b8 : Nat} (h : okB L ci ce A.op A.at_ = false) (hk : Kept F lo hi wp mp bp c cap B w wx) (hm : Mem lo hi wx mp L cnt) :
    Stept F lo hi L cnt wp mp bp c cap ci ce B A l told w (.pointer (some ⟨b8, 0, none⟩)) (.bool false) wx := ⟨hk, b8, rfl, .inl ⟨h, rfl, hm⟩⟩
theorem Stept.yes {F : Nat → Prop} {lo hi : Nat} {L : List Reg} {cnt wp mp bp c cap : Nat} {ci ce : Int} {B : List (List Acc)} {A : Acc} {l : List Acc} {told : List Int} {w wx : World} {b8 : Nat} {y0 y1 y2 y3 y4 y5 y6 : Value} (h : okB L ci ce A.op A.at_ = true) (hb : w.heap.size + 2 ≤ b8) (ho : wx.heap[b8]? = some (.cells #[y0, y1, y2, y3, y4, y5, y6] 87))
    (hl : LP (Off F w.heap.size) wx (.agg #[y0, y1, y2, y3, y4, y5, y6]) l (told ++ [peekOf L ci A.at_])) (hm : Mem lo hi wx mp (doL L ci.toNat A.at_.toNat A.op A.x A.y) (cnt + 1)) (hk : Kept F lo hi wp mp bp c cap B w wx) :
    Stept F lo hi L cnt wp mp bp c cap ci ce B A l told w (.pointer (some ⟨b8, 0, none⟩)) (.bool true) wx := ⟨hk, b8, rfl, .inr ⟨h, rfl, hb, hm, _, _, _, _, _, _, _, ho, hl⟩⟩

section
variable {F : Nat → Prop} {w : World} {lo hi wp mp bp c cap cnt : Nat} {L : List Reg}

set_option maxRecDepth 100000 in
set_option maxHeartbeats 2000000 in
theorem pick_go {J : Job} {B : List (List Acc)} {A : Acc} {l : List Acc} {told : List Int} (h : Wk F w wp mp bp c cap J) (hJ : J = ⟨B, some (A :: l, told)⟩ ∨ (J = ⟨(A :: l) :: B, none⟩ ∧ told = [])) (hm : Mem lo hi w mp L cnt) (ci ce : Int) (hcnt : cnt < 1000000000) (hk : told.length ≤ 1000) (hl : l.length < 1000)
    (hF : ∀ b, w.heap.size ≤ b → F b) (hFw : ∀ b, F b → b ≠ wp ∧ b ≠ c) (hFd : ∀ b, F b → ¬ (lo ≤ b ∧ b < hi)) (hwp : ¬ (lo ≤ wp ∧ wp < hi)) (hbp : ¬ (lo ≤ bp ∧ bp < hi)) (hcc : ¬ (lo ≤ c ∧ c < hi)) :
    Calls Try.prog 54 #[.pointer (some ⟨wp, 0, none⟩), .agg #[.int .i64 ci, .int .u64 ce]] w (PickOut F lo hi L cnt wp mp bp c cap ci ce B A l told w) := by
  have hlt := h.lt
  have hmle := hm.le
  obtain ⟨vs, x0, x1, x2, x3, x4, x5, x6, a, b, d, e⟩ := h
  obtain ⟨W, hW, hs0, hsz, h0, h1⟩ := two_k w (.int .i64 ci) (.int .u64 ce)
  have a1 := hs0.obj a
  obtain ⟨bz, hbz⟩ : ∃ bz, bz = J.cur.isSome := ⟨_, rfl⟩
  rw [← hbz] at a1
  have n0 : wp ≠ w.heap.size + 1 := by omega
  have n1 : c ≠ w.heap.size + 1 := by omega
  have d1 := Fits.stay hs0 (fun _ _ _ x => x) (Fits.imp (G := Off F w.heap.size) (fun b hb hlt => ⟨hb, by omega, by omega⟩) d)
  have b1 := b.stay hs0 (fun x => x) (fun x => x)
  have A1 := Lib.hid a1
  have HW := Lib.hid hW
  have H1 := Lib.hid h1
  have H0 := Lib.hid h0
  have HSZ := Lib.hid hsz
  have HJ := Lib.hid hJ
  have HBZ := Lib.hid hbz
  unfold wcells at a1
  obtain ⟨c0, c1, c2, c3, c4, c5, c6, c7, c8, c9, c10, cf⟩ := cells11 a1
  obtain ⟨e0, e1, ef⟩ := cells2' h1
  rw [hW] at c0 c1 c2 c3 e0 e1
  have D := Lib.hid d1
  have B1 := Lib.hid b1
  have E := Lib.hid e
  have M0 := Lib.hid hm
  have HLT := Lib.hid hlt
  clear a a1 b b1 d d1 e hsz h0 h1 c4 c5 c6 c7 c8 c9 c10 hlt hW cf ef hJ hbz hm
  go_enter Try.func54, Try.ntmps54
  go_upto_if 14 with fail
  go_cut [5, 6, 7] from 15 (fun _ _ _ wx => Ready F lo hi L cnt wp mp bp c cap ci ce B A l told w wx)
  case first =>
    rcases HJ.out with rfl | ⟨rfl, rfl⟩
    · obtain rfl : bz = true := HBZ.out
      go_wp2
      go_meet
      rw [← HW.out]
      exact ⟨vs, true, x0, x1, x2, x3, x4, x5, x6, A1.out, B1.out, D.out, (E.out.2.imp2 (fun b hb hlt => ⟨hb, by omega, by omega⟩)).same hs0, M0.out.same hs0, Same.sep hs0 _, by rw [HSZ.out]; exact Nat.le_refl _, H0.out, H1.out⟩
    · obtain rfl : bz = false := HBZ.out
      obtain ⟨rfl, rfl, rfl, rfl, rfl, rfl, rfl⟩ := E.out
      obtain ⟨va, vc, vs, rfl, hv, d⟩ := D.out.cons
      obtain ⟨vn, hvn⟩ : ∃ vn, vn = (A :: l).length := ⟨_, rfl⟩
      have hv' : ArgF (Off F w.heap.size) W (.slice va vn vc) (A :: l) := by rw [hvn]; exact hv
      have V := Lib.hid hv'
      have D' := Lib.hid d
      have HVN := Lib.hid hvn
      rw [← hvn] at B1
      clear d hv hv' hvn D E
      go_wp2_with fail
      rw [← HW.out]
      refine (takeA_some B1.out).mono ?_
      rintro e w1 ⟨rfl, hb2, hs1⟩
      have A2 := Lib.hid (hs1.obj A1.out HLT.out.2.2.2.2.1)
      have hFc : ∀ b, F b → b < W.heap.size → ¬ b = c := fun b hb _ => (hFw b hb).2
      have V2 := Lib.hid (V.out.stay hs1 (fun b hb => hFc b hb.1))
      have D2 := Lib.hid (Fits.stay hs1 (fun b hb => hFc b hb.1) D'.out)
      have H2 := Lib.hid (hs1.obj H1.out n1.symm)
      have H2' := Lib.hid (hs1.obj H0.out (by have := HLT.out; omega))
      have B2 := Lib.hid hb2
      have M2 := Lib.hid ((M0.out.same hs0).stay hs1 (fun b h1 h2 h3 => hcc (h3 ▸ ⟨h1, h2⟩)))
      have s02 : Sep (fun k => k = wp ∨ k = c) w w1 := (Same.sep hs0 _).trans (hs1.mono fun _ _ e => .inr e)
      have hge1 : w.heap.size + 2 ≤ w1.heap.size := by have := hs1.size; have := HSZ.out; omega
      obtain ⟨d0, d1, d2, d3, d4, d5, d6, d7, d8, d9, d10, df⟩ := cells11 A2.out
      clear c0 c1 c2 c3 e0 e1 hs1 hb2 V D' B1 H1 A1 HSZ HW hs0 M0 H0
      go_wp2_with fail
      refine (list_arg (F := Off F w.heap.size) V2.out.any (by simp; omega) (fun b hb => ⟨hF b (by omega), by omega, by omega⟩)).mono ?_
      rintro e w2 ⟨v2, rfl, hlp, hs2⟩
      rcases hlp.form with ⟨hx, _⟩ | ⟨A', l', lb, tb, he, rfl⟩
      · cases hx
      obtain ⟨rfl, rfl⟩ : A = A' ∧ l = l' := by simpa using he
      have A3 := Lib.hid (hs2.obj A2.out)
      have D3 := Lib.hid (Fits.stay hs2 (fun _ _ _ x => x) D2.out)
      have H3 := Lib.hid (hs2.obj H2.out)
      have H3' := Lib.hid (hs2.obj H2'.out)
      have B3 := Lib.hid (B2.out.stay hs2 (fun x => x) (fun x => x))
      have M3 := Lib.hid (M2.out.same hs2)
      have R3 := Lib.hid hlp
      have s03 := s02.trans (Same.sep hs2 _)
      obtain ⟨d0, d1, d2, d3, d4, d5, d6, d7, d8, d9, d10, df⟩ := cells11 A3.out
      clear hlp hs2 s02 V2 D2 B2 H2 A2 he M2 H2'
      go_wp2_with fail
      obtain ⟨wT, hwT⟩ : ∃ x, x = ((((((w2.setCell ⟨wp, 4, none⟩ (.bool false)).setCell ⟨wp, 5, none⟩ (.slice none 0 0)).setCell ⟨wp, 6, none⟩ (.int .i64 A.op)).setCell ⟨wp, 7, none⟩ (.int .i64 A.at_)).setCell ⟨wp, 8, none⟩ (.int .u64 A.x)).setCell ⟨wp, 9, none⟩ (.int .u64 A.y)).setCell ⟨wp, 10, none⟩ (.func (.func 93) #[] #[.pointer (some ⟨lb, 0, none⟩), .pointer (some ⟨tb, 0, none⟩)]) := ⟨_, rfl⟩
      rw [← hwT]
      have s7 : Sep (fun k => k = wp) w2 wT := by rw [hwT]; exact sep7at w2 wp (.bool false) (.slice none 0 0) (.int .i64 A.op) (.int .i64 A.at_) (.int .u64 A.x) (.int .u64 A.y) (.func (.func 93) #[] #[.pointer (some ⟨lb, 0, none⟩), .pointer (some ⟨tb, 0, none⟩)])
      have AT : Hid (wT.heap[wp]? = some (wcells mp bp false (.bool false) (.slice none 0 0) (.int .i64 A.op) (.int .i64 A.at_) (.int .u64 A.x) (.int .u64 A.y) (.func (.func 93) #[] #[.pointer (some ⟨lb, 0, none⟩), .pointer (some ⟨tb, 0, none⟩)]))) := by rw [hwT]; exact heap7at A3.out
      clear hwT d0 d1 d2 d3 d4 d5 d6 d7 d8 d9 d10
      refine (end_left A.op A.at_ A.x A.y 1 _ AT.out).mono ?_
      rintro e w4 ⟨rfl, h4, hs4⟩
      have s24 : Sep (fun k => k = wp) w2 w4 := s7.trans hs4
      have s04 : Sep (fun k => k = wp ∨ k = c) w w4 := s03.trans (s24.mono fun _ _ e => .inl e)
      have hFw' : ∀ b, F b → b < w2.heap.size → ¬ b = wp := fun b hb _ => (hFw b hb).1
      have A4 := Lib.hid h4
      have B4 := Lib.hid (B3.out.stay s24 HLT.out.2.2.2.1.symm HLT.out.2.2.2.2.1.symm)
      have D4 := Lib.hid (Fits.stay s24 (fun b hb => hFw' b hb.1) D3.out)
      have R4 := Lib.hid (R3.out.stay s24 (fun b hb _ => (hFw b hb.1).1))
      have H4 := Lib.hid (s24.obj H3.out n0.symm)
      have H4' := Lib.hid (s24.obj H3'.out (by have := HLT.out; omega))
      have M4 := Lib.hid (M3.out.stay s24 (fun b h1 h2 h3 => hwp (h3 ▸ ⟨h1, h2⟩)))
      have hge4 : w.heap.size + 2 ≤ w4.heap.size := by have := s04.size; have := lt_of_block H4.out; omega
      clear h4 hs4 s7 s24 s03 AT A3 B3 D3 R3 H3 H3' M3
      unfold evt
      go_wp2
      go_meet
      have ha := Sep.alloc (fun _ => False) w4 (.cells #[.int .i64 1, .slice none 0 0] 107)
      exact ⟨vs, true, _, _, _, _, _, _, _, Same.obj ha A4.out, B4.out.stay ha (fun x => x) (fun x => x), Fits.stay ha (fun _ _ _ x => x) D4.out, R4.out.same ha, M4.out.same ha, s04.trans (Same.sep ha _), Nat.le_trans hge4 ha.size, Same.obj ha H4.out |> fun _ => Same.obj ha H4'.out, Same.obj ha H4.out⟩
  case rest =>
    obtain ⟨vs, bz, x0, x1, x2, x3, x4, x5, x6, hA, hB, hD, hlp, hm, s0, hge, hq, hr⟩ := hcut
    rcases hlp.form with ⟨hx, _⟩ | ⟨A', l', lb, tb, he, hform⟩
    · cases hx
    obtain ⟨rfl, rfl⟩ : A = A' ∧ l = l' := by simpa using he
    obtain ⟨rfl, rfl, rfl, rfl, rfl, rfl, rfl⟩ : x0 = _ ∧ x1 = _ ∧ x2 = _ ∧ x3 = _ ∧ x4 = _ ∧ x5 = _ ∧ x6 = _ := by simpa using hform
    have hK : Kept F lo hi wp mp bp c cap B w wc := ⟨vs, bz, _, _, _, _, _, _, _, hA, hB, hD, s0.mono fun _ _ k => .inr k, hge, hr⟩
    have HR := Lib.hid hK
    obtain ⟨p0, p1, p2, p3, p4, p5, p6, p7, p8, p9, p10, pf⟩ := cells11 hA
    obtain ⟨q0, q1, qf⟩ := cells2' hq
    have nwp : ¬ (lo ≤ wp ∧ wp < hi) := hwp
    have nq : ¬ (lo ≤ w.heap.size ∧ w.heap.size < hi) := by omega
    have LTW : wp < w.heap.size := HLT.out.1
    clear he hform hK hA hB hD hq hr p1 p2 p3 pf qf c0 c1 c2 c3 e0 e1 H1 H0 A1 HSZ HW hs0 M0 D B1 E HJ HBZ
    go_upto_region 9 with fail
    go_cut [8, 9] from 41 (fun s8 s9 wx => Stept F lo hi L cnt wp mp bp c cap ci ce B A l told w s8 s9 wx)
    case first =>
      cases hok : okB L ci ce A.op A.at_ with
      | false =>
        have HOK := Lib.hid hok
        clear hok
        refine wp_region_held_drew (S := (fun v => v.cell? ⟨wp, 0, none⟩ = some (.pointer (some ⟨mp, 0, none⟩)) ∧ v.cell? ⟨wp, 4, none⟩ = some (.bool false) ∧ v.cell? ⟨wp, 5, none⟩ = some (.slice none 0 0) ∧ v.cell? ⟨wp, 6, none⟩ = some (.int .i64 A.op) ∧ v.cell? ⟨wp, 7, none⟩ = some (.int .i64 A.at_) ∧ v.cell? ⟨wp, 8, none⟩ = some (.int .u64 A.x) ∧ v.cell? ⟨wp, 9, none⟩ = some (.int .u64 A.y) ∧ v.cell? ⟨wp, 10, none⟩ = some (.func (.func 93) #[] #[.pointer (some ⟨lb, 0, none⟩), .pointer (some ⟨tb, 0, none⟩)]) ∧ v.cell? ⟨w.heap.size, 0, none⟩ = some (.int .i64 ci) ∧ v.cell? ⟨w.heap.size, 1, none⟩ = some (.int .u64 ce))) (by kernel_rfl) ?_ (fun hHeld => ?_)
        · exact ⟨(Sep.drew (fun _ => False) wc).cell p0 (fun x => x), (Sep.drew (fun _ => False) wc).cell p4 (fun x => x), (Sep.drew (fun _ => False) wc).cell p5 (fun x => x), (Sep.drew (fun _ => False) wc).cell p6 (fun x => x), (Sep.drew (fun _ => False) wc).cell p7 (fun x => x), (Sep.drew (fun _ => False) wc).cell p8 (fun x => x), (Sep.drew (fun _ => False) wc).cell p9 (fun x => x), (Sep.drew (fun _ => False) wc).cell p10 (fun x => x), (Sep.drew (fun _ => False) wc).cell q0 (fun x => x), (Sep.drew (fun _ => False) wc).cell q1 (fun x => x)⟩
        change wpAnyH _ _ _ _ _ 16 _ _ _
        refine wpAnyH_take (i := 0) (oi := ⟨some 42, _, _, _, _, _⟩) (v := ?v1) rfl (by kernel_rfl) (by kernel_rfl) (by kernel_rfl) (fun _ _ _ h => h) (Or.inl ⟨by kernel_rfl, ?h1⟩) hHeld ?_
        case h1 => intro w hSw; (try dsimp only at hSw); go_simp; try with_reducible rfl
        try simp only [Act.put, List.setIfInBounds_toArray, List.set_cons_zero, List.set_cons_succ]
        refine wpAnyH_take (i := 1) (oi := ⟨some 43, _, _, _, _, _⟩) (v := ?v2) rfl (by kernel_rfl) (by kernel_rfl) (by kernel_rfl) (fun _ _ _ h => h) (Or.inl ⟨by kernel_rfl, ?h2⟩) hHeld ?_
        case h2 => intro w hSw; (try dsimp only at hSw); go_simp; try with_reducible rfl
        try simp only [Act.put, List.setIfInBounds_toArray, List.set_cons_zero, List.set_cons_succ]
        refine wpAnyH_take (i := 2) (oi := ⟨some 44, _, _, _, _, _⟩) (v := ?v3) rfl (by kernel_rfl) (by kernel_rfl) (by kernel_rfl) (fun _ _ _ h => h) (Or.inl ⟨by kernel_rfl, ?h3⟩) hHeld ?_
        case h3 => intro w hSw; (try dsimp only at hSw); go_simp; try with_reducible rfl
        try simp only [Act.put, List.setIfInBounds_toArray, List.set_cons_zero, List.set_cons_succ]
        refine wpAnyH_take (i := 3) (oi := ⟨some 45, _, _, _, _, _⟩) (v := ?v4) rfl (by kernel_rfl) (by kernel_rfl) (by kernel_rfl) (fun _ _ _ h => h) (Or.inl ⟨by kernel_rfl, ?h4⟩) hHeld ?_
        case h4 => intro w hSw; (try dsimp only at hSw); go_simp; try with_reducible rfl
        try simp only [Act.put, List.setIfInBounds_toArray, List.set_cons_zero, List.set_cons_succ]
        refine wpAnyH_take (i := 4) (oi := ⟨some 46, _, _, _, _, _⟩) (v := ?v5) rfl (by kernel_rfl) (by kernel_rfl) (by kernel_rfl) (fun _ _ _ h => h) (Or.inl ⟨by kernel_rfl, ?h5⟩) hHeld ?_
        case h5 => intro w hSw; (try dsimp only at hSw); go_simp; try with_reducible rfl
        try simp only [Act.put, List.setIfInBounds_toArray, List.set_cons_zero, List.set_cons_succ]
        refine wpAnyH_take (i := 5) (oi := ⟨some 47, _, _, _, _, _⟩) (v := ?v6) rfl (by kernel_rfl) (by kernel_rfl) (by kernel_rfl) (fun _ _ _ h => h) (Or.inl ⟨by kernel_rfl, ?h6⟩) hHeld ?_
        case h6 => intro w hSw; (try dsimp only at hSw); go_simp; try with_reducible rfl
        try simp only [Act.put, List.setIfInBounds_toArray, List.set_cons_zero, List.set_cons_succ]
        refine wpAnyH_take (i := 6) (oi := ⟨some 48, _, _, _, _, _⟩) (v := ?v7) rfl (by kernel_rfl) (by kernel_rfl) (by kernel_rfl) (fun _ _ _ h => h) (Or.inl ⟨by kernel_rfl, ?h7⟩) hHeld ?_
        case h7 => intro w hSw; (try dsimp only at hSw); go_simp; try with_reducible rfl
        try simp only [Act.put, List.setIfInBounds_toArray, List.set_cons_zero, List.set_cons_succ]
        refine wpAnyH_take (i := 7) (oi := ⟨some 49, _, _, _, _, _⟩) (v := ?v8) rfl (by kernel_rfl) (by kernel_rfl) (by kernel_rfl) (fun _ _ _ h => h) (Or.inl ⟨by kernel_rfl, ?h8⟩) hHeld ?_
        case h8 => intro w hSw; (try dsimp only at hSw); go_simp; try with_reducible rfl
        try simp only [Act.put, List.setIfInBounds_toArray, List.set_cons_zero, List.set_cons_succ]
        refine wpAnyH_take (i := 8) (oi := ⟨some 50, _, _, _, _, _⟩) (v := ?v9) rfl (by kernel_rfl) (by kernel_rfl) (by kernel_rfl) (fun _ _ _ h => h) (Or.inl ⟨by kernel_rfl, ?h9⟩) hHeld ?_
        case h9 => intro w hSw; (try dsimp only at hSw); go_simp; try with_reducible rfl
        try simp only [Act.put, List.setIfInBounds_toArray, List.set_cons_zero, List.set_cons_succ]
        refine wpAnyH_ready (rs := [9, 13]) (by kernel_rfl) (by simp) ?_
        refine AllReadyH.cons (o := ⟨some 51, _, _, _, _, _⟩) rfl (fun K hK => ?_) ?_
        ·
          rw [if_pos (by kernel_rfl)]
          go_simp
          refine (step_no (hm.same (Sep.drew (fun _ => False) wc)) (hlp.same (Sep.drew (fun _ => False) wc)) ci ce HOK.out).mono ?_
          rintro e wS ⟨rfl, hsS⟩
          have hS : In lo hi wc wS := (Same.sep (Sep.drew (fun _ => False) wc) _).trans (Same.sep hsS _)
          have hS0 : Same wc wS := Sep.trans (Sep.drew (fun _ => False) wc) hsS
          refine hK.out _ _ ?_ (fun hHeld => ?_)
          · exact ⟨Sep.cell hS p0 nwp, Sep.cell hS p4 nwp, Sep.cell hS p5 nwp, Sep.cell hS p6 nwp, Sep.cell hS p7 nwp, Sep.cell hS p8 nwp, Sep.cell hS p9 nwp, Sep.cell hS p10 nwp, Sep.cell hS q0 nq, Sep.cell hS q1 nq⟩
          clear hK K
          try simp only [Act.put, List.setIfInBounds_toArray, List.set_cons_zero, List.set_cons_succ]
          refine wpAnyH_take (i := 10) (oi := ⟨some 41, _, _, _, _, _⟩) (v := ?v10) rfl (by kernel_rfl) (by kernel_rfl) (by kernel_rfl) (fun _ _ _ h => h) (Or.inl ⟨by kernel_rfl, ?h10⟩) hHeld ?_
          case h10 => intro w hSw; (try dsimp only at hSw); go_simp; try with_reducible rfl
          try simp only [Act.put, List.setIfInBounds_toArray, List.set_cons_zero, List.set_cons_succ]
          refine wpAnyH_take (i := 11) (oi := ⟨some 52, _, _, _, _, _⟩) (v := ?v11) rfl (by kernel_rfl) (by kernel_rfl) (by kernel_rfl) (fun _ _ _ h => h) (Or.inl ⟨by kernel_rfl, ?h11⟩) hHeld ?_
          case h11 => intro w hSw; (try dsimp only at hSw); go_simp; try with_reducible rfl
          try simp only [Act.put, List.setIfInBounds_toArray, List.set_cons_zero, List.set_cons_succ]
          refine wpAnyH_take (i := 12) (oi := ⟨some 53, _, _, _, _, _⟩) (v := ?v12) rfl (by kernel_rfl) (by kernel_rfl) (by kernel_rfl) (fun _ _ _ h => h) (Or.inl ⟨by kernel_rfl, ?h12⟩) hHeld ?_
          case h12 => intro w hSw; (try dsimp only at hSw); go_simp; try with_reducible rfl
          try simp only [Act.put, List.setIfInBounds_toArray, List.set_cons_zero, List.set_cons_succ]
          refine wpAnyH_ready (rs := [13]) (by kernel_rfl) (by simp) ?_
          refine AllReadyH.cons (o := ⟨some 8, _, _, _, _, _⟩) rfl (fun K hK => ?_) AllReadyH.nil
          rw [if_pos (by kernel_rfl)]
          go_simp
          obtain ⟨wA, hwA⟩ : ∃ x, x = wS.alloc (.cells #[.bool false, .slice none 0 0, .int .i64 0, .int .i64 0, .int .u64 0, .int .u64 0, .nilFunc] 87) := ⟨_, rfl⟩
          rw [← hwA]
          have hA0 : Same wS wA := by rw [hwA]; exact Sep.alloc _ _ _
          have obA : wA.heap[wS.heap.size]? = some (.cells #[.bool false, .slice none 0 0, .int .i64 0, .int .i64 0, .int .u64 0, .int .u64 0, .nilFunc] 87) := by rw [hwA]; exact heap_alloc_new _ _
          obtain ⟨b8, hb8⟩ : ∃ b, b = wS.heap.size := ⟨_, rfl⟩
          have hA : In lo hi wc wA := hS.trans (Same.sep hA0 _)
          have g8 : wc.heap.size ≤ b8 := by have := hS.size; omega
          have g8S : wS.heap.size ≤ b8 := by omega
          rw [← hb8] at obA ⊢
          clear hwA hb8
          refine hK.out _ _ ?_ (fun hHeld => ?_)
          · exact ⟨Sep.cell hA p0 nwp, Sep.cell hA p4 nwp, Sep.cell hA p5 nwp, Sep.cell hA p6 nwp, Sep.cell hA p7 nwp, Sep.cell hA p8 nwp, Sep.cell hA p9 nwp, Sep.cell hA p10 nwp, Sep.cell hA q0 nq, Sep.cell hA q1 nq⟩
          clear hK K
          try simp only [Act.put, List.setIfInBounds_toArray, List.set_cons_zero, List.set_cons_succ]
          refine wpAnyH_ready (rs := [14]) (by kernel_rfl) (by simp) ?_
          refine AllReadyH.cons (o := ⟨none, _, _, _, _, _⟩) rfl (fun K hK => ?_) AllReadyH.nil
          obtain ⟨t0, t1, t2, t3, t4, t5, t6, tf⟩ := cells7 obA
          rw [if_pos (by kernel_rfl)]
          go_simp
          obtain ⟨wT, hwT⟩ : ∃ x, x = (((((((wA.setCell ⟨b8, 0, none⟩ (.bool false)).setCell ⟨b8, 1, none⟩ (.slice none 0 0)).setCell ⟨b8, 2, none⟩ (.int .i64 A.op)).setCell ⟨b8, 3, none⟩ (.int .i64 A.at_)).setCell ⟨b8, 4, none⟩ (.int .u64 A.x)).setCell ⟨b8, 5, none⟩ (.int .u64 A.y)).setCell ⟨b8, 6, none⟩ (.func (.func 93) #[] #[.pointer (some ⟨lb, 0, none⟩), .pointer (some ⟨tb, 0, none⟩)])) := ⟨_, rfl⟩
          rw [← hwT]
          have h7 : Sep (fun k => k = b8) wA wT := by rw [hwT]; exact sep7 wA b8 (.bool false) (.slice none 0 0) (.int .i64 A.op) (.int .i64 A.at_) (.int .u64 A.x) (.int .u64 A.y) (.func (.func 93) #[] #[.pointer (some ⟨lb, 0, none⟩), .pointer (some ⟨tb, 0, none⟩)])
          have obT : wT.heap[b8]? = some (.cells #[.bool false, .slice none 0 0, .int .i64 A.op, .int .i64 A.at_, .int .u64 A.x, .int .u64 A.y, .func (.func 93) #[] #[.pointer (some ⟨lb, 0, none⟩), .pointer (some ⟨tb, 0, none⟩)]] 87) := by rw [hwT]; exact heap7 obA rfl
          have hw8 : ¬ wp = b8 := by omega
          have hq8 : ¬ w.heap.size = b8 := by omega
          clear hwT
          refine hK.out _ _ ?_ (fun hHeld => ?_)
          · exact ⟨h7.cell (Sep.cell hA p0 nwp) hw8, h7.cell (Sep.cell hA p4 nwp) hw8, h7.cell (Sep.cell hA p5 nwp) hw8, h7.cell (Sep.cell hA p6 nwp) hw8, h7.cell (Sep.cell hA p7 nwp) hw8, h7.cell (Sep.cell hA p8 nwp) hw8, h7.cell (Sep.cell hA p9 nwp) hw8, h7.cell (Sep.cell hA p10 nwp) hw8, h7.cell (Sep.cell hA q0 nq) hq8, h7.cell (Sep.cell hA q1 nq) hq8⟩
          clear hK K
          try simp only [Act.put, List.setIfInBounds_toArray, List.set_cons_zero, List.set_cons_succ]
          refine wpAnyH_take (i := 15) (oi := ⟨some 9, _, _, _, _, _⟩) (v := ?v13) rfl (by kernel_rfl) (by kernel_rfl) (by kernel_rfl) (fun _ _ _ h => h) (Or.inl ⟨by kernel_rfl, ?h13⟩) hHeld ?_
          case h13 => intro w hSw; (try dsimp only at hSw); go_simp; try with_reducible rfl
          try simp only [Act.put, List.setIfInBounds_toArray, List.set_cons_zero, List.set_cons_succ]
          refine wpAnyH_done (by kernel_rfl) ?_ _
          clear hHeld p0 p4 p5 p6 p7 p8 p9 p10 q0 q1 t0 t1 t2 t3 t4 t5 t6 tf
          go_wp2
          go_meet
          have hT : Same wc wT := same_then (hS0.trans hA0) g8 h7
          exact Stept.no HOK.out (HR.out.same hT) (hm.same hT)
        refine AllReadyH.cons (o := ⟨some 8, _, _, _, _, _⟩) rfl (fun K hK => ?_) AllReadyH.nil
        ·
          rw [if_pos (by kernel_rfl)]
          go_simp
          obtain ⟨wA, hwA⟩ : ∃ x, x = (wc.alloc (.cells #[.bool false, .slice none 0 0, .int .i64 0, .int .i64 0, .int .u64 0, .int .u64 0, .nilFunc] 87)).drew := ⟨_, rfl⟩
          rw [← hwA]
          have hA : Same wc wA := by rw [hwA]; exact Sep.trans (Sep.alloc _ wc _) (Sep.drew _ _)
          have obA : wA.heap[wc.heap.size]? = some (.cells #[.bool false, .slice none 0 0, .int .i64 0, .int .i64 0, .int .u64 0, .int .u64 0, .nilFunc] 87) := by rw [hwA]; exact heap_alloc_new wc _
          obtain ⟨b8, hb8⟩ : ∃ b, b = wc.heap.size := ⟨_, rfl⟩
          have g8 : wc.heap.size ≤ b8 := by omega
          rw [← hb8] at obA ⊢
          clear hwA hb8
          refine hK.out _ _ ?_ (fun hHeld => ?_)
          · exact ⟨Same.cell hA p0, Same.cell hA p4, Same.cell hA p5, Same.cell hA p6, Same.cell hA p7, Same.cell hA p8, Same.cell hA p9, Same.cell hA p10, Same.cell hA q0, Same.cell hA q1⟩
          clear hK K
          try simp only [Act.put, List.setIfInBounds_toArray, List.set_cons_zero, List.set_cons_succ]
          refine wpAnyH_ready (rs := [9]) (by kernel_rfl) (by simp) ?_
          refine AllReadyH.cons (o := ⟨some 51, _, _, _, _, _⟩) rfl (fun K hK => ?_) AllReadyH.nil
          rw [if_pos (by kernel_rfl)]
          go_simp
          refine (step_no (hm.same (hA)) (hlp.same (hA)) ci ce HOK.out).mono ?_
          rintro e wS ⟨rfl, hsS⟩
          have hS : In lo hi wc wS := (Same.sep (hA) _).trans (Same.sep hsS _)
          have n8 : ¬ (lo ≤ b8 ∧ b8 < hi) := by have := hm.le; omega
          have obS := Sep.obj (Same.sep hsS (fun k => lo ≤ k ∧ k < hi)) obA n8
          have hS0 : Same wc wS := Sep.trans (hA) hsS
          refine hK.out _ _ ?_ (fun hHeld => ?_)
          · exact ⟨Sep.cell hS p0 nwp, Sep.cell hS p4 nwp, Sep.cell hS p5 nwp, Sep.cell hS p6 nwp, Sep.cell hS p7 nwp, Sep.cell hS p8 nwp, Sep.cell hS p9 nwp, Sep.cell hS p10 nwp, Sep.cell hS q0 nq, Sep.cell hS q1 nq⟩
          clear hK K
          try simp only [Act.put, List.setIfInBounds_toArray, List.set_cons_zero, List.set_cons_succ]
          refine wpAnyH_take (i := 10) (oi := ⟨some 41, _, _, _, _, _⟩) (v := ?v14) rfl (by kernel_rfl) (by kernel_rfl) (by kernel_rfl) (fun _ _ _ h => h) (Or.inl ⟨by kernel_rfl, ?h14⟩) hHeld ?_
          case h14 => intro w hSw; (try dsimp only at hSw); go_simp; try with_reducible rfl
          try simp only [Act.put, List.setIfInBounds_toArray, List.set_cons_zero, List.set_cons_succ]
          refine wpAnyH_take (i := 11) (oi := ⟨some 52, _, _, _, _, _⟩) (v := ?v15) rfl (by kernel_rfl) (by kernel_rfl) (by kernel_rfl) (fun _ _ _ h => h) (Or.inl ⟨by kernel_rfl, ?h15⟩) hHeld ?_
          case h15 => intro w hSw; (try dsimp only at hSw); go_simp; try with_reducible rfl
          try simp only [Act.put, List.setIfInBounds_toArray, List.set_cons_zero, List.set_cons_succ]
          refine wpAnyH_take (i := 12) (oi := ⟨some 53, _, _, _, _, _⟩) (v := ?v16) rfl (by kernel_rfl) (by kernel_rfl) (by kernel_rfl) (fun _ _ _ h => h) (Or.inl ⟨by kernel_rfl, ?h16⟩) hHeld ?_
          case h16 => intro w hSw; (try dsimp only at hSw); go_simp; try with_reducible rfl
          try simp only [Act.put, List.setIfInBounds_toArray, List.set_cons_zero, List.set_cons_succ]
          refine wpAnyH_ready (rs := [14]) (by kernel_rfl) (by simp) ?_
          refine AllReadyH.cons (o := ⟨none, _, _, _, _, _⟩) rfl (fun K hK => ?_) AllReadyH.nil
          obtain ⟨t0, t1, t2, t3, t4, t5, t6, tf⟩ := cells7 obS
          rw [if_pos (by kernel_rfl)]
          go_simp
          obtain ⟨wT, hwT⟩ : ∃ x, x = (((((((wS.setCell ⟨b8, 0, none⟩ (.bool false)).setCell ⟨b8, 1, none⟩ (.slice none 0 0)).setCell ⟨b8, 2, none⟩ (.int .i64 A.op)).setCell ⟨b8, 3, none⟩ (.int .i64 A.at_)).setCell ⟨b8, 4, none⟩ (.int .u64 A.x)).setCell ⟨b8, 5, none⟩ (.int .u64 A.y)).setCell ⟨b8, 6, none⟩ (.func (.func 93) #[] #[.pointer (some ⟨lb, 0, none⟩), .pointer (some ⟨tb, 0, none⟩)])) := ⟨_, rfl⟩
          rw [← hwT]
          have h7 : Sep (fun k => k = b8) wS wT := by rw [hwT]; exact sep7 wS b8 (.bool false) (.slice none 0 0) (.int .i64 A.op) (.int .i64 A.at_) (.int .u64 A.x) (.int .u64 A.y) (.func (.func 93) #[] #[.pointer (some ⟨lb, 0, none⟩), .pointer (some ⟨tb, 0, none⟩)])
          have obT : wT.heap[b8]? = some (.cells #[.bool false, .slice none 0 0, .int .i64 A.op, .int .i64 A.at_, .int .u64 A.x, .int .u64 A.y, .func (.func 93) #[] #[.pointer (some ⟨lb, 0, none⟩), .pointer (some ⟨tb, 0, none⟩)]] 87) := by rw [hwT]; exact heap7 obS rfl
          have hw8 : ¬ wp = b8 := by omega
          have hq8 : ¬ w.heap.size = b8 := by omega
          clear hwT
          refine hK.out _ _ ?_ (fun hHeld => ?_)
          · exact ⟨h7.cell (Sep.cell hS p0 nwp) hw8, h7.cell (Sep.cell hS p4 nwp) hw8, h7.cell (Sep.cell hS p5 nwp) hw8, h7.cell (Sep.cell hS p6 nwp) hw8, h7.cell (Sep.cell hS p7 nwp) hw8, h7.cell (Sep.cell hS p8 nwp) hw8, h7.cell (Sep.cell hS p9 nwp) hw8, h7.cell (Sep.cell hS p10 nwp) hw8, h7.cell (Sep.cell hS q0 nq) hq8, h7.cell (Sep.cell hS q1 nq) hq8⟩
          clear hK K
          try simp only [Act.put, List.setIfInBounds_toArray, List.set_cons_zero, List.set_cons_succ]
          refine wpAnyH_take (i := 15) (oi := ⟨some 9, _, _, _, _, _⟩) (v := ?v17) rfl (by kernel_rfl) (by kernel_rfl) (by kernel_rfl) (fun _ _ _ h => h) (Or.inl ⟨by kernel_rfl, ?h17⟩) hHeld ?_
          case h17 => intro w hSw; (try dsimp only at hSw); go_simp; try with_reducible rfl
          try simp only [Act.put, List.setIfInBounds_toArray, List.set_cons_zero, List.set_cons_succ]
          refine wpAnyH_done (by kernel_rfl) ?_ _
          clear hHeld p0 p4 p5 p6 p7 p8 p9 p10 q0 q1 t0 t1 t2 t3 t4 t5 t6 tf
          go_wp2
          go_meet
          have hT : Same wc wT := same_then hS0 g8 h7
          exact Stept.no HOK.out (HR.out.same hT) (hm.same hT)
      | true =>
        have HOK := Lib.hid hok
        clear hok
        refine wp_region_held_drew (S := (fun v => v.cell? ⟨wp, 0, none⟩ = some (.pointer (some ⟨mp, 0, none⟩)) ∧ v.cell? ⟨wp, 4, none⟩ = some (.bool false) ∧ v.cell? ⟨wp, 5, none⟩ = some (.slice none 0 0) ∧ v.cell? ⟨wp, 6, none⟩ = some (.int .i64 A.op) ∧ v.cell? ⟨wp, 7, none⟩ = some (.int .i64 A.at_) ∧ v.cell? ⟨wp, 8, none⟩ = some (.int .u64 A.x) ∧ v.cell? ⟨wp, 9, none⟩ = some (.int .u64 A.y) ∧ v.cell? ⟨wp, 10, none⟩ = some (.func (.func 93) #[] #[.pointer (some ⟨lb, 0, none⟩), .pointer (some ⟨tb, 0, none⟩)]) ∧ v.cell? ⟨w.heap.size, 0, none⟩ = some (.int .i64 ci) ∧ v.cell? ⟨w.heap.size, 1, none⟩ = some (.int .u64 ce))) (by kernel_rfl) ?_ (fun hHeld => ?_)
        · exact ⟨(Sep.drew (fun _ => False) wc).cell p0 (fun x => x), (Sep.drew (fun _ => False) wc).cell p4 (fun x => x), (Sep.drew (fun _ => False) wc).cell p5 (fun x => x), (Sep.drew (fun _ => False) wc).cell p6 (fun x => x), (Sep.drew (fun _ => False) wc).cell p7 (fun x => x), (Sep.drew (fun _ => False) wc).cell p8 (fun x => x), (Sep.drew (fun _ => False) wc).cell p9 (fun x => x), (Sep.drew (fun _ => False) wc).cell p10 (fun x => x), (Sep.drew (fun _ => False) wc).cell q0 (fun x => x), (Sep.drew (fun _ => False) wc).cell q1 (fun x => x)⟩
        change wpAnyH _ _ _ _ _ 16 _ _ _
        refine wpAnyH_take (i := 0) (oi := ⟨some 42, _, _, _, _, _⟩) (v := ?v18) rfl (by kernel_rfl) (by kernel_rfl) (by kernel_rfl) (fun _ _ _ h => h) (Or.inl ⟨by kernel_rfl, ?h18⟩) hHeld ?_
        case h18 => intro w hSw; (try dsimp only at hSw); go_simp; try with_reducible rfl
        try simp only [Act.put, List.setIfInBounds_toArray, List.set_cons_zero, List.set_cons_succ]
        refine wpAnyH_take (i := 1) (oi := ⟨some 43, _, _, _, _, _⟩) (v := ?v19) rfl (by kernel_rfl) (by kernel_rfl) (by kernel_rfl) (fun _ _ _ h => h) (Or.inl ⟨by kernel_rfl, ?h19⟩) hHeld ?_
        case h19 => intro w hSw; (try dsimp only at hSw); go_simp; try with_reducible rfl
        try simp only [Act.put, List.setIfInBounds_toArray, List.set_cons_zero, List.set_cons_succ]
        refine wpAnyH_take (i := 2) (oi := ⟨some 44, _, _, _, _, _⟩) (v := ?v20) rfl (by kernel_rfl) (by kernel_rfl) (by kernel_rfl) (fun _ _ _ h => h) (Or.inl ⟨by kernel_rfl, ?h20⟩) hHeld ?_
        case h20 => intro w hSw; (try dsimp only at hSw); go_simp; try with_reducible rfl
        try simp only [Act.put, List.setIfInBounds_toArray, List.set_cons_zero, List.set_cons_succ]
        refine wpAnyH_take (i := 3) (oi := ⟨some 45, _, _, _, _, _⟩) (v := ?v21) rfl (by kernel_rfl) (by kernel_rfl) (by kernel_rfl) (fun _ _ _ h => h) (Or.inl ⟨by kernel_rfl, ?h21⟩) hHeld ?_
        case h21 => intro w hSw; (try dsimp only at hSw); go_simp; try with_reducible rfl
        try simp only [Act.put, List.setIfInBounds_toArray, List.set_cons_zero, List.set_cons_succ]
        refine wpAnyH_take (i := 4) (oi := ⟨some 46, _, _, _, _, _⟩) (v := ?v22) rfl (by kernel_rfl) (by kernel_rfl) (by kernel_rfl) (fun _ _ _ h => h) (Or.inl ⟨by kernel_rfl, ?h22⟩) hHeld ?_
        case h22 => intro w hSw; (try dsimp only at hSw); go_simp; try with_reducible rfl
        try simp only [Act.put, List.setIfInBounds_toArray, List.set_cons_zero, List.set_cons_succ]
        refine wpAnyH_take (i := 5) (oi := ⟨some 47, _, _, _, _, _⟩) (v := ?v23) rfl (by kernel_rfl) (by kernel_rfl) (by kernel_rfl) (fun _ _ _ h => h) (Or.inl ⟨by kernel_rfl, ?h23⟩) hHeld ?_
        case h23 => intro w hSw; (try dsimp only at hSw); go_simp; try with_reducible rfl
        try simp only [Act.put, List.setIfInBounds_toArray, List.set_cons_zero, List.set_cons_succ]
        refine wpAnyH_take (i := 6) (oi := ⟨some 48, _, _, _, _, _⟩) (v := ?v24) rfl (by kernel_rfl) (by kernel_rfl) (by kernel_rfl) (fun _ _ _ h => h) (Or.inl ⟨by kernel_rfl, ?h24⟩) hHeld ?_
        case h24 => intro w hSw; (try dsimp only at hSw); go_simp; try with_reducible rfl
        try simp only [Act.put, List.setIfInBounds_toArray, List.set_cons_zero, List.set_cons_succ]
        refine wpAnyH_take (i := 7) (oi := ⟨some 49, _, _, _, _, _⟩) (v := ?v25) rfl (by kernel_rfl) (by kernel_rfl) (by kernel_rfl) (fun _ _ _ h => h) (Or.inl ⟨by kernel_rfl, ?h25⟩) hHeld ?_
        case h25 => intro w hSw; (try dsimp only at hSw); go_simp; try with_reducible rfl
        try simp only [Act.put, List.setIfInBounds_toArray, List.set_cons_zero, List.set_cons_succ]
        refine wpAnyH_take (i := 8) (oi := ⟨some 50, _, _, _, _, _⟩) (v := ?v26) rfl (by kernel_rfl) (by kernel_rfl) (by kernel_rfl) (fun _ _ _ h => h) (Or.inl ⟨by kernel_rfl, ?h26⟩) hHeld ?_
        case h26 => intro w hSw; (try dsimp only at hSw); go_simp; try with_reducible rfl
        try simp only [Act.put, List.setIfInBounds_toArray, List.set_cons_zero, List.set_cons_succ]
        refine wpAnyH_ready (rs := [9, 13]) (by kernel_rfl) (by simp) ?_
        refine AllReadyH.cons (o := ⟨some 51, _, _, _, _, _⟩) rfl (fun K hK => ?_) ?_
        ·
          rw [if_pos (by kernel_rfl)]
          go_simp
          refine (step_yes (F := fun b => Off F w.heap.size b) (hm.same (Sep.drew (fun _ => False) wc)) ((hlp.imp2 (fun b hb hlt => hb)).same (Sep.drew (fun _ => False) wc)) ci ce HOK.out hcnt hk (fun b hb => by have := Sep.size (Sep.drew (fun _ => False) wc); exact ⟨hF b (by omega), by omega, by omega⟩) (fun b hb => hFd b hb.1)).mono ?_
          rintro e wS ⟨vS, rfl, hlpS, hmS, hsS⟩
          obtain ⟨o9, ra9, rn9, rc9, op9, at9, x9, y9, nx9, rfl, hst9⟩ := hlpS.one
          have hS : In lo hi wc wS := (Same.sep (Sep.drew (fun _ => False) wc) _).trans hsS
          refine hK.out _ _ ?_ (fun hHeld => ?_)
          · exact ⟨Sep.cell hS p0 nwp, Sep.cell hS p4 nwp, Sep.cell hS p5 nwp, Sep.cell hS p6 nwp, Sep.cell hS p7 nwp, Sep.cell hS p8 nwp, Sep.cell hS p9 nwp, Sep.cell hS p10 nwp, Sep.cell hS q0 nq, Sep.cell hS q1 nq⟩
          clear hK K
          try simp only [Act.put, List.setIfInBounds_toArray, List.set_cons_zero, List.set_cons_succ]
          refine wpAnyH_take (i := 10) (oi := ⟨some 41, _, _, _, _, _⟩) (v := ?v27) rfl (by kernel_rfl) (by kernel_rfl) (by kernel_rfl) (fun _ _ _ h => h) (Or.inl ⟨by kernel_rfl, ?h27⟩) hHeld ?_
          case h27 => intro w hSw; (try dsimp only at hSw); go_simp; try with_reducible rfl
          try simp only [Act.put, List.setIfInBounds_toArray, List.set_cons_zero, List.set_cons_succ]
          refine wpAnyH_take (i := 11) (oi := ⟨some 52, _, _, _, _, _⟩) (v := ?v28) rfl (by kernel_rfl) (by kernel_rfl) (by kernel_rfl) (fun _ _ _ h => h) (Or.inl ⟨by kernel_rfl, ?h28⟩) hHeld ?_
          case h28 => intro w hSw; (try dsimp only at hSw); go_simp; try with_reducible rfl
          try simp only [Act.put, List.setIfInBounds_toArray, List.set_cons_zero, List.set_cons_succ]
          refine wpAnyH_take (i := 12) (oi := ⟨some 53, _, _, _, _, _⟩) (v := ?v29) rfl (by kernel_rfl) (by kernel_rfl) (by kernel_rfl) (fun _ _ _ h => h) (Or.inl ⟨by kernel_rfl, ?h29⟩) hHeld ?_
          case h29 => intro w hSw; (try dsimp only at hSw); go_simp; try with_reducible rfl
          try simp only [Act.put, List.setIfInBounds_toArray, List.set_cons_zero, List.set_cons_succ]
          refine wpAnyH_ready (rs := [13]) (by kernel_rfl) (by simp) ?_
          refine AllReadyH.cons (o := ⟨some 8, _, _, _, _, _⟩) rfl (fun K hK => ?_) AllReadyH.nil
          rw [if_pos (by kernel_rfl)]
          go_simp
          obtain ⟨wA, hwA⟩ : ∃ x, x = wS.alloc (.cells #[.bool false, .slice none 0 0, .int .i64 0, .int .i64 0, .int .u64 0, .int .u64 0, .nilFunc] 87) := ⟨_, rfl⟩
          rw [← hwA]
          have hA0 : Same wS wA := by rw [hwA]; exact Sep.alloc _ _ _
          have obA : wA.heap[wS.heap.size]? = some (.cells #[.bool false, .slice none 0 0, .int .i64 0, .int .i64 0, .int .u64 0, .int .u64 0, .nilFunc] 87) := by rw [hwA]; exact heap_alloc_new _ _
          obtain ⟨b8, hb8⟩ : ∃ b, b = wS.heap.size := ⟨_, rfl⟩
          have hA : In lo hi wc wA := hS.trans (Same.sep hA0 _)
          have g8 : wc.heap.size ≤ b8 := by have := hS.size; omega
          have g8S : wS.heap.size ≤ b8 := by omega
          rw [← hb8] at obA ⊢
          clear hwA hb8
          refine hK.out _ _ ?_ (fun hHeld => ?_)
          · exact ⟨Sep.cell hA p0 nwp, Sep.cell hA p4 nwp, Sep.cell hA p5 nwp, Sep.cell hA p6 nwp, Sep.cell hA p7 nwp, Sep.cell hA p8 nwp, Sep.cell hA p9 nwp, Sep.cell hA p10 nwp, Sep.cell hA q0 nq, Sep.cell hA q1 nq⟩
          clear hK K
          try simp only [Act.put, List.setIfInBounds_toArray, List.set_cons_zero, List.set_cons_succ]
          refine wpAnyH_ready (rs := [14]) (by kernel_rfl) (by simp) ?_
          refine AllReadyH.cons (o := ⟨none, _, _, _, _, _⟩) rfl (fun K hK => ?_) AllReadyH.nil
          obtain ⟨t0, t1, t2, t3, t4, t5, t6, tf⟩ := cells7 obA
          rw [if_pos (by kernel_rfl)]
          go_simp
          obtain ⟨wT, hwT⟩ : ∃ x, x = (((((((wA.setCell ⟨b8, 0, none⟩ (.bool o9)).setCell ⟨b8, 1, none⟩ (.slice ra9 rn9 rc9)).setCell ⟨b8, 2, none⟩ (.int .i64 op9)).setCell ⟨b8, 3, none⟩ (.int .i64 at9)).setCell ⟨b8, 4, none⟩ (.int .u64 x9)).setCell ⟨b8, 5, none⟩ (.int .u64 y9)).setCell ⟨b8, 6, none⟩ (nx9)) := ⟨_, rfl⟩
          rw [← hwT]
          have h7 : Sep (fun k => k = b8) wA wT := by rw [hwT]; exact sep7 wA b8 (.bool o9) (.slice ra9 rn9 rc9) (.int .i64 op9) (.int .i64 at9) (.int .u64 x9) (.int .u64 y9) (nx9)
          have obT : wT.heap[b8]? = some (.cells #[.bool o9, .slice ra9 rn9 rc9, .int .i64 op9, .int .i64 at9, .int .u64 x9, .int .u64 y9, nx9] 87) := by rw [hwT]; exact heap7 obA rfl
          have hw8 : ¬ wp = b8 := by omega
          have hq8 : ¬ w.heap.size = b8 := by omega
          clear hwT
          refine hK.out _ _ ?_ (fun hHeld => ?_)
          · exact ⟨h7.cell (Sep.cell hA p0 nwp) hw8, h7.cell (Sep.cell hA p4 nwp) hw8, h7.cell (Sep.cell hA p5 nwp) hw8, h7.cell (Sep.cell hA p6 nwp) hw8, h7.cell (Sep.cell hA p7 nwp) hw8, h7.cell (Sep.cell hA p8 nwp) hw8, h7.cell (Sep.cell hA p9 nwp) hw8, h7.cell (Sep.cell hA p10 nwp) hw8, h7.cell (Sep.cell hA q0 nq) hq8, h7.cell (Sep.cell hA q1 nq) hq8⟩
          clear hK K
          try simp only [Act.put, List.setIfInBounds_toArray, List.set_cons_zero, List.set_cons_succ]
          refine wpAnyH_take (i := 15) (oi := ⟨some 9, _, _, _, _, _⟩) (v := ?v30) rfl (by kernel_rfl) (by kernel_rfl) (by kernel_rfl) (fun _ _ _ h => h) (Or.inl ⟨by kernel_rfl, ?h30⟩) hHeld ?_
          case h30 => intro w hSw; (try dsimp only at hSw); go_simp; try with_reducible rfl
          try simp only [Act.put, List.setIfInBounds_toArray, List.set_cons_zero, List.set_cons_succ]
          refine wpAnyH_done (by kernel_rfl) ?_ _
          clear hHeld p0 p4 p5 p6 p7 p8 p9 p10 q0 q1 t0 t1 t2 t3 t4 t5 t6 tf
          go_wp2
          go_meet
          have hT : In lo hi wc wT := sep_new hA g8 h7
          exact Stept.yes HOK.out (by omega) obT (LP.imp (((hlpS.imp2 (G := fun b => Off F w.heap.size b ∧ b ≠ b8) (fun b hb hlt => ⟨hb, by omega⟩)).same hA0).stay h7 (fun b hb _ => hb.2)) (fun b hb => hb.1)) ((hmS.same hA0).stay h7 (fun b h1 h2 h3 => by have := hm.le; omega)) (HR.out.keep hT hFd hwp hbp hcc trivial hmle)
        refine AllReadyH.cons (o := ⟨some 8, _, _, _, _, _⟩) rfl (fun K hK => ?_) AllReadyH.nil
        ·
          rw [if_pos (by kernel_rfl)]
          go_simp
          obtain ⟨wA, hwA⟩ : ∃ x, x = (wc.alloc (.cells #[.bool false, .slice none 0 0, .int .i64 0, .int .i64 0, .int .u64 0, .int .u64 0, .nilFunc] 87)).drew := ⟨_, rfl⟩
          rw [← hwA]
          have hA : Same wc wA := by rw [hwA]; exact Sep.trans (Sep.alloc _ wc _) (Sep.drew _ _)
          have obA : wA.heap[wc.heap.size]? = some (.cells #[.bool false, .slice none 0 0, .int .i64 0, .int .i64 0, .int .u64 0, .int .u64 0, .nilFunc] 87) := by rw [hwA]; exact heap_alloc_new wc _
          obtain ⟨b8, hb8⟩ : ∃ b, b = wc.heap.size := ⟨_, rfl⟩
          have g8 : wc.heap.size ≤ b8 := by omega
          rw [← hb8] at obA ⊢
          clear hwA hb8
          refine hK.out _ _ ?_ (fun hHeld => ?_)
          · exact ⟨Same.cell hA p0, Same.cell hA p4, Same.cell hA p5, Same.cell hA p6, Same.cell hA p7, Same.cell hA p8, Same.cell hA p9, Same.cell hA p10, Same.cell hA q0, Same.cell hA q1⟩
          clear hK K
          try simp only [Act.put, List.setIfInBounds_toArray, List.set_cons_zero, List.set_cons_succ]
          refine wpAnyH_ready (rs := [9]) (by kernel_rfl) (by simp) ?_
          refine AllReadyH.cons (o := ⟨some 51, _, _, _, _, _⟩) rfl (fun K hK => ?_) AllReadyH.nil
          rw [if_pos (by kernel_rfl)]
          go_simp
          refine (step_yes (F := fun b => Off F w.heap.size b ∧ b ≠ b8) (hm.same (hA)) ((hlp.imp2 (fun b hb hlt => ⟨hb, by omega⟩)).same (hA)) ci ce HOK.out hcnt hk (fun b hb => by have := Sep.size (hA); have := lt_of_block obA; exact ⟨⟨hF b (by omega), by omega, by omega⟩, by omega⟩) (fun b hb => hFd b hb.1.1)).mono ?_
          rintro e wS ⟨vS, rfl, hlpS, hmS, hsS⟩
          obtain ⟨o9, ra9, rn9, rc9, op9, at9, x9, y9, nx9, rfl, hst9⟩ := hlpS.one
          have hS : In lo hi wc wS := (Same.sep (hA) _).trans hsS
          have n8 : ¬ (lo ≤ b8 ∧ b8 < hi) := by have := hm.le; omega
          have obS := Sep.obj (hsS) obA n8
          refine hK.out _ _ ?_ (fun hHeld => ?_)
          · exact ⟨Sep.cell hS p0 nwp, Sep.cell hS p4 nwp, Sep.cell hS p5 nwp, Sep.cell hS p6 nwp, Sep.cell hS p7 nwp, Sep.cell hS p8 nwp, Sep.cell hS p9 nwp, Sep.cell hS p10 nwp, Sep.cell hS q0 nq, Sep.cell hS q1 nq⟩
          clear hK K
          try simp only [Act.put, List.setIfInBounds_toArray, List.set_cons_zero, List.set_cons_succ]
          refine wpAnyH_take (i := 10) (oi := ⟨some 41, _, _, _, _, _⟩) (v := ?v31) rfl (by kernel_rfl) (by kernel_rfl) (by kernel_rfl) (fun _ _ _ h => h) (Or.inl ⟨by kernel_rfl, ?h31⟩) hHeld ?_
          case h31 => intro w hSw; (try dsimp only at hSw); go_simp; try with_reducible rfl
          try simp only [Act.put, List.setIfInBounds_toArray, List.set_cons_zero, List.set_cons_succ]
          refine wpAnyH_take (i := 11) (oi := ⟨some 52, _, _, _, _, _⟩) (v := ?v32) rfl (by kernel_rfl) (by kernel_rfl) (by kernel_rfl) (fun _ _ _ h => h) (Or.inl ⟨by kernel_rfl, ?h32⟩) hHeld ?_
          case h32 => intro w hSw; (try dsimp only at hSw); go_simp; try with_reducible rfl
          try simp only [Act.put, List.setIfInBounds_toArray, List.set_cons_zero, List.set_cons_succ]
          refine wpAnyH_take (i := 12) (oi := ⟨some 53, _, _, _, _, _⟩) (v := ?v33) rfl (by kernel_rfl) (by kernel_rfl) (by kernel_rfl) (fun _ _ _ h => h) (Or.inl ⟨by kernel_rfl, ?h33⟩) hHeld ?_
          case h33 => intro w hSw; (try dsimp only at hSw); go_simp; try with_reducible rfl
          try simp only [Act.put, List.setIfInBounds_toArray, List.set_cons_zero, List.set_cons_succ]
          refine wpAnyH_ready (rs := [14]) (by kernel_rfl) (by simp) ?_
          refine AllReadyH.cons (o := ⟨none, _, _, _, _, _⟩) rfl (fun K hK => ?_) AllReadyH.nil
          obtain ⟨t0, t1, t2, t3, t4, t5, t6, tf⟩ := cells7 obS
          rw [if_pos (by kernel_rfl)]
          go_simp
          obtain ⟨wT, hwT⟩ : ∃ x, x = (((((((wS.setCell ⟨b8, 0, none⟩ (.bool o9)).setCell ⟨b8, 1, none⟩ (.slice ra9 rn9 rc9)).setCell ⟨b8, 2, none⟩ (.int .i64 op9)).setCell ⟨b8, 3, none⟩ (.int .i64 at9)).setCell ⟨b8, 4, none⟩ (.int .u64 x9)).setCell ⟨b8, 5, none⟩ (.int .u64 y9)).setCell ⟨b8, 6, none⟩ (nx9)) := ⟨_, rfl⟩
          rw [← hwT]
          have h7 : Sep (fun k => k = b8) wS wT := by rw [hwT]; exact sep7 wS b8 (.bool o9) (.slice ra9 rn9 rc9) (.int .i64 op9) (.int .i64 at9) (.int .u64 x9) (.int .u64 y9) (nx9)
          have obT : wT.heap[b8]? = some (.cells #[.bool o9, .slice ra9 rn9 rc9, .int .i64 op9, .int .i64 at9, .int .u64 x9, .int .u64 y9, nx9] 87) := by rw [hwT]; exact heap7 obS rfl
          have hw8 : ¬ wp = b8 := by omega
          have hq8 : ¬ w.heap.size = b8 := by omega
          clear hwT
          refine hK.out _ _ ?_ (fun hHeld => ?_)
          · exact ⟨h7.cell (Sep.cell hS p0 nwp) hw8, h7.cell (Sep.cell hS p4 nwp) hw8, h7.cell (Sep.cell hS p5 nwp) hw8, h7.cell (Sep.cell hS p6 nwp) hw8, h7.cell (Sep.cell hS p7 nwp) hw8, h7.cell (Sep.cell hS p8 nwp) hw8, h7.cell (Sep.cell hS p9 nwp) hw8, h7.cell (Sep.cell hS p10 nwp) hw8, h7.cell (Sep.cell hS q0 nq) hq8, h7.cell (Sep.cell hS q1 nq) hq8⟩
          clear hK K
          try simp only [Act.put, List.setIfInBounds_toArray, List.set_cons_zero, List.set_cons_succ]
          refine wpAnyH_take (i := 15) (oi := ⟨some 9, _, _, _, _, _⟩) (v := ?v34) rfl (by kernel_rfl) (by kernel_rfl) (by kernel_rfl) (fun _ _ _ h => h) (Or.inl ⟨by kernel_rfl, ?h34⟩) hHeld ?_
          case h34 => intro w hSw; (try dsimp only at hSw); go_simp; try with_reducible rfl
          try simp only [Act.put, List.setIfInBounds_toArray, List.set_cons_zero, List.set_cons_succ]
          refine wpAnyH_done (by kernel_rfl) ?_ _
          clear hHeld p0 p4 p5 p6 p7 p8 p9 p10 q0 q1 t0 t1 t2 t3 t4 t5 t6 tf
          go_wp2
          go_meet
          have hT : In lo hi wc wT := sep_new hS g8 h7
          exact Stept.yes HOK.out (by omega) obT (LP.imp (hlpS.stay h7 (fun b hb _ => hb.2)) (fun b hb => hb.1)) (hmS.stay h7 (fun b h1 h2 h3 => by have := hm.le; omega)) (HR.out.keep hT hFd hwp hbp hcc trivial hmle)
    case rest =>
      clear hlp hm s0 hge p0 p4 p5 p6 p7 p8 p9 p10 q0 q1
      obtain ⟨⟨vs', bz', x0, x1, x2, x3, x4, x5, x6, hA, hB, hD, s0, hge, hr⟩, b8, rfl, hcase⟩ := hcut
      have m1 : ¬ bp = w.heap.size + 1 := by have := HLT.out; omega
      have nwb : ¬ bp = wp := HLT.out.2.2.2.1.symm
      have nwc : ¬ c = wp := HLT.out.2.2.2.2.1.symm
      have KA := Lib.hid hA
      have KB := Lib.hid hB
      have KD := Lib.hid hD
      have KR := Lib.hid hr
      obtain ⟨p0, p1, p2, p3, p4, p5, p6, p7, p8, p9, p10, pf⟩ := cells11 hA
      obtain ⟨q0, q1, qf⟩ := cells2' hr
      have nw1 : ¬ w.heap.size + 1 = wp := n0.symm
      clear hA hB hD hr
      rcases hcase with ⟨hok, rfl, hm⟩ | ⟨hok, rfl, hb8, hm, y0, y1, y2, y3, y4, y5, y6, hy, hlp⟩
      · have HOK := Lib.hid hok
        have KM := Lib.hid hm
        clear hok hm
        go_wp2
        refine bodyPost_ret (v := evt 3 (.slice none 0 0)) (by simp [results, Try.results54, go_sem, evt, q0, q1, qf, n0, nw1]) rfl ?_
        obtain ⟨wT, hwT⟩ : ∃ x, x = wc.setCell ⟨wp, 3, none⟩ (.bool false) := ⟨_, rfl⟩
        have s3 : Sep (fun k => k = wp) wc wT := by rw [hwT]; exact sep1 (S := fun q => q = wp) wc wp 3 (.bool false) rfl
        have h3 : wT.heap[wp]? = some (wcells mp bp false x0 x1 x2 x3 x4 x5 x6) := by rw [hwT]; exact heap3at (x := .bool false) KA.out
        have s7 := sep7at wT wp (.bool false) (.slice none 0 0) (.int .i64 0) (.int .i64 0) (.int .u64 0) (.int .u64 0) .nilFunc
        have h7 := heap7at (x0 := .bool false) (x1 := .slice none 0 0) (x2 := .int .i64 0) (x3 := .int .i64 0) (x4 := .int .u64 0) (x5 := .int .u64 0) (x6 := .nilFunc) h3
        rw [← hwT]
        have sw := s3.trans s7
        obtain ⟨wU, hwU⟩ : ∃ x, x = ((((((wT.setCell ⟨wp, 4, none⟩ (.bool false)).setCell ⟨wp, 5, none⟩ (.slice none 0 0)).setCell ⟨wp, 6, none⟩ (.int .i64 0)).setCell ⟨wp, 7, none⟩ (.int .i64 0)).setCell ⟨wp, 8, none⟩ (.int .u64 0)).setCell ⟨wp, 9, none⟩ (.int .u64 0)).setCell ⟨wp, 10, none⟩ .nilFunc := ⟨_, rfl⟩
        rw [← hwU] at h7 sw ⊢
        have h2 := sep2 wU (w.heap.size + 1) (.int .i64 3) (.slice none 0 0)
        refine ⟨sep_new (s0.trans (sw.mono fun _ _ k => .inr (.inl k))) (Nat.le_add_right _ 1) h2, .inl ⟨HOK.out, rfl, (KM.out.stay sw (fun b h1 h2 h3 => hwp (h3 ▸ ⟨h1, h2⟩))).stay h2 (fun b h1 h2 h3 => by omega), ?_⟩⟩
        exact ⟨vs', _, _, _, _, _, _, _, h2.obj h7 n0, (KB.out.stay sw nwb nwc).stay h2 m1 n1, Fits.imp (fun b hb _ => hb.1) (Fits.stay h2 (fun b hb _ => hb.2.2) (Fits.stay sw (fun b hb _ => (hFw b hb.1).1) KD.out)), rfl, rfl, rfl, rfl, rfl, rfl, rfl⟩
      · have HOK := Lib.hid hok
        have KM := Lib.hid hm
        have KL := Lib.hid hlp
        obtain ⟨t0, t1, t2, t3, t4, t5, t6, tf⟩ := cells7 hy
        have nb8 : ¬ b8 = wp := by omega
        have nb8' : ¬ wp = b8 := by omega
        rcases hlp.form with ⟨rfl, ra, rc, hform⟩ | ⟨A', l', lb', tb', rfl, hform⟩
        · obtain ⟨rfl, rfl, rfl, rfl, rfl, rfl, rfl⟩ : y0 = _ ∧ y1 = _ ∧ y2 = _ ∧ y3 = _ ∧ y4 = _ ∧ y5 = _ ∧ y6 = _ := by simpa using hform
          obtain ⟨rn, hrn2⟩ : ∃ rn, rn = told.length + 1 := ⟨_, rfl⟩
          rw [← hrn2] at t1 KL
          have HRN2 := Lib.hid hrn2
          clear hok hm hlp hform hy hrn2
          go_wp2_with fail
          obtain ⟨wT, hwT⟩ : ∃ x, x = ((((((wc.setCell ⟨wp, 4, none⟩ (.bool true)).setCell ⟨wp, 5, none⟩ (.slice ra rn rc)).setCell ⟨wp, 6, none⟩ (.int .i64 0)).setCell ⟨wp, 7, none⟩ (.int .i64 0)).setCell ⟨wp, 8, none⟩ (.int .u64 0)).setCell ⟨wp, 9, none⟩ (.int .u64 0)).setCell ⟨wp, 10, none⟩ .nilFunc := ⟨_, rfl⟩
          rw [← hwT]
          have s7 : Sep (fun k => k = wp) wc wT := by rw [hwT]; exact sep7at wc wp (.bool true) (.slice ra rn rc) (.int .i64 0) (.int .i64 0) (.int .u64 0) (.int .u64 0) .nilFunc
          have AT : Hid (wT.heap[wp]? = some (wcells mp bp bz' (.bool true) (.slice ra rn rc) (.int .i64 0) (.int .i64 0) (.int .u64 0) (.int .u64 0) .nilFunc)) := by rw [hwT]; exact heap7at KA.out
          clear hwT
          refine (end_over ra rn rc 1 AT.out).mono ?_
          rintro e w4 ⟨rfl, h4, hs4⟩
          have s24 : Sep (fun k => k = wp) wc w4 := s7.trans hs4
          have A4 := Lib.hid h4
          have H4 := s24.obj KR.out nw1
          obtain ⟨k0, k1, kf⟩ := cells2' H4
          clear h4 hs4 s7 AT t0 t1 t2 t3 t4 t5 t6 tf p0 p1 p2 p3 p4 p5 p6 p7 p8 p9 p10 pf q0 q1 qf H4
          unfold evt
          go_wp2
          refine bodyPost_ret (v := evt 2 (.slice ra rn rc)) (by simp [results, Try.results54, go_sem, evt, k0, k1, kf]) rfl ?_
          have h2 := sep2 w4 (w.heap.size + 1) (.int .i64 2) (.slice ra rn rc)
          obtain ⟨rv, hrve, hrv⟩ := KL.out
          obtain rfl : Value.slice ra rn rc = rv := by simpa using hrve
          refine ⟨sep_new (s0.trans (s24.mono fun _ _ k => .inr (.inl k))) (Nat.le_add_right _ 1) h2, .inr ⟨HOK.out, (KM.out.stay s24 (fun b h1 h2 h3 => hwp (h3 ▸ ⟨h1, h2⟩))).stay h2 (fun b h1 h2 h3 => by omega), .inl ⟨rfl, ra, rc, by rw [HRN2.out], ?_, ?_⟩⟩⟩
          · rw [← HRN2.out]
            exact Slc.imp (Slc.stay (Slc.stay hrv s24 (fun b hb _ => (hFw b hb.1).1)) h2 (fun b hb _ => hb.2.2)) (fun b hb _ => hb.1)
          · exact ⟨vs', _, _, _, _, _, _, _, h2.obj A4.out n0, (KB.out.stay s24 nwb nwc).stay h2 m1 n1, Fits.imp (fun b hb _ => hb.1) (Fits.stay h2 (fun b hb _ => hb.2.2) (Fits.stay s24 (fun b hb _ => (hFw b hb.1).1) KD.out)), rfl, rfl, rfl, rfl, rfl, rfl, rfl⟩
        · obtain ⟨rfl, rfl, rfl, rfl, rfl, rfl, rfl⟩ : y0 = _ ∧ y1 = _ ∧ y2 = _ ∧ y3 = _ ∧ y4 = _ ∧ y5 = _ ∧ y6 = _ := by simpa using hform
          clear hok hm hlp hform hy
          go_wp2_with fail
          obtain ⟨wT, hwT⟩ : ∃ x, x = ((((((wc.setCell ⟨wp, 4, none⟩ (.bool false)).setCell ⟨wp, 5, none⟩ (.slice none 0 0)).setCell ⟨wp, 6, none⟩ (.int .i64 A'.op)).setCell ⟨wp, 7, none⟩ (.int .i64 A'.at_)).setCell ⟨wp, 8, none⟩ (.int .u64 A'.x)).setCell ⟨wp, 9, none⟩ (.int .u64 A'.y)).setCell ⟨wp, 10, none⟩ (.func (.func 93) #[] #[.pointer (some ⟨lb', 0, none⟩), .pointer (some ⟨tb', 0, none⟩)]) := ⟨_, rfl⟩
          rw [← hwT]
          have s7 : Sep (fun k => k = wp) wc wT := by rw [hwT]; exact sep7at wc wp (.bool false) (.slice none 0 0) (.int .i64 A'.op) (.int .i64 A'.at_) (.int .u64 A'.x) (.int .u64 A'.y) (.func (.func 93) #[] #[.pointer (some ⟨lb', 0, none⟩), .pointer (some ⟨tb', 0, none⟩)])
          have AT : Hid (wT.heap[wp]? = some (wcells mp bp bz' (.bool false) (.slice none 0 0) (.int .i64 A'.op) (.int .i64 A'.at_) (.int .u64 A'.x) (.int .u64 A'.y) (.func (.func 93) #[] #[.pointer (some ⟨lb', 0, none⟩), .pointer (some ⟨tb', 0, none⟩)]))) := by rw [hwT]; exact heap7at KA.out
          clear hwT
          refine (end_left A'.op A'.at_ A'.x A'.y 1 _ AT.out).mono ?_
          rintro e w4 ⟨rfl, h4, hs4⟩
          have s24 : Sep (fun k => k = wp) wc w4 := s7.trans hs4
          have A4 := Lib.hid h4
          have H4 := s24.obj KR.out nw1
          obtain ⟨k0, k1, kf⟩ := cells2' H4
          clear h4 hs4 s7 AT t0 t1 t2 t3 t4 t5 t6 tf p0 p1 p2 p3 p4 p5 p6 p7 p8 p9 p10 pf q0 q1 qf H4
          unfold evt
          go_wp2
          refine bodyPost_ret (v := evt 1 (.slice none 0 0)) (by simp [results, Try.results54, go_sem, evt, k0, k1, kf]) rfl ?_
          have h2 := sep2 w4 (w.heap.size + 1) (.int .i64 1) (.slice none 0 0)
          refine ⟨sep_new (s0.trans (s24.mono fun _ _ k => .inr (.inl k))) (Nat.le_add_right _ 1) h2, .inr ⟨HOK.out, (KM.out.stay s24 (fun b h1 h2 h3 => hwp (h3 ▸ ⟨h1, h2⟩))).stay h2 (fun b h1 h2 h3 => by omega), .inr ⟨by simp, rfl, ?_⟩⟩⟩
          exact ⟨vs', _, _, _, _, _, _, _, h2.obj A4.out n0, (KB.out.stay s24 nwb nwc).stay h2 m1 n1, Fits.imp (fun b hb _ => hb.1) (Fits.stay h2 (fun b hb _ => hb.2.2) (Fits.stay s24 (fun b hb _ => (hFw b hb.1).1) KD.out)), by simp, ((KL.out.stay s24 (fun b hb _ => (hFw b hb.1).1)).stay h2 (fun b hb _ => hb.2.2)).imp (fun b hb => hb.1)⟩
end
end Go.Proofs.Ytiljledgoflogaa

