/- The reference's worker's Pick where something is to be done. -/
import Derived.Test.YtiljledgoflogaaPc
namespace Go.Proofs.Ytiljledgoflogaa
open Go.RowKit
set_option linter.unusedSimpArgs false
set_option linter.unusedVariables false

/-- What lies in blocks of F, and in none of Pick's own. -/
abbrev Out6 (F : Nat → Prop) (n b : Nat) : Prop := F b ∧ (b < n ∨ n + 6 ≤ b)

/-- Pick behind its first if: the worker is busy. -/
def RMid (F : Nat → Prop) (size : Nat) (m0 m1 m2 ci ce : Value) (B : List (List Acc)) (l0 : List Acc) (told : List Int) (w wx : World) : Prop :=
  ∃ ba bc la lc ta tc vs, wx.heap[w.heap.size]? = some (.cells #[.int .i64 size, .slice ba B.length bc, .bool true, .slice la l0.length lc, .slice ta told.length tc] 118) ∧ Slc 1 (Out6 F w.heap.size) wx (.slice ba B.length bc) B.length vs ∧ Fits (Out6 F w.heap.size) wx vs B ∧
    ArgF (Out6 F w.heap.size) wx (.slice la l0.length lc) l0 ∧ SlcU (Out6 F w.heap.size) wx (.slice ta told.length tc) told ∧ Same w wx ∧ w.heap.size + 6 ≤ wx.heap.size ∧
    wx.heap[w.heap.size + 1]? = some (.cells #[m0, m1, m2] 51) ∧ wx.heap[w.heap.size + 2]? = some (.cells #[ci, ce] 33) ∧
    wx.heap[w.heap.size + 3]? = some (.cells #[.int .i64 0, .slice none 0 0, .bool false, .slice none 0 0, .slice none 0 0] 118) ∧ wx.heap[w.heap.size + 4]? = some (.cells #[.slice none 0 0, .slice none 0 0, .int .i64 0] 51) ∧ wx.heap[w.heap.size + 5]? = some (.cells #[.int .i64 0, .slice none 0 0] 123)

/-- What Pick answers where something is to be done. -/
def RPicked (F : Nat → Prop) (size : Nat) (L : List Reg) (cnt : Nat) (ci ce : Int) (B : List (List Acc)) (l0 : List Acc) (told : List Int) (w : World) (e : Ending) (w' : World) : Prop :=
  ∃ v' mv' ev, e = .returned (.tuple #[v', mv', ev]) ∧ Same w w' ∧
    ((l0 = [] ∧ ∃ ra rc, ev = evt 2 (.slice ra told.length rc) ∧ SlcU F w' (.slice ra told.length rc) told ∧ RW F w' v' size ⟨B, none⟩ ∧ RM F w' mv' L cnt) ∨
     ∃ A l, l0 = A :: l ∧ ((okB L ci ce A.op A.at_ = false ∧ ev = evt 3 (.slice none 0 0) ∧ RW F w' v' size ⟨B, none⟩ ∧ RM F w' mv' L cnt) ∨
      (okB L ci ce A.op A.at_ = true ∧ RM F w' mv' (doL L ci.toNat A.at_.toNat A.op A.x A.y) (cnt + 1) ∧
        ((l = [] ∧ ∃ ra rc, ev = evt 2 (.slice ra (told.length + 1) rc) ∧ SlcU F w' (.slice ra (told.length + 1) rc) (told ++ [peekOf L ci A.at_]) ∧ RW F w' v' size ⟨B, none⟩) ∨
         (l ≠ [] ∧ ev = evt 1 (.slice none 0 0) ∧ RW F w' v' size ⟨B, some (l, told ++ [peekOf L ci A.at_])⟩)))))
theorem rw_idle {F S : Nat → Prop} {w wx wz : World} {size bc ln lc tn tc : Nat} {ba la ta : Option Addr} {vs : List Value} {B : List (List Acc)} (hB : Slc 1 (Out6 F w.heap.size) wx (.slice ba B.length bc) B.length vs) (hf : Fits (Out6 F w.heap.size) wx vs B) (hs : Sep S wx wz) (hS : ∀ b, S b → w.heap.size ≤ b ∧ b < w.heap.size + 6) :
    RW F wz (.agg #[.int .i64 size, .slice ba B.length bc, .bool false, .slice la ln lc, .slice ta tn tc]) size ⟨B, none⟩ :=
  ⟨ba, bc, la, ln, lc, ta, tn, tc, vs, rfl, Slc.imp (Slc.stay hB hs (fun b hb _ h => by have := hS b h; have := hb.2; omega)) (fun b hb _ => hb.1), Fits.imp (fun b hb _ => hb.1) (Fits.stay hs (fun b hb _ h => by have := hS b h; have := hb.2; omega) hf), fun l t e => by cases e⟩

theorem rw_busy {F S : Nat → Prop} {w wx wz : World} {size bc ln lc tn tc : Nat} {ba la ta : Option Addr} {vs : List Value} {B : List (List Acc)} {l : List Acc} {t : List Int} (hB : Slc 1 (Out6 F w.heap.size) wx (.slice ba B.length bc) B.length vs) (hf : Fits (Out6 F w.heap.size) wx vs B) (hs : Sep S wx wz) (hS : ∀ b, S b → w.heap.size ≤ b ∧ b < w.heap.size + 6)
    (hl : ArgF F wz (.slice la ln lc) l) (ht : SlcU F wz (.slice ta tn tc) t) : RW F wz (.agg #[.int .i64 size, .slice ba B.length bc, .bool true, .slice la ln lc, .slice ta tn tc]) size ⟨B, some (l, t)⟩ :=
  ⟨ba, bc, la, ln, lc, ta, tn, tc, vs, rfl, Slc.imp (Slc.stay hB hs (fun b hb _ h => by have := hS b h; have := hb.2; omega)) (fun b hb _ => hb.1), Fits.imp (fun b hb _ => hb.1) (Fits.stay hs (fun b hb _ h => by have := hS b h; have := hb.2; omega) hf), fun l' t' e => by cases e; exact ⟨hl, ht⟩⟩

theorem tail_argF {F : Nat → Prop} {w : World} {A : Acc} {l : List Acc} {lb lf lc : Nat} (h : ArgF F w (.slice (some ⟨lb, lf, none⟩) (A :: l).length lc) (A :: l)) (h1 : ¬ lc = 1) : ArgF F w (.slice (some ⟨lb, lf + 4, none⟩) l.length (lc - 1)) l := by
  rcases h with hsl | ⟨h0, _⟩
  rotate_left
  · cases h0
  obtain ⟨hcl, ⟨e, h0⟩ | ⟨b, f, c, e, hb, hlt, hlc, hm, hc⟩⟩ := hsl
  · simp at h0
  obtain ⟨⟨rfl, rfl⟩, rfl⟩ : (lb = b ∧ lf = f) ∧ lc = c := by simpa using e
  have := tail_slc hb hlt hlc hm hc
  rw [if_neg (fun e => h1 e.symm)] at this
  exact .inl this
theorem slcu_add {F : Nat → Prop} {w : World} {a : Option Addr} {n c : Nat} {told : List Int} {was p : Int} (h : Slc 1 F w (.slice a (n + 1) c) (n + 1) (wds told ++ [.int .u64 was])) (hn : n = told.length) (hw : was = p) : SlcU F w (.slice a (told.length + 1) c) (told ++ [p]) := by
  subst hn hw
  unfold SlcU
  simpa [wds] using h

/-- Pick behind its last cut. -/
def RTail (F : Nat → Prop) (n : Nat) (size : Nat) (ba : Option Addr) (bn bc : Nat) (v2 : Value) (l : List Acc) (w5 : World) (wx : World) : Prop :=
  ∃ (la : Option Addr) (lc : Nat), wx.heap[n]? = some (.cells #[.int .i64 size, .slice ba bn bc, .bool true, .slice la l.length lc, v2] 118) ∧ Sep (fun k => k = n) w5 wx ∧ ArgF F wx (.slice la l.length lc) l

/-- Pick behind the reference's Do. -/
def RDone (F : Nat → Prop) (L : List Reg) (cnt : Nat) (ci ce : Int) (A : Acc) (wc : World) (s9 s10 s11 : Value) (wx : World) : Prop :=
  ∃ (b9 : Nat) (was : Int) (okb : Bool), s9 = .pointer (some ⟨b9, 0, none⟩) ∧ s10 = .int .u64 was ∧ s11 = .bool okb ∧ Same wc wx ∧
    ((okB L ci ce A.op A.at_ = false ∧ okb = false) ∨
     (okB L ci ce A.op A.at_ = true ∧ okb = true ∧ was = peekOf L ci A.at_ ∧ wc.heap.size ≤ b9 ∧ ∃ (wa : Option Addr) (mn mc : Nat) (ea : Option Addr) (ec cq : Nat), cq = cnt + 1 ∧ wx.heap[b9]? = some (.cells #[.slice wa mn mc, .slice ea mn ec, .int .i64 (cq : Int)] 51) ∧ RM F wx (.agg #[.slice wa mn mc, .slice ea mn ec, .int .i64 (cq : Int)]) (doL L ci.toNat A.at_.toNat A.op A.x A.y) cq))

/-- Words, behind a row of the call's own. -/
theorem app_words {F : Nat → Prop} {w : World} {ops : Array Oper} {rest : List Oper} {o : Oper} {a : Act} {Q : Exit → Act → World → Prop} (hgd : o.guard = none) (s x : Operand) (ho : o.op = .call { callee := .builtin .append, args := #[s, x], argTypes := #[22, 22] })
    (base : Nat) (v : Value) (n : Nat) (xs : List Value) (hs : a.eval s = v) (hown : w.ownsRow base 23 1 v n xs) (src : Value) (m : Nat) (vs : List Value) (hx : a.eval x = src) (hA : Slc 1 F w src m vs) (h1 : ∀ u ∈ vs, u.oneCell' = true) (hn : n + m ≤ 100000) (hbase : base ≤ w.heap.size)
    (h : ∀ v' w', w'.ownsRow base 23 1 v' (n + m) (xs ++ vs) → w.grownBy w' v.ownBlock → wpList Try.prog ops Q rest (a.put o.dst v') w') : wpList Try.prog ops Q (o :: rest) a w := by
  obtain ⟨i0, hi, hz0, hz1, hz2⟩ := info_parts info23
  obtain ⟨hcl, ⟨rfl, h0⟩ | ⟨b, off, cap, rfl, hBb, hlt, hlc, hm, hc⟩⟩ := hA
  · subst h0
    obtain rfl : vs = [] := List.eq_nil_of_length_eq_zero (by simpa using hcl)
    refine wpList_append_own_none hgd s x 22 ho base 23 i0 1 Try.underlying22 hi v n xs hs hown hx (h v w ?_ ⟨rfl, rfl, rfl, Nat.le_refl _, fun _ _ _ => rfl⟩)
    simpa using hown
  · exact wpList_append_own w hgd s x 22 ho base 23 i0 (.int .u64 0) 1 8 Try.underlying22 hi hz0 hz1 hz2 rfl (by decide) v n xs hs hown ⟨b, off, none⟩ m cap vs hx hcl
      (Slc.news (w := w) (w' := w) (fun _ _ => rfl) hlt hc) h1 (by unfold maxLen; omega) (by omega) hbase fun v' w' h2 h3 _ => h v' w' h2 h3

theorem rmid_tail {F S : Nat → Prop} {W wS : World} {bn n bb bo bc bo' bc' : Nat} {v : Value} {vs : List Value} (hbn : bn = n + 1) (hc : ∀ j u, (v :: vs)[j]? = some u → W.cell? ⟨bb, bo + j, none⟩ = some u) (hB : F bb) (hlt : bb < W.heap.size) (hm : bc ≤ maxLen) (hle : bn ≤ bc)
    (sS : Sep S W wS) (hoff : ∀ b, F b → b < W.heap.size → ¬ S b) (hx : (bo' = bo ∧ bc = 1 ∧ bc' = 0) ∨ (bo' = bo + 1 ∧ bc' = bc - 1)) (hl : vs.length = n := by assumption) : Slc 1 F wS (.slice (some ⟨bb, bo', none⟩) n bc') n vs := by
  refine ⟨by omega, .inr ⟨bb, bo', bc', rfl, hB, Nat.lt_of_lt_of_le hlt sS.size, by omega, by omega, fun j u hj => ?_⟩⟩
  have hjn : j < vs.length := (List.getElem?_eq_some_iff.1 hj).1
  rcases hx with ⟨_, h1, _⟩ | ⟨rfl, rfl⟩
  · omega
  · refine sS.cell ?_ (hoff bb hB hlt)
    rw [show bo + 1 + j = bo + (j + 1) by omega]
    exact hc (j + 1) u (by simpa using hj)

section
variable {F : Nat → Prop} {w : World} {size cnt : Nat} {L : List Reg}
set_option maxRecDepth 100000 in
set_option maxHeartbeats 8000000 in
theorem rpick_go {v mv : Value} {J : Job} {B : List (List Acc)} {l0 : List Acc} {told : List Int} (h : RW F w v size J) (hJ : J = ⟨B, some (l0, told)⟩ ∨ (J = ⟨l0 :: B, none⟩ ∧ told = [])) (hm : RM F w mv L cnt) (ci ce : Int) (hF : ∀ b, w.heap.size ≤ b → F b) (hcnt : cnt < 1000000000) (hL1 : L.length ≤ 1000) (hL2 : ∀ i, i < L.length → (L.getD i default).ws.length ≤ 1000000) (hlt0 : told.length ≤ 1000) (hll0 : l0.length ≤ 1000) :
    Calls Try.prog 58 #[v, mv, .agg #[.int .i64 ci, .int .u64 ce]] w (RPicked F size L cnt ci ce B l0 told w) := by
  have hrm := Lib.hid hm
  obtain ⟨ba, bc, la, ln, lc, ta, tn, tc, vs, rfl, h1, h2, h3⟩ := h
  obtain ⟨wa, mc, ea, ec, rfl⟩ := hm.form
  obtain ⟨mn, hmn⟩ : ∃ mn, mn = L.length := ⟨_, rfl⟩
  obtain ⟨bn, hbn⟩ : ∃ bn, bn = J.box.length := ⟨_, rfl⟩
  obtain ⟨bz, hbz⟩ : ∃ bz, bz = J.cur.isSome := ⟨_, rfl⟩
  rw [← hmn] at hrm ⊢
  rw [← hbn, ← hbz]
  rw [← hbn] at h1
  obtain ⟨W, hW, hs0, hsz, o3, o4, o5, o6, o7, o8⟩ := six_k w (.int .i64 size) (.slice ba bn bc) (.bool bz) (.slice la ln lc) (.slice ta tn tc) (.slice wa mn mc) (.slice ea mn ec) (.int .i64 cnt) (.int .i64 ci) (.int .u64 ce)
  have HW := Lib.hid hW
  have HS0 := Lib.hid hs0
  have HSZ := Lib.hid hsz
  have O3 := Lib.hid o3
  have O4 := Lib.hid o4
  have O5 := Lib.hid o5
  have O6 := Lib.hid o6
  have O7 := Lib.hid o7
  have O8 := Lib.hid o8
  have H1 := Lib.hid (Slc.stay (Slc.imp (G := Out6 F w.heap.size) h1 (fun b hb hlt => ⟨hb, .inl hlt⟩)) hs0 (fun _ _ _ x => x))
  have H2 := Lib.hid (Fits.stay hs0 (fun _ _ _ x => x) (Fits.imp (G := Out6 F w.heap.size) (fun b hb hlt => ⟨hb, .inl hlt⟩) h2))
  have H3 := Lib.hid h3
  have HMN := Lib.hid hmn
  have HBN := Lib.hid hbn
  have HBZ := Lib.hid hbz
  have HJ := Lib.hid hJ
  have HF := Lib.hid hF
  have HL2 := Lib.hid hL2
  clear hL2 h1 h2 h3 hm hmn hbn hbz hW hs0 hsz o3 o4 o5 o6 o7 o8 hJ hF
  go_enter Try.func58, Try.ntmps58
  go_upto_if 14 with fail
  go_cut [9] from 15 (fun _ wx => RMid F size (.slice wa mn mc) (.slice ea mn ec) (.int .i64 cnt) (.int .i64 ci) (.int .u64 ce) B l0 told w wx)
  case first =>
    rcases HJ.out with rfl | ⟨rfl, rfl⟩
    · obtain rfl : bz = true := HBZ.out
      go_wp2
      go_meet
      rw [← HW.out]
      obtain ⟨k1, k2⟩ := H3.out l0 told rfl
      obtain ⟨la', lc', e1⟩ := k1.form
      obtain ⟨ta', tc', e2⟩ := Slc.form k2
      obtain ⟨rfl, rfl, rfl⟩ : la = la' ∧ ln = l0.length ∧ lc = lc' := by simpa using e1
      obtain ⟨rfl, rfl, rfl⟩ : ta = ta' ∧ tn = told.length ∧ tc = tc' := by simpa using e2
      obtain rfl : bn = B.length := HBN.out
      exact ⟨ba, bc, la, lc, ta, tc, vs, O3.out, H1.out, H2.out, (k1.imp (fun b hb hlt => ⟨hb, .inl hlt⟩)).stay HS0.out (fun _ _ _ x => x), Slc.stay (Slc.imp k2 (fun b hb hlt => ⟨hb, .inl hlt⟩)) HS0.out (fun _ _ _ x => x), HS0.out, by rw [HSZ.out]; exact Nat.le_refl _, O4.out, O5.out, O6.out, O7.out, O8.out⟩
    · obtain rfl : bz = false := HBZ.out
      have hbl : bn = B.length + 1 := HBN.out
      obtain ⟨va, vc, vs, rfl, hv, hd⟩ := H2.out.cons
      obtain ⟨hcl, ⟨e, h0⟩ | ⟨bb, bo, cap, e, hBb, hlt, hlc, hmx, hc⟩⟩ := H1.out
      · omega
      obtain ⟨rfl, rfl⟩ : ba = some ⟨bb, bo, none⟩ ∧ bc = cap := by simpa using e
      have c0 : W.cell? ⟨bb, bo, none⟩ = some (.slice va l0.length vc) := hc 0 _ rfl
      obtain ⟨x0, x1, x2, x3, x4, xf⟩ := cells5 O3.out
      have nbb : ¬ bb = w.heap.size := by have := hBb.2; omega
      have HBL := Lib.hid hbl
      have hvl : vs.length = B.length := Fits.len hd
      have HV := Lib.hid hv
      have HD := Lib.hid hd
      have HC := Lib.hid hc
      have hbn0 : ((bn : Int) == 0) = false := beq_false_of_ne (by omega)
      have hbn1 : 1 ≤ bn := by omega
      clear hbl hv hd hc e hcl
      obtain ⟨n0, hn0⟩ : ∃ n0, n0 = l0.length := ⟨_, rfl⟩
      rw [← hn0] at c0
      have HN0 := Lib.hid hn0
      clear hn0
      rw [← HW.out]
      by_cases hb1 : bc = 1
      · subst hb1
        have hbn2 : bn = 1 := by omega
        subst hbn2
        go_wp2
        go_meet
        obtain ⟨wS, hwS⟩ : ∃ x, x = (((W.setCell ⟨w.heap.size, 3, none⟩ (.slice va n0 vc)).setCell ⟨w.heap.size, 1, none⟩ (.slice (some ⟨bb, bo, none⟩) 0 0)).setCell ⟨w.heap.size, 4, none⟩ (.slice none 0 0)).setCell ⟨w.heap.size, 2, none⟩ (.bool true) := ⟨_, rfl⟩
        try rw [← hwS]
        have sS : Sep (fun k => k = w.heap.size) W wS := by rw [hwS]; exact ((((Sep.refl (fun k => k = w.heap.size) W).thenSet (.inl rfl) _).thenSet (.inl rfl) _).thenSet (.inl rfl) _).thenSet (.inl rfl) _
        have o3S : wS.heap[w.heap.size]? = some (.cells #[.int .i64 size, .slice (some ⟨bb, bo, none⟩) 0 0, .bool true, .slice va n0 vc, .slice none 0 0] 118) := by
          rw [hwS, heap_set_same (heap_set_same (heap_set_same (heap_set_same O3.out)))]; rfl
        have hsS : Same w wS := sep_chain HS0.out sS (fun k hk h => by omega)
        have ebn : 0 = B.length := by have := HBL.out; omega
        have hB0 : B = [] := List.eq_nil_of_length_eq_zero ebn.symm
        subst hB0
        have hoff : ∀ b, Out6 F w.heap.size b → b < W.heap.size → ¬ b = w.heap.size := fun b hb _ => by have := hb.2; omega
        have hn0 := HN0.out
        subst hn0
        exact ⟨_, _, _, _, none, 0, vs, o3S, rmid_tail (HBL.out) HC.out hBb hlt hmx (by have := hlc; omega) sS hoff (.inl ⟨rfl, rfl, rfl⟩), Fits.stay sS hoff HD.out, HV.out.stay sS hoff, ⟨rfl, .inl ⟨rfl, rfl⟩⟩, hsS, Nat.le_trans (by rw [HSZ.out]; exact Nat.le_refl _) sS.size, sS.obj O4.out (by omega), sS.obj O5.out (by omega), sS.obj O6.out (by omega), sS.obj O7.out (by omega), sS.obj O8.out (by omega)⟩
      · have hb2 : (bc == 1) = false := by simpa using hb1
        go_wp2
        go_meet
        obtain ⟨wS, hwS⟩ : ∃ x, x = (((W.setCell ⟨w.heap.size, 3, none⟩ (.slice va n0 vc)).setCell ⟨w.heap.size, 1, none⟩ (.slice (some ⟨bb, bo + 1, none⟩) (bn - 1) (bc - 1))).setCell ⟨w.heap.size, 4, none⟩ (.slice none 0 0)).setCell ⟨w.heap.size, 2, none⟩ (.bool true) := ⟨_, rfl⟩
        try rw [← hwS]
        have sS : Sep (fun k => k = w.heap.size) W wS := by rw [hwS]; exact ((((Sep.refl (fun k => k = w.heap.size) W).thenSet (.inl rfl) _).thenSet (.inl rfl) _).thenSet (.inl rfl) _).thenSet (.inl rfl) _
        have o3S : wS.heap[w.heap.size]? = some (.cells #[.int .i64 size, .slice (some ⟨bb, bo + 1, none⟩) (bn - 1) (bc - 1), .bool true, .slice va n0 vc, .slice none 0 0] 118) := by
          rw [hwS, heap_set_same (heap_set_same (heap_set_same (heap_set_same O3.out)))]; rfl
        have hsS : Same w wS := sep_chain HS0.out sS (fun k hk h => by omega)
        have ebn : bn - 1 = B.length := by have := HBL.out; omega
        rw [ebn] at o3S
        have hoff : ∀ b, Out6 F w.heap.size b → b < W.heap.size → ¬ b = w.heap.size := fun b hb _ => by have := hb.2; omega
        have hn0 := HN0.out
        subst hn0
        exact ⟨_, _, _, _, none, 0, vs, o3S, rmid_tail (HBL.out) HC.out hBb hlt hmx (by have := hlc; omega) sS hoff (.inr ⟨rfl, rfl⟩), Fits.stay sS hoff HD.out, HV.out.stay sS hoff, ⟨rfl, .inl ⟨rfl, rfl⟩⟩, hsS, Nat.le_trans (by rw [HSZ.out]; exact Nat.le_refl _) sS.size, sS.obj O4.out (by omega), sS.obj O5.out (by omega), sS.obj O6.out (by omega), sS.obj O7.out (by omega), sS.obj O8.out (by omega)⟩
  case rest =>
    obtain ⟨ba, bc, la, lc, ta, tc, vs, o3, hB, hfit, hl, ht, hs, hge, o4, o5, o6, o7, o8⟩ := hcut
    obtain ⟨b4, hb4⟩ : ∃ b, b = w.heap.size + 1 := ⟨_, rfl⟩
    rw [← hb4]
    obtain ⟨b5, hb5⟩ : ∃ b, b = b4 + 1 := ⟨_, rfl⟩
    rw [← hb5]
    obtain ⟨b6, hb6⟩ : ∃ b, b = b5 + 1 := ⟨_, rfl⟩
    rw [← hb6]
    obtain ⟨b7, hb7⟩ : ∃ b, b = b6 + 1 := ⟨_, rfl⟩
    rw [← hb7]
    obtain ⟨b8, hb8⟩ : ∃ b, b = b7 + 1 := ⟨_, rfl⟩
    rw [← hb8]
    have NB : Hid (b4 = w.heap.size + 1 ∧ b5 = w.heap.size + 2 ∧ b6 = w.heap.size + 3 ∧ b7 = w.heap.size + 4 ∧ b8 = w.heap.size + 5) := by show _ ∧ _; omega
    clear hb4 hb5 hb6 hb7 hb8
    obtain ⟨e4, e5, e6, e7, e8⟩ := NB.out
    rw [← e4] at o4
    rw [← e5] at o5
    rw [← e6] at o6
    rw [← e7] at o7
    rw [← e8] at o8
    have P4 := Lib.hid o4
    have P5 := Lib.hid o5
    have P6 := Lib.hid o6
    have P7 := Lib.hid o7
    have P8 := Lib.hid o8
    have P3 := Lib.hid o3
    have KB := Lib.hid hB
    have KF := Lib.hid hfit
    have KL := Lib.hid hl
    have KT := Lib.hid ht
    have KS := Lib.hid hs
    obtain ⟨x0, x1, x2, x3, x4, xf⟩ := cells5 o3
    obtain ⟨m0, m1, m2, mf⟩ := cells3x o4
    obtain ⟨bn', hbn'⟩ : ∃ n, n = B.length := ⟨_, rfl⟩
    obtain ⟨tn', htn'⟩ : ∃ n, n = told.length := ⟨_, rfl⟩
    rw [← hbn'] at x1
    rw [← htn'] at x4
    have HBN' := Lib.hid hbn'
    have HTN' := Lib.hid htn'
    clear o3 o4 o5 o6 o7 o8 hB hfit hl ht hs e4 e5 e6 e7 e8 hbn' htn'
    cases l0 with
    | nil =>
      go_wp2
      obtain ⟨wR, hwR⟩ : ∃ x, x = wc.setCell ⟨w.heap.size, 2, none⟩ (.bool false) := ⟨_, rfl⟩
      rw [← hwR]
      have sR : Sep (fun k => k = w.heap.size) wc wR := by rw [hwR]; exact sep1 (S := fun k => k = w.heap.size) wc _ 2 _ rfl
      have hsR : Same w wR := sep_chain KS.out sR (fun k hk h => by omega)
      have o3R : wR.heap[w.heap.size]? = some (.cells #[.int .i64 size, .slice ba B.length bc, .bool false, .slice la ([] : List Acc).length lc, .slice ta told.length tc] 118) := by
        rw [hwR, heap_set_same P3.out]; rfl
      obtain ⟨x0, x1, x2, x3, x4, xf⟩ := cells5 o3R
      rw [← HBN'.out] at x1
      rw [← HTN'.out] at x4
      have q4 := Lib.hid (sR.obj P4.out (by have := NB.out; omega))
      have q6 := Lib.hid (sR.obj P6.out (by have := NB.out; omega))
      have q7 := Lib.hid (sR.obj P7.out (by have := NB.out; omega))
      have q8 := Lib.hid (sR.obj P8.out (by have := NB.out; omega))
      obtain ⟨m0, m1, m2, mf⟩ := cells3x q4.out
      have NB3 : Hid (¬ (w.heap.size = b6 ∨ w.heap.size = b7 ∨ w.heap.size = b8)) := by have := NB.out; show ¬ _; omega
      have NB4 : Hid (¬ (b4 = b6 ∨ b4 = b7 ∨ b4 = b8)) := by have := NB.out; show ¬ _; omega
      have SR := Lib.hid sR
      have HSR := Lib.hid hsR
      clear sR hsR hwR o3R
      refine wp_region_held_drew (S := (fun v => v.cell? ⟨w.heap.size, 0, none⟩ = some (.int .i64 size) ∧ v.cell? ⟨w.heap.size, 1, none⟩ = some (.slice ba bn' bc) ∧ v.cell? ⟨w.heap.size, 2, none⟩ = some (.bool false) ∧ v.cell? ⟨w.heap.size, 3, none⟩ = some (.slice la 0 lc) ∧ v.cell? ⟨w.heap.size, 4, none⟩ = some (.slice ta tn' tc) ∧ v.cell? ⟨b4, 0, none⟩ = some (.slice wa mn mc) ∧ v.cell? ⟨b4, 1, none⟩ = some (.slice ea mn ec) ∧ v.cell? ⟨b4, 2, none⟩ = some (.int .i64 cnt))) (by kernel_rfl) ?_ (fun hHeld => ?_)
      · exact ⟨(Sep.drew (fun _ => False) wR).cell x0 (fun x => x), (Sep.drew (fun _ => False) wR).cell x1 (fun x => x), (Sep.drew (fun _ => False) wR).cell x2 (fun x => x), (Sep.drew (fun _ => False) wR).cell x3 (fun x => x), (Sep.drew (fun _ => False) wR).cell x4 (fun x => x), (Sep.drew (fun _ => False) wR).cell m0 (fun x => x), (Sep.drew (fun _ => False) wR).cell m1 (fun x => x), (Sep.drew (fun _ => False) wR).cell m2 (fun x => x)⟩
      change wpAnyH _ _ _ _ _ 8 _ _ _
      refine wpAnyH_take (i := 0) (oi := ⟨some 38, _, _, _, _, _⟩) (v := ?v1) rfl (by kernel_rfl) (by kernel_rfl) (by kernel_rfl) (fun _ _ _ h => h) (Or.inl ⟨by kernel_rfl, ?h1⟩) hHeld ?_
      case h1 => intro w hSw; (try dsimp only at hSw); go_simp; try with_reducible rfl
      try simp only [Act.put, List.setIfInBounds_toArray, List.set_cons_zero, List.set_cons_succ]
      refine wpAnyH_take (i := 1) (oi := ⟨some 39, _, _, _, _, _⟩) (v := ?v2) rfl (by kernel_rfl) (by kernel_rfl) (by kernel_rfl) (fun _ _ _ h => h) (Or.inl ⟨by kernel_rfl, ?h2⟩) hHeld ?_
      case h2 => intro w hSw; (try dsimp only at hSw); go_simp; try with_reducible rfl
      try simp only [Act.put, List.setIfInBounds_toArray, List.set_cons_zero, List.set_cons_succ]
      refine wpAnyH_take (i := 2) (oi := ⟨some 40, _, _, _, _, _⟩) (v := ?v3) rfl (by kernel_rfl) (by kernel_rfl) (by kernel_rfl) (fun _ _ _ h => h) (Or.inl ⟨by kernel_rfl, ?h3⟩) hHeld ?_
      case h3 => intro w hSw; (try dsimp only at hSw); go_simp; try with_reducible rfl
      try simp only [Act.put, List.setIfInBounds_toArray, List.set_cons_zero, List.set_cons_succ]
      refine wpAnyH_take (i := 3) (oi := ⟨some 41, _, _, _, _, _⟩) (v := ?v4) rfl (by kernel_rfl) (by kernel_rfl) (by kernel_rfl) (fun _ _ _ h => h) (Or.inl ⟨by kernel_rfl, ?h4⟩) hHeld ?_
      case h4 => intro w hSw; (try dsimp only at hSw); go_simp; try with_reducible rfl
      try simp only [Act.put, List.setIfInBounds_toArray, List.set_cons_zero, List.set_cons_succ]
      refine wpAnyH_take (i := 4) (oi := ⟨some 42, _, _, _, _, _⟩) (v := ?v5) rfl (by kernel_rfl) (by kernel_rfl) (by kernel_rfl) (fun _ _ _ h => h) (Or.inl ⟨by kernel_rfl, ?h5⟩) hHeld ?_
      case h5 => intro w hSw; (try dsimp only at hSw); go_simp; try with_reducible rfl
      try simp only [Act.put, List.setIfInBounds_toArray, List.set_cons_zero, List.set_cons_succ]
      refine wpAnyH_ready (rs := [5]) (by kernel_rfl) (by simp) ?_
      refine AllReadyH.cons (o := ⟨none, _, _, _, _, _⟩) rfl (fun K hK => ?_) AllReadyH.nil
      obtain ⟨t0, t1, t2, t3, t4, tf⟩ := cells5 q6.out
      rw [if_pos (by kernel_rfl)]
      go_simp
      obtain ⟨wT6, hwT⟩ : ∃ x, x = (((((wR.drew.setCell ⟨b6, 0, none⟩ (.int .i64 size)).setCell ⟨b6, 1, none⟩ (.slice ba bn' bc)).setCell ⟨b6, 2, none⟩ (.bool false)).setCell ⟨b6, 3, none⟩ (.slice la 0 lc)).setCell ⟨b6, 4, none⟩ (.slice ta tn' tc)) := ⟨_, rfl⟩
      have hwT2 : wT6 = (((((wR.setCell ⟨b6, 0, none⟩ (.int .i64 size)).setCell ⟨b6, 1, none⟩ (.slice ba bn' bc)).setCell ⟨b6, 2, none⟩ (.bool false)).setCell ⟨b6, 3, none⟩ (.slice la 0 lc)).setCell ⟨b6, 4, none⟩ (.slice ta tn' tc)).drew := hwT
      rw [← hwT2]
      clear hwT2
      have h7 : Sep (fun k => k = b6) wR.drew wT6 := by rw [hwT]; exact sep5 wR.drew b6 (.int .i64 size) (.slice ba bn' bc) (.bool false) (.slice la 0 lc) (.slice ta tn' tc)
      have ob6_6 : wT6.heap[b6]? = some (.cells #[.int .i64 size, .slice ba bn' bc, .bool false, .slice la 0 lc, .slice ta tn' tc] 118) := by rw [hwT, (heap_set_same (heap_set_same (heap_set_same (heap_set_same (heap_set_same (Same.obj (Sep.drew (fun _ => False) wR) q6.out))))))]; rfl
      have ob7_6 := h7.obj (Same.obj (Sep.drew (fun _ => False) wR) q7.out) (show ¬ (b7 = b6) by have := NB.out; omega)
      have ob8_6 := h7.obj (Same.obj (Sep.drew (fun _ => False) wR) q8.out) (show ¬ (b8 = b6) by have := NB.out; omega)
      have hT6 : Sep (fun k => k = b6 ∨ k = b7 ∨ k = b8) wR wT6 := Sep.trans (Sep.drew (fun k => k = b6 ∨ k = b7 ∨ k = b8) wR) (h7.mono fun _ _ e => .inl e)
      clear hwT h7 t0 t1 t2 t3 t4 tf
      refine hK.out _ _ ?_ (fun hHeld => ?_)
      · exact ⟨Sep.cell hT6 x0 NB3.out, Sep.cell hT6 x1 NB3.out, Sep.cell hT6 x2 NB3.out, Sep.cell hT6 x3 NB3.out, Sep.cell hT6 x4 NB3.out, Sep.cell hT6 m0 NB4.out, Sep.cell hT6 m1 NB4.out, Sep.cell hT6 m2 NB4.out⟩
      clear hK K
      try simp only [Act.put, List.setIfInBounds_toArray, List.set_cons_zero, List.set_cons_succ]
      refine wpAnyH_ready (rs := [6]) (by kernel_rfl) (by simp) ?_
      refine AllReadyH.cons (o := ⟨none, _, _, _, _, _⟩) rfl (fun K hK => ?_) AllReadyH.nil
      obtain ⟨t0, t1, t2, tf⟩ := cells3x ob7_6
      rw [if_pos (by kernel_rfl)]
      go_simp
      obtain ⟨wT8, hwT⟩ : ∃ x, x = (((wT6.setCell ⟨b7, 0, none⟩ (.slice wa mn mc)).setCell ⟨b7, 1, none⟩ (.slice ea mn ec)).setCell ⟨b7, 2, none⟩ (.int .i64 cnt)) := ⟨_, rfl⟩
      rw [← hwT]
      have h7 : Sep (fun k => k = b7) wT6 wT8 := by rw [hwT]; exact sep3 wT6 b7 (.slice wa mn mc) (.slice ea mn ec) (.int .i64 cnt)
      have ob6_8 := h7.obj ob6_6 (show ¬ (b6 = b7) by have := NB.out; omega)
      have ob7_8 : wT8.heap[b7]? = some (.cells #[.slice wa mn mc, .slice ea mn ec, .int .i64 cnt] 51) := by rw [hwT, (heap_set_same (heap_set_same (heap_set_same ob7_6)))]; rfl
      have ob8_8 := h7.obj ob8_6 (show ¬ (b8 = b7) by have := NB.out; omega)
      have hT8 : Sep (fun k => k = b6 ∨ k = b7 ∨ k = b8) wR wT8 := Sep.trans hT6 (h7.mono fun _ _ e => .inr (.inl e))
      clear hwT h7 t0 t1 t2 tf
      refine hK.out _ _ ?_ (fun hHeld => ?_)
      · exact ⟨Sep.cell hT8 x0 NB3.out, Sep.cell hT8 x1 NB3.out, Sep.cell hT8 x2 NB3.out, Sep.cell hT8 x3 NB3.out, Sep.cell hT8 x4 NB3.out, Sep.cell hT8 m0 NB4.out, Sep.cell hT8 m1 NB4.out, Sep.cell hT8 m2 NB4.out⟩
      clear hK K
      try simp only [Act.put, List.setIfInBounds_toArray, List.set_cons_zero, List.set_cons_succ]
      refine wpAnyH_ready (rs := [7]) (by kernel_rfl) (by simp) ?_
      refine AllReadyH.cons (o := ⟨none, _, _, _, _, _⟩) rfl (fun K hK => ?_) AllReadyH.nil
      obtain ⟨t0, t1, tf⟩ := cells2 ob8_8
      rw [if_pos (by kernel_rfl)]
      go_simp
      obtain ⟨wT10, hwT⟩ : ∃ x, x = ((wT8.setCell ⟨b8, 0, none⟩ (.int .i64 2)).setCell ⟨b8, 1, none⟩ (.slice ta tn' tc)) := ⟨_, rfl⟩
      rw [← hwT]
      have h7 : Sep (fun k => k = b8) wT8 wT10 := by rw [hwT]; exact sep2b wT8 b8 (.int .i64 2) (.slice ta tn' tc)
      have ob6_10 := h7.obj ob6_8 (show ¬ (b6 = b8) by have := NB.out; omega)
      have ob7_10 := h7.obj ob7_8 (show ¬ (b7 = b8) by have := NB.out; omega)
      have ob8_10 : wT10.heap[b8]? = some (.cells #[.int .i64 2, .slice ta tn' tc] 123) := by rw [hwT, (heap_set_same (heap_set_same ob8_8))]; rfl
      have hT10 : Sep (fun k => k = b6 ∨ k = b7 ∨ k = b8) wR wT10 := Sep.trans hT8 (h7.mono fun _ _ e => .inr (.inr e))
      clear hwT h7 t0 t1 tf
      refine hK.out _ _ ?_ (fun hHeld => ?_)
      · exact ⟨Sep.cell hT10 x0 NB3.out, Sep.cell hT10 x1 NB3.out, Sep.cell hT10 x2 NB3.out, Sep.cell hT10 x3 NB3.out, Sep.cell hT10 x4 NB3.out, Sep.cell hT10 m0 NB4.out, Sep.cell hT10 m1 NB4.out, Sep.cell hT10 m2 NB4.out⟩
      clear hK K
      try simp only [Act.put, List.setIfInBounds_toArray, List.set_cons_zero, List.set_cons_succ]
      refine wpAnyH_done (by kernel_rfl) ?_ _
      clear hHeld x0 x1 x2 x3 x4 m0 m1 m2
      obtain ⟨r0, r1, r2, r3, r4, rf⟩ := cells5 ob6_10
      obtain ⟨s0, s1, s2, sf⟩ := cells3x ob7_10
      obtain ⟨e0, e1, ef⟩ := cells2 ob8_10
      go_wp2
      refine bodyPost_ret (v := .tuple #[.agg #[.int .i64 size, .slice ba bn' bc, .bool false, .slice la 0 lc, .slice ta tn' tc], .agg #[.slice wa mn mc, .slice ea mn ec, .int .i64 cnt], .agg #[.int .i64 2, .slice ta tn' tc]]) (by simp [results, Try.results58, go_sem, r0, r1, r2, r3, r4, s0, s1, s2, e0, e1]) rfl ?_
      have hfin := sep_chain (S := fun _ => False) HSR.out hT10 (fun k hk h => by have := NB.out; omega)
      have hall := (SR.out.mono (S' := fun k => w.heap.size ≤ k ∧ k < w.heap.size + 6) (fun k _ h => by omega)).trans (Sep.mono hT10 (S' := fun k => w.heap.size ≤ k ∧ k < w.heap.size + 6) (fun k _ h => by have := NB.out; omega))
      refine ⟨_, _, _, rfl, hfin, .inl ⟨rfl, ta, tc, by rw [HTN'.out]; rfl, Slc.imp (Slc.stay KT.out hall (fun b hb _ h => by have := hb.2; omega)) (fun b hb _ => hb.1), ?_, hrm.out.same hfin⟩⟩
      rw [HBN'.out]
      exact rw_idle KB.out KF.out hall (fun b h => h)
    | cons A l =>
      rcases KL.out with hsl | ⟨h0, _⟩
      rotate_left
      · cases h0
      have hslh := hsl
      obtain ⟨hcl, ⟨e, h0⟩ | ⟨lb, lf, lcap, e, hLb, hLlt, hLlc, hLm, hLc⟩⟩ := hsl
      · simp at h0
      obtain ⟨rfl, rfl⟩ : la = some ⟨lb, lf, none⟩ ∧ lc = lcap := by simpa using e
      obtain ⟨a0, a1, a2, a3⟩ := head_cells hLc
      obtain ⟨k0, k1, kf⟩ := cells2 P5.out
      obtain ⟨ln1, hln1⟩ : ∃ n, n = (A :: l).length := ⟨_, rfl⟩
      rw [← hln1] at x3
      have hl1 : 0 < ln1 := by rw [hln1]; simp
      have hl0b : ((ln1 : Int) == 0) = false := beq_false_of_ne (by omega)
      have HLN1 := Lib.hid hln1
      have HLC := Lib.hid hLc
      have HSLH := Lib.hid hslh
      have KGE := Lib.hid hge
      have hrmc := (hrm.out.imp (G := Out6 F w.heap.size) (fun b hb hlt => ⟨hb, .inl hlt⟩)).same KS.out
      clear hcl hLc e hln1 hslh hge KL
      go_upto_region 11 with fail
      go_cut [9, 10, 11] from 43 (fun s9 s10 s11 wx => RDone (Out6 F w.heap.size) L cnt ci ce A wc s9 s10 s11 wx)
      case first =>
        cases hok : okB L ci ce A.op A.at_ with
        | false =>
          have HOK := Lib.hid hok
          clear hok
          refine wp_region_held_drew (S := (fun v => v.cell? ⟨b4, 0, none⟩ = some (.slice wa mn mc) ∧ v.cell? ⟨b4, 1, none⟩ = some (.slice ea mn ec) ∧ v.cell? ⟨b4, 2, none⟩ = some (.int .i64 cnt) ∧ v.cell? ⟨b5, 0, none⟩ = some (.int .i64 ci) ∧ v.cell? ⟨b5, 1, none⟩ = some (.int .u64 ce) ∧ v.cell? ⟨w.heap.size, 3, none⟩ = some (.slice (some ⟨lb, lf, none⟩) ln1 lc) ∧ v.cell? ⟨lb, lf, none⟩ = some (.int .i64 A.op) ∧ v.cell? ⟨lb, lf + 1, none⟩ = some (.int .i64 A.at_) ∧ v.cell? ⟨lb, lf + 2, none⟩ = some (.int .u64 A.x) ∧ v.cell? ⟨lb, lf + 3, none⟩ = some (.int .u64 A.y))) (by kernel_rfl) ?_ (fun hHeld => ?_)
          · exact ⟨(Sep.drew (fun _ => False) wc).cell m0 (fun x => x), (Sep.drew (fun _ => False) wc).cell m1 (fun x => x), (Sep.drew (fun _ => False) wc).cell m2 (fun x => x), (Sep.drew (fun _ => False) wc).cell k0 (fun x => x), (Sep.drew (fun _ => False) wc).cell k1 (fun x => x), (Sep.drew (fun _ => False) wc).cell x3 (fun x => x), (Sep.drew (fun _ => False) wc).cell a0 (fun x => x), (Sep.drew (fun _ => False) wc).cell a1 (fun x => x), (Sep.drew (fun _ => False) wc).cell a2 (fun x => x), (Sep.drew (fun _ => False) wc).cell a3 (fun x => x)⟩
          change wpAnyH _ _ _ _ _ 15 _ _ _
          refine wpAnyH_take (i := 0) (oi := ⟨some 44, _, _, _, _, _⟩) (v := ?v6) rfl (by kernel_rfl) (by kernel_rfl) (by kernel_rfl) (fun _ _ _ h => h) (Or.inl ⟨by kernel_rfl, ?h6⟩) hHeld ?_
          case h6 => intro w hSw; (try dsimp only at hSw); go_simp; try with_reducible rfl
          try simp only [Act.put, List.setIfInBounds_toArray, List.set_cons_zero, List.set_cons_succ]
          refine wpAnyH_take (i := 1) (oi := ⟨some 45, _, _, _, _, _⟩) (v := ?v7) rfl (by kernel_rfl) (by kernel_rfl) (by kernel_rfl) (fun _ _ _ h => h) (Or.inl ⟨by kernel_rfl, ?h7⟩) hHeld ?_
          case h7 => intro w hSw; (try dsimp only at hSw); go_simp; try with_reducible rfl
          try simp only [Act.put, List.setIfInBounds_toArray, List.set_cons_zero, List.set_cons_succ]
          refine wpAnyH_take (i := 2) (oi := ⟨some 46, _, _, _, _, _⟩) (v := ?v8) rfl (by kernel_rfl) (by kernel_rfl) (by kernel_rfl) (fun _ _ _ h => h) (Or.inl ⟨by kernel_rfl, ?h8⟩) hHeld ?_
          case h8 => intro w hSw; (try dsimp only at hSw); go_simp; try with_reducible rfl
          try simp only [Act.put, List.setIfInBounds_toArray, List.set_cons_zero, List.set_cons_succ]
          refine wpAnyH_take (i := 3) (oi := ⟨some 47, _, _, _, _, _⟩) (v := ?v9) rfl (by kernel_rfl) (by kernel_rfl) (by kernel_rfl) (fun _ _ _ h => h) (Or.inl ⟨by kernel_rfl, ?h9⟩) hHeld ?_
          case h9 => intro w hSw; (try dsimp only at hSw); go_simp; try with_reducible rfl
          try simp only [Act.put, List.setIfInBounds_toArray, List.set_cons_zero, List.set_cons_succ]
          refine wpAnyH_take (i := 4) (oi := ⟨some 48, _, _, _, _, _⟩) (v := ?v10) rfl (by kernel_rfl) (by kernel_rfl) (by kernel_rfl) (fun _ _ _ h => h) (Or.inl ⟨by kernel_rfl, ?h10⟩) hHeld ?_
          case h10 => intro w hSw; (try dsimp only at hSw); go_simp; try with_reducible rfl
          try simp only [Act.put, List.setIfInBounds_toArray, List.set_cons_zero, List.set_cons_succ]
          refine wpAnyH_take (i := 5) (oi := ⟨some 49, _, _, _, _, _⟩) (v := ?v11) rfl (by kernel_rfl) (by kernel_rfl) (by kernel_rfl) (fun _ _ _ h => h) (Or.inl ⟨by kernel_rfl, ?h11⟩) hHeld ?_
          case h11 => intro w hSw; (try dsimp only at hSw); go_simp; try with_reducible rfl
          try simp only [Act.put, List.setIfInBounds_toArray, List.set_cons_zero, List.set_cons_succ]
          refine wpAnyH_ready (rs := [6, 11]) (by kernel_rfl) (by simp) ?_
          refine AllReadyH.cons (o := ⟨some 50, _, _, _, _, _⟩) rfl (fun K hK => ?_) ?_
          ·
            rw [if_pos (by kernel_rfl)]
            go_simp
            refine (rdo_no (hrmc.same (Sep.drew (fun _ => False) wc)) ci ce A.op A.at_ A.x A.y HOK.out).mono ?_
            rintro e wS ⟨rfl, hsS⟩
            have hS : Same wc wS := Sep.trans (Sep.drew (fun _ => False) wc) hsS
            refine hK.out _ _ ?_ (fun hHeld => ?_)
            · exact ⟨Same.cell hS m0, Same.cell hS m1, Same.cell hS m2, Same.cell hS k0, Same.cell hS k1, Same.cell hS x3, Same.cell hS a0, Same.cell hS a1, Same.cell hS a2, Same.cell hS a3⟩
            clear hK K
            try simp only [Act.put, List.setIfInBounds_toArray, List.set_cons_zero, List.set_cons_succ]
            refine wpAnyH_take (i := 7) (oi := ⟨some 43, _, _, _, _, _⟩) (v := ?v12) rfl (by kernel_rfl) (by kernel_rfl) (by kernel_rfl) (fun _ _ _ h => h) (Or.inl ⟨by kernel_rfl, ?h12⟩) hHeld ?_
            case h12 => intro w hSw; (try dsimp only at hSw); go_simp; try with_reducible rfl
            try simp only [Act.put, List.setIfInBounds_toArray, List.set_cons_zero, List.set_cons_succ]
            refine wpAnyH_take (i := 8) (oi := ⟨some 51, _, _, _, _, _⟩) (v := ?v13) rfl (by kernel_rfl) (by kernel_rfl) (by kernel_rfl) (fun _ _ _ h => h) (Or.inl ⟨by kernel_rfl, ?h13⟩) hHeld ?_
            case h13 => intro w hSw; (try dsimp only at hSw); go_simp; try with_reducible rfl
            try simp only [Act.put, List.setIfInBounds_toArray, List.set_cons_zero, List.set_cons_succ]
            refine wpAnyH_take (i := 9) (oi := ⟨some 52, _, _, _, _, _⟩) (v := ?v14) rfl (by kernel_rfl) (by kernel_rfl) (by kernel_rfl) (fun _ _ _ h => h) (Or.inl ⟨by kernel_rfl, ?h14⟩) hHeld ?_
            case h14 => intro w hSw; (try dsimp only at hSw); go_simp; try with_reducible rfl
            try simp only [Act.put, List.setIfInBounds_toArray, List.set_cons_zero, List.set_cons_succ]
            refine wpAnyH_take (i := 10) (oi := ⟨some 53, _, _, _, _, _⟩) (v := ?v15) rfl (by kernel_rfl) (by kernel_rfl) (by kernel_rfl) (fun _ _ _ h => h) (Or.inl ⟨by kernel_rfl, ?h15⟩) hHeld ?_
            case h15 => intro w hSw; (try dsimp only at hSw); go_simp; try with_reducible rfl
            try simp only [Act.put, List.setIfInBounds_toArray, List.set_cons_zero, List.set_cons_succ]
            refine wpAnyH_ready (rs := [11]) (by kernel_rfl) (by simp) ?_
            refine AllReadyH.cons (o := ⟨some 9, _, _, _, _, _⟩) rfl (fun K hK => ?_) AllReadyH.nil
            rw [if_pos (by kernel_rfl)]
            go_simp
            obtain ⟨wA, hwA⟩ : ∃ x, x = wS.alloc (.cells #[.slice none 0 0, .slice none 0 0, .int .i64 0] 51) := ⟨_, rfl⟩
            rw [← hwA]
            have hA0 : Same wS wA := by rw [hwA]; exact Sep.alloc _ _ _
            have obA : wA.heap[wS.heap.size]? = some (.cells #[.slice none 0 0, .slice none 0 0, .int .i64 0] 51) := by rw [hwA]; exact heap_alloc_new _ _
            obtain ⟨b9, hb9⟩ : ∃ b, b = wS.heap.size := ⟨_, rfl⟩
            have hA : Same wc wA := hS.trans hA0
            have g9 : wc.heap.size ≤ b9 := by have := hS.size; omega
            have g9S : wS.heap.size ≤ b9 := by omega
            rw [← hb9] at obA ⊢
            clear hwA hb9
            refine hK.out _ _ ?_ (fun hHeld => ?_)
            · exact ⟨Same.cell hA m0, Same.cell hA m1, Same.cell hA m2, Same.cell hA k0, Same.cell hA k1, Same.cell hA x3, Same.cell hA a0, Same.cell hA a1, Same.cell hA a2, Same.cell hA a3⟩
            clear hK K
            try simp only [Act.put, List.setIfInBounds_toArray, List.set_cons_zero, List.set_cons_succ]
            refine wpAnyH_ready (rs := [12]) (by kernel_rfl) (by simp) ?_
            refine AllReadyH.cons (o := ⟨none, _, _, _, _, _⟩) rfl (fun K hK => ?_) AllReadyH.nil
            obtain ⟨t0, t1, t2, tf⟩ := cells3x obA
            rw [if_pos (by kernel_rfl)]
            go_simp
            obtain ⟨wT, hwT⟩ : ∃ x, x = (((wA.setCell ⟨b9, 0, none⟩ (.slice wa mn mc)).setCell ⟨b9, 1, none⟩ (.slice ea mn ec)).setCell ⟨b9, 2, none⟩ (.int .i64 cnt)) := ⟨_, rfl⟩
            rw [← hwT]
            have h7 : Sep (fun k => k = b9) wA wT := by rw [hwT]; exact sep3 wA b9 (.slice wa mn mc) (.slice ea mn ec) (.int .i64 cnt)
            have obT : wT.heap[b9]? = some (.cells #[.slice wa mn mc, .slice ea mn ec, .int .i64 cnt] 51) := by rw [hwT]; exact heap3 obA rfl
            have hT : Same wc wT := same_then hA g9 h7
            clear hwT
            refine hK.out _ _ ?_ (fun hHeld => ?_)
            · exact ⟨Same.cell hT m0, Same.cell hT m1, Same.cell hT m2, Same.cell hT k0, Same.cell hT k1, Same.cell hT x3, Same.cell hT a0, Same.cell hT a1, Same.cell hT a2, Same.cell hT a3⟩
            clear hK K
            try simp only [Act.put, List.setIfInBounds_toArray, List.set_cons_zero, List.set_cons_succ]
            refine wpAnyH_take (i := 13) (oi := ⟨some 10, _, _, _, _, _⟩) (v := ?v16) rfl (by kernel_rfl) (by kernel_rfl) (by kernel_rfl) (fun _ _ _ h => h) (Or.inl ⟨by kernel_rfl, ?h16⟩) hHeld ?_
            case h16 => intro w hSw; (try dsimp only at hSw); go_simp; try with_reducible rfl
            try simp only [Act.put, List.setIfInBounds_toArray, List.set_cons_zero, List.set_cons_succ]
            refine wpAnyH_take (i := 14) (oi := ⟨some 11, _, _, _, _, _⟩) (v := ?v17) rfl (by kernel_rfl) (by kernel_rfl) (by kernel_rfl) (fun _ _ _ h => h) (Or.inl ⟨by kernel_rfl, ?h17⟩) hHeld ?_
            case h17 => intro w hSw; (try dsimp only at hSw); go_simp; try with_reducible rfl
            try simp only [Act.put, List.setIfInBounds_toArray, List.set_cons_zero, List.set_cons_succ]
            refine wpAnyH_done (by kernel_rfl) ?_ _
            clear hHeld m0 m1 m2 k0 k1 x3 a0 a1 a2 a3 t0 t1 t2 tf
            go_wp2
            go_meet
            exact ⟨b9, _, _, rfl, rfl, rfl, hT, .inl ⟨HOK.out, rfl⟩⟩
          refine AllReadyH.cons (o := ⟨some 9, _, _, _, _, _⟩) rfl (fun K hK => ?_) AllReadyH.nil
          ·
            rw [if_pos (by kernel_rfl)]
            go_simp
            obtain ⟨wA, hwA⟩ : ∃ x, x = (wc.alloc (.cells #[.slice none 0 0, .slice none 0 0, .int .i64 0] 51)).drew := ⟨_, rfl⟩
            rw [← hwA]
            have hA : Same wc wA := by rw [hwA]; exact Sep.trans (Sep.alloc _ wc _) (Sep.drew _ _)
            have obA : wA.heap[wc.heap.size]? = some (.cells #[.slice none 0 0, .slice none 0 0, .int .i64 0] 51) := by rw [hwA]; exact heap_alloc_new wc _
            obtain ⟨b9, hb9⟩ : ∃ b, b = wc.heap.size := ⟨_, rfl⟩
            have g9 : wc.heap.size ≤ b9 := by omega
            rw [← hb9] at obA ⊢
            clear hwA hb9
            refine hK.out _ _ ?_ (fun hHeld => ?_)
            · exact ⟨Same.cell hA m0, Same.cell hA m1, Same.cell hA m2, Same.cell hA k0, Same.cell hA k1, Same.cell hA x3, Same.cell hA a0, Same.cell hA a1, Same.cell hA a2, Same.cell hA a3⟩
            clear hK K
            try simp only [Act.put, List.setIfInBounds_toArray, List.set_cons_zero, List.set_cons_succ]
            refine wpAnyH_ready (rs := [6]) (by kernel_rfl) (by simp) ?_
            refine AllReadyH.cons (o := ⟨some 50, _, _, _, _, _⟩) rfl (fun K hK => ?_) AllReadyH.nil
            rw [if_pos (by kernel_rfl)]
            go_simp
            refine (rdo_no (hrmc.same (hA)) ci ce A.op A.at_ A.x A.y HOK.out).mono ?_
            rintro e wS ⟨rfl, hsS⟩
            have hS : Same wc wS := Sep.trans (hA) hsS
            have obS := Same.obj hsS obA
            refine hK.out _ _ ?_ (fun hHeld => ?_)
            · exact ⟨Same.cell hS m0, Same.cell hS m1, Same.cell hS m2, Same.cell hS k0, Same.cell hS k1, Same.cell hS x3, Same.cell hS a0, Same.cell hS a1, Same.cell hS a2, Same.cell hS a3⟩
            clear hK K
            try simp only [Act.put, List.setIfInBounds_toArray, List.set_cons_zero, List.set_cons_succ]
            refine wpAnyH_take (i := 7) (oi := ⟨some 43, _, _, _, _, _⟩) (v := ?v18) rfl (by kernel_rfl) (by kernel_rfl) (by kernel_rfl) (fun _ _ _ h => h) (Or.inl ⟨by kernel_rfl, ?h18⟩) hHeld ?_
            case h18 => intro w hSw; (try dsimp only at hSw); go_simp; try with_reducible rfl
            try simp only [Act.put, List.setIfInBounds_toArray, List.set_cons_zero, List.set_cons_succ]
            refine wpAnyH_take (i := 8) (oi := ⟨some 51, _, _, _, _, _⟩) (v := ?v19) rfl (by kernel_rfl) (by kernel_rfl) (by kernel_rfl) (fun _ _ _ h => h) (Or.inl ⟨by kernel_rfl, ?h19⟩) hHeld ?_
            case h19 => intro w hSw; (try dsimp only at hSw); go_simp; try with_reducible rfl
            try simp only [Act.put, List.setIfInBounds_toArray, List.set_cons_zero, List.set_cons_succ]
            refine wpAnyH_take (i := 9) (oi := ⟨some 52, _, _, _, _, _⟩) (v := ?v20) rfl (by kernel_rfl) (by kernel_rfl) (by kernel_rfl) (fun _ _ _ h => h) (Or.inl ⟨by kernel_rfl, ?h20⟩) hHeld ?_
            case h20 => intro w hSw; (try dsimp only at hSw); go_simp; try with_reducible rfl
            try simp only [Act.put, List.setIfInBounds_toArray, List.set_cons_zero, List.set_cons_succ]
            refine wpAnyH_take (i := 10) (oi := ⟨some 53, _, _, _, _, _⟩) (v := ?v21) rfl (by kernel_rfl) (by kernel_rfl) (by kernel_rfl) (fun _ _ _ h => h) (Or.inl ⟨by kernel_rfl, ?h21⟩) hHeld ?_
            case h21 => intro w hSw; (try dsimp only at hSw); go_simp; try with_reducible rfl
            try simp only [Act.put, List.setIfInBounds_toArray, List.set_cons_zero, List.set_cons_succ]
            refine wpAnyH_ready (rs := [12]) (by kernel_rfl) (by simp) ?_
            refine AllReadyH.cons (o := ⟨none, _, _, _, _, _⟩) rfl (fun K hK => ?_) AllReadyH.nil
            obtain ⟨t0, t1, t2, tf⟩ := cells3x obS
            rw [if_pos (by kernel_rfl)]
            go_simp
            obtain ⟨wT, hwT⟩ : ∃ x, x = (((wS.setCell ⟨b9, 0, none⟩ (.slice wa mn mc)).setCell ⟨b9, 1, none⟩ (.slice ea mn ec)).setCell ⟨b9, 2, none⟩ (.int .i64 cnt)) := ⟨_, rfl⟩
            rw [← hwT]
            have h7 : Sep (fun k => k = b9) wS wT := by rw [hwT]; exact sep3 wS b9 (.slice wa mn mc) (.slice ea mn ec) (.int .i64 cnt)
            have obT : wT.heap[b9]? = some (.cells #[.slice wa mn mc, .slice ea mn ec, .int .i64 cnt] 51) := by rw [hwT]; exact heap3 obS rfl
            have hT : Same wc wT := same_then hS g9 h7
            clear hwT
            refine hK.out _ _ ?_ (fun hHeld => ?_)
            · exact ⟨Same.cell hT m0, Same.cell hT m1, Same.cell hT m2, Same.cell hT k0, Same.cell hT k1, Same.cell hT x3, Same.cell hT a0, Same.cell hT a1, Same.cell hT a2, Same.cell hT a3⟩
            clear hK K
            try simp only [Act.put, List.setIfInBounds_toArray, List.set_cons_zero, List.set_cons_succ]
            refine wpAnyH_take (i := 13) (oi := ⟨some 10, _, _, _, _, _⟩) (v := ?v22) rfl (by kernel_rfl) (by kernel_rfl) (by kernel_rfl) (fun _ _ _ h => h) (Or.inl ⟨by kernel_rfl, ?h22⟩) hHeld ?_
            case h22 => intro w hSw; (try dsimp only at hSw); go_simp; try with_reducible rfl
            try simp only [Act.put, List.setIfInBounds_toArray, List.set_cons_zero, List.set_cons_succ]
            refine wpAnyH_take (i := 14) (oi := ⟨some 11, _, _, _, _, _⟩) (v := ?v23) rfl (by kernel_rfl) (by kernel_rfl) (by kernel_rfl) (fun _ _ _ h => h) (Or.inl ⟨by kernel_rfl, ?h23⟩) hHeld ?_
            case h23 => intro w hSw; (try dsimp only at hSw); go_simp; try with_reducible rfl
            try simp only [Act.put, List.setIfInBounds_toArray, List.set_cons_zero, List.set_cons_succ]
            refine wpAnyH_done (by kernel_rfl) ?_ _
            clear hHeld m0 m1 m2 k0 k1 x3 a0 a1 a2 a3 t0 t1 t2 tf
            go_wp2
            go_meet
            exact ⟨b9, _, _, rfl, rfl, rfl, hT, .inl ⟨HOK.out, rfl⟩⟩
        | true =>
          have HOK := Lib.hid hok
          clear hok
          refine wp_region_held_drew (S := (fun v => v.cell? ⟨b4, 0, none⟩ = some (.slice wa mn mc) ∧ v.cell? ⟨b4, 1, none⟩ = some (.slice ea mn ec) ∧ v.cell? ⟨b4, 2, none⟩ = some (.int .i64 cnt) ∧ v.cell? ⟨b5, 0, none⟩ = some (.int .i64 ci) ∧ v.cell? ⟨b5, 1, none⟩ = some (.int .u64 ce) ∧ v.cell? ⟨w.heap.size, 3, none⟩ = some (.slice (some ⟨lb, lf, none⟩) ln1 lc) ∧ v.cell? ⟨lb, lf, none⟩ = some (.int .i64 A.op) ∧ v.cell? ⟨lb, lf + 1, none⟩ = some (.int .i64 A.at_) ∧ v.cell? ⟨lb, lf + 2, none⟩ = some (.int .u64 A.x) ∧ v.cell? ⟨lb, lf + 3, none⟩ = some (.int .u64 A.y))) (by kernel_rfl) ?_ (fun hHeld => ?_)
          · exact ⟨(Sep.drew (fun _ => False) wc).cell m0 (fun x => x), (Sep.drew (fun _ => False) wc).cell m1 (fun x => x), (Sep.drew (fun _ => False) wc).cell m2 (fun x => x), (Sep.drew (fun _ => False) wc).cell k0 (fun x => x), (Sep.drew (fun _ => False) wc).cell k1 (fun x => x), (Sep.drew (fun _ => False) wc).cell x3 (fun x => x), (Sep.drew (fun _ => False) wc).cell a0 (fun x => x), (Sep.drew (fun _ => False) wc).cell a1 (fun x => x), (Sep.drew (fun _ => False) wc).cell a2 (fun x => x), (Sep.drew (fun _ => False) wc).cell a3 (fun x => x)⟩
          change wpAnyH _ _ _ _ _ 15 _ _ _
          refine wpAnyH_take (i := 0) (oi := ⟨some 44, _, _, _, _, _⟩) (v := ?v24) rfl (by kernel_rfl) (by kernel_rfl) (by kernel_rfl) (fun _ _ _ h => h) (Or.inl ⟨by kernel_rfl, ?h24⟩) hHeld ?_
          case h24 => intro w hSw; (try dsimp only at hSw); go_simp; try with_reducible rfl
          try simp only [Act.put, List.setIfInBounds_toArray, List.set_cons_zero, List.set_cons_succ]
          refine wpAnyH_take (i := 1) (oi := ⟨some 45, _, _, _, _, _⟩) (v := ?v25) rfl (by kernel_rfl) (by kernel_rfl) (by kernel_rfl) (fun _ _ _ h => h) (Or.inl ⟨by kernel_rfl, ?h25⟩) hHeld ?_
          case h25 => intro w hSw; (try dsimp only at hSw); go_simp; try with_reducible rfl
          try simp only [Act.put, List.setIfInBounds_toArray, List.set_cons_zero, List.set_cons_succ]
          refine wpAnyH_take (i := 2) (oi := ⟨some 46, _, _, _, _, _⟩) (v := ?v26) rfl (by kernel_rfl) (by kernel_rfl) (by kernel_rfl) (fun _ _ _ h => h) (Or.inl ⟨by kernel_rfl, ?h26⟩) hHeld ?_
          case h26 => intro w hSw; (try dsimp only at hSw); go_simp; try with_reducible rfl
          try simp only [Act.put, List.setIfInBounds_toArray, List.set_cons_zero, List.set_cons_succ]
          refine wpAnyH_take (i := 3) (oi := ⟨some 47, _, _, _, _, _⟩) (v := ?v27) rfl (by kernel_rfl) (by kernel_rfl) (by kernel_rfl) (fun _ _ _ h => h) (Or.inl ⟨by kernel_rfl, ?h27⟩) hHeld ?_
          case h27 => intro w hSw; (try dsimp only at hSw); go_simp; try with_reducible rfl
          try simp only [Act.put, List.setIfInBounds_toArray, List.set_cons_zero, List.set_cons_succ]
          refine wpAnyH_take (i := 4) (oi := ⟨some 48, _, _, _, _, _⟩) (v := ?v28) rfl (by kernel_rfl) (by kernel_rfl) (by kernel_rfl) (fun _ _ _ h => h) (Or.inl ⟨by kernel_rfl, ?h28⟩) hHeld ?_
          case h28 => intro w hSw; (try dsimp only at hSw); go_simp; try with_reducible rfl
          try simp only [Act.put, List.setIfInBounds_toArray, List.set_cons_zero, List.set_cons_succ]
          refine wpAnyH_take (i := 5) (oi := ⟨some 49, _, _, _, _, _⟩) (v := ?v29) rfl (by kernel_rfl) (by kernel_rfl) (by kernel_rfl) (fun _ _ _ h => h) (Or.inl ⟨by kernel_rfl, ?h29⟩) hHeld ?_
          case h29 => intro w hSw; (try dsimp only at hSw); go_simp; try with_reducible rfl
          try simp only [Act.put, List.setIfInBounds_toArray, List.set_cons_zero, List.set_cons_succ]
          refine wpAnyH_ready (rs := [6, 11]) (by kernel_rfl) (by simp) ?_
          refine AllReadyH.cons (o := ⟨some 50, _, _, _, _, _⟩) rfl (fun K hK => ?_) ?_
          ·
            rw [if_pos (by kernel_rfl)]
            go_simp
            refine (rdo_yes (F := fun q => Out6 F w.heap.size q) ((hrmc.imp (fun q hq hlt => hq)).same (Sep.drew (fun _ => False) wc)) (fun q hq => by have := Sep.size (Sep.drew (fun _ => False) wc); have := KGE.out; exact ⟨HF.out q (by omega), .inr (by omega)⟩) ci ce A.op A.at_ A.x A.y HOK.out hcnt hL1 HL2.out).mono ?_
            rintro e wS ⟨v2, rfl, hrm2, hsS⟩
            obtain ⟨cq, hcq⟩ : ∃ n, n = cnt + 1 := ⟨_, rfl⟩
            rw [← hcq] at hrm2
            have HCQ := Lib.hid hcq
            clear hcq
            obtain ⟨wa2, wc2, ea2, ec2, rfl⟩ := hrm2.form
            obtain ⟨mn2, hmn2⟩ : ∃ mn2, mn2 = (doL L ci.toNat A.at_.toNat A.op A.x A.y).length := ⟨_, rfl⟩
            rw [← hmn2] at hrm2 ⊢
            clear hmn2
            have hS : Same wc wS := Sep.trans (Sep.drew (fun _ => False) wc) hsS
            refine hK.out _ _ ?_ (fun hHeld => ?_)
            · exact ⟨Same.cell hS m0, Same.cell hS m1, Same.cell hS m2, Same.cell hS k0, Same.cell hS k1, Same.cell hS x3, Same.cell hS a0, Same.cell hS a1, Same.cell hS a2, Same.cell hS a3⟩
            clear hK K
            try simp only [Act.put, List.setIfInBounds_toArray, List.set_cons_zero, List.set_cons_succ]
            refine wpAnyH_take (i := 7) (oi := ⟨some 43, _, _, _, _, _⟩) (v := ?v30) rfl (by kernel_rfl) (by kernel_rfl) (by kernel_rfl) (fun _ _ _ h => h) (Or.inl ⟨by kernel_rfl, ?h30⟩) hHeld ?_
            case h30 => intro w hSw; (try dsimp only at hSw); go_simp; try with_reducible rfl
            try simp only [Act.put, List.setIfInBounds_toArray, List.set_cons_zero, List.set_cons_succ]
            refine wpAnyH_take (i := 8) (oi := ⟨some 51, _, _, _, _, _⟩) (v := ?v31) rfl (by kernel_rfl) (by kernel_rfl) (by kernel_rfl) (fun _ _ _ h => h) (Or.inl ⟨by kernel_rfl, ?h31⟩) hHeld ?_
            case h31 => intro w hSw; (try dsimp only at hSw); go_simp; try with_reducible rfl
            try simp only [Act.put, List.setIfInBounds_toArray, List.set_cons_zero, List.set_cons_succ]
            refine wpAnyH_take (i := 9) (oi := ⟨some 52, _, _, _, _, _⟩) (v := ?v32) rfl (by kernel_rfl) (by kernel_rfl) (by kernel_rfl) (fun _ _ _ h => h) (Or.inl ⟨by kernel_rfl, ?h32⟩) hHeld ?_
            case h32 => intro w hSw; (try dsimp only at hSw); go_simp; try with_reducible rfl
            try simp only [Act.put, List.setIfInBounds_toArray, List.set_cons_zero, List.set_cons_succ]
            refine wpAnyH_take (i := 10) (oi := ⟨some 53, _, _, _, _, _⟩) (v := ?v33) rfl (by kernel_rfl) (by kernel_rfl) (by kernel_rfl) (fun _ _ _ h => h) (Or.inl ⟨by kernel_rfl, ?h33⟩) hHeld ?_
            case h33 => intro w hSw; (try dsimp only at hSw); go_simp; try with_reducible rfl
            try simp only [Act.put, List.setIfInBounds_toArray, List.set_cons_zero, List.set_cons_succ]
            refine wpAnyH_ready (rs := [11]) (by kernel_rfl) (by simp) ?_
            refine AllReadyH.cons (o := ⟨some 9, _, _, _, _, _⟩) rfl (fun K hK => ?_) AllReadyH.nil
            rw [if_pos (by kernel_rfl)]
            go_simp
            obtain ⟨wA, hwA⟩ : ∃ x, x = wS.alloc (.cells #[.slice none 0 0, .slice none 0 0, .int .i64 0] 51) := ⟨_, rfl⟩
            rw [← hwA]
            have hA0 : Same wS wA := by rw [hwA]; exact Sep.alloc _ _ _
            have obA : wA.heap[wS.heap.size]? = some (.cells #[.slice none 0 0, .slice none 0 0, .int .i64 0] 51) := by rw [hwA]; exact heap_alloc_new _ _
            obtain ⟨b9, hb9⟩ : ∃ b, b = wS.heap.size := ⟨_, rfl⟩
            have hA : Same wc wA := hS.trans hA0
            have g9 : wc.heap.size ≤ b9 := by have := hS.size; omega
            have g9S : wS.heap.size ≤ b9 := by omega
            rw [← hb9] at obA ⊢
            clear hwA hb9
            refine hK.out _ _ ?_ (fun hHeld => ?_)
            · exact ⟨Same.cell hA m0, Same.cell hA m1, Same.cell hA m2, Same.cell hA k0, Same.cell hA k1, Same.cell hA x3, Same.cell hA a0, Same.cell hA a1, Same.cell hA a2, Same.cell hA a3⟩
            clear hK K
            try simp only [Act.put, List.setIfInBounds_toArray, List.set_cons_zero, List.set_cons_succ]
            refine wpAnyH_ready (rs := [12]) (by kernel_rfl) (by simp) ?_
            refine AllReadyH.cons (o := ⟨none, _, _, _, _, _⟩) rfl (fun K hK => ?_) AllReadyH.nil
            obtain ⟨t0, t1, t2, tf⟩ := cells3x obA
            rw [if_pos (by kernel_rfl)]
            go_simp
            obtain ⟨wT, hwT⟩ : ∃ x, x = (((wA.setCell ⟨b9, 0, none⟩ (.slice wa2 mn2 wc2)).setCell ⟨b9, 1, none⟩ (.slice ea2 mn2 ec2)).setCell ⟨b9, 2, none⟩ (.int .i64 (cq : Int))) := ⟨_, rfl⟩
            rw [← hwT]
            have h7 : Sep (fun k => k = b9) wA wT := by rw [hwT]; exact sep3 wA b9 (.slice wa2 mn2 wc2) (.slice ea2 mn2 ec2) (.int .i64 (cq : Int))
            have obT : wT.heap[b9]? = some (.cells #[.slice wa2 mn2 wc2, .slice ea2 mn2 ec2, .int .i64 (cq : Int)] 51) := by rw [hwT]; exact heap3 obA rfl
            have hT : Same wc wT := same_then hA g9 h7
            clear hwT
            refine hK.out _ _ ?_ (fun hHeld => ?_)
            · exact ⟨Same.cell hT m0, Same.cell hT m1, Same.cell hT m2, Same.cell hT k0, Same.cell hT k1, Same.cell hT x3, Same.cell hT a0, Same.cell hT a1, Same.cell hT a2, Same.cell hT a3⟩
            clear hK K
            try simp only [Act.put, List.setIfInBounds_toArray, List.set_cons_zero, List.set_cons_succ]
            refine wpAnyH_take (i := 13) (oi := ⟨some 10, _, _, _, _, _⟩) (v := ?v34) rfl (by kernel_rfl) (by kernel_rfl) (by kernel_rfl) (fun _ _ _ h => h) (Or.inl ⟨by kernel_rfl, ?h34⟩) hHeld ?_
            case h34 => intro w hSw; (try dsimp only at hSw); go_simp; try with_reducible rfl
            try simp only [Act.put, List.setIfInBounds_toArray, List.set_cons_zero, List.set_cons_succ]
            refine wpAnyH_take (i := 14) (oi := ⟨some 11, _, _, _, _, _⟩) (v := ?v35) rfl (by kernel_rfl) (by kernel_rfl) (by kernel_rfl) (fun _ _ _ h => h) (Or.inl ⟨by kernel_rfl, ?h35⟩) hHeld ?_
            case h35 => intro w hSw; (try dsimp only at hSw); go_simp; try with_reducible rfl
            try simp only [Act.put, List.setIfInBounds_toArray, List.set_cons_zero, List.set_cons_succ]
            refine wpAnyH_done (by kernel_rfl) ?_ _
            clear hHeld m0 m1 m2 k0 k1 x3 a0 a1 a2 a3 t0 t1 t2 tf
            go_wp2
            go_meet
            exact ⟨b9, _, _, rfl, rfl, rfl, hT, .inr ⟨HOK.out, rfl, rfl, g9, _, _, _, _, _, _, HCQ.out, obT, (((hrm2.imp (G := fun q => Out6 F w.heap.size q ∧ q ≠ b9) (fun q hq hlt => ⟨hq, by omega⟩)).same hA0).stay h7 (fun q hq _ => hq.2)).imp (fun q hq _ => hq.1)⟩⟩
          refine AllReadyH.cons (o := ⟨some 9, _, _, _, _, _⟩) rfl (fun K hK => ?_) AllReadyH.nil
          ·
            rw [if_pos (by kernel_rfl)]
            go_simp
            obtain ⟨wA, hwA⟩ : ∃ x, x = (wc.alloc (.cells #[.slice none 0 0, .slice none 0 0, .int .i64 0] 51)).drew := ⟨_, rfl⟩
            rw [← hwA]
            have hA : Same wc wA := by rw [hwA]; exact Sep.trans (Sep.alloc _ wc _) (Sep.drew _ _)
            have obA : wA.heap[wc.heap.size]? = some (.cells #[.slice none 0 0, .slice none 0 0, .int .i64 0] 51) := by rw [hwA]; exact heap_alloc_new wc _
            obtain ⟨b9, hb9⟩ : ∃ b, b = wc.heap.size := ⟨_, rfl⟩
            have g9 : wc.heap.size ≤ b9 := by omega
            rw [← hb9] at obA ⊢
            clear hwA hb9
            refine hK.out _ _ ?_ (fun hHeld => ?_)
            · exact ⟨Same.cell hA m0, Same.cell hA m1, Same.cell hA m2, Same.cell hA k0, Same.cell hA k1, Same.cell hA x3, Same.cell hA a0, Same.cell hA a1, Same.cell hA a2, Same.cell hA a3⟩
            clear hK K
            try simp only [Act.put, List.setIfInBounds_toArray, List.set_cons_zero, List.set_cons_succ]
            refine wpAnyH_ready (rs := [6]) (by kernel_rfl) (by simp) ?_
            refine AllReadyH.cons (o := ⟨some 50, _, _, _, _, _⟩) rfl (fun K hK => ?_) AllReadyH.nil
            rw [if_pos (by kernel_rfl)]
            go_simp
            refine (rdo_yes (F := fun q => Out6 F w.heap.size q ∧ q ≠ b9) ((hrmc.imp (fun q hq hlt => ⟨hq, by omega⟩)).same (hA)) (fun q hq => by have := Sep.size (hA); have := KGE.out; have := lt_of_block obA; exact ⟨⟨HF.out q (by omega), .inr (by omega)⟩, by omega⟩) ci ce A.op A.at_ A.x A.y HOK.out hcnt hL1 HL2.out).mono ?_
            rintro e wS ⟨v2, rfl, hrm2, hsS⟩
            obtain ⟨cq, hcq⟩ : ∃ n, n = cnt + 1 := ⟨_, rfl⟩
            rw [← hcq] at hrm2
            have HCQ := Lib.hid hcq
            clear hcq
            obtain ⟨wa2, wc2, ea2, ec2, rfl⟩ := hrm2.form
            obtain ⟨mn2, hmn2⟩ : ∃ mn2, mn2 = (doL L ci.toNat A.at_.toNat A.op A.x A.y).length := ⟨_, rfl⟩
            rw [← hmn2] at hrm2 ⊢
            clear hmn2
            have hS : Same wc wS := Sep.trans (hA) hsS
            have obS := Same.obj hsS obA
            refine hK.out _ _ ?_ (fun hHeld => ?_)
            · exact ⟨Same.cell hS m0, Same.cell hS m1, Same.cell hS m2, Same.cell hS k0, Same.cell hS k1, Same.cell hS x3, Same.cell hS a0, Same.cell hS a1, Same.cell hS a2, Same.cell hS a3⟩
            clear hK K
            try simp only [Act.put, List.setIfInBounds_toArray, List.set_cons_zero, List.set_cons_succ]
            refine wpAnyH_take (i := 7) (oi := ⟨some 43, _, _, _, _, _⟩) (v := ?v36) rfl (by kernel_rfl) (by kernel_rfl) (by kernel_rfl) (fun _ _ _ h => h) (Or.inl ⟨by kernel_rfl, ?h36⟩) hHeld ?_
            case h36 => intro w hSw; (try dsimp only at hSw); go_simp; try with_reducible rfl
            try simp only [Act.put, List.setIfInBounds_toArray, List.set_cons_zero, List.set_cons_succ]
            refine wpAnyH_take (i := 8) (oi := ⟨some 51, _, _, _, _, _⟩) (v := ?v37) rfl (by kernel_rfl) (by kernel_rfl) (by kernel_rfl) (fun _ _ _ h => h) (Or.inl ⟨by kernel_rfl, ?h37⟩) hHeld ?_
            case h37 => intro w hSw; (try dsimp only at hSw); go_simp; try with_reducible rfl
            try simp only [Act.put, List.setIfInBounds_toArray, List.set_cons_zero, List.set_cons_succ]
            refine wpAnyH_take (i := 9) (oi := ⟨some 52, _, _, _, _, _⟩) (v := ?v38) rfl (by kernel_rfl) (by kernel_rfl) (by kernel_rfl) (fun _ _ _ h => h) (Or.inl ⟨by kernel_rfl, ?h38⟩) hHeld ?_
            case h38 => intro w hSw; (try dsimp only at hSw); go_simp; try with_reducible rfl
            try simp only [Act.put, List.setIfInBounds_toArray, List.set_cons_zero, List.set_cons_succ]
            refine wpAnyH_take (i := 10) (oi := ⟨some 53, _, _, _, _, _⟩) (v := ?v39) rfl (by kernel_rfl) (by kernel_rfl) (by kernel_rfl) (fun _ _ _ h => h) (Or.inl ⟨by kernel_rfl, ?h39⟩) hHeld ?_
            case h39 => intro w hSw; (try dsimp only at hSw); go_simp; try with_reducible rfl
            try simp only [Act.put, List.setIfInBounds_toArray, List.set_cons_zero, List.set_cons_succ]
            refine wpAnyH_ready (rs := [12]) (by kernel_rfl) (by simp) ?_
            refine AllReadyH.cons (o := ⟨none, _, _, _, _, _⟩) rfl (fun K hK => ?_) AllReadyH.nil
            obtain ⟨t0, t1, t2, tf⟩ := cells3x obS
            rw [if_pos (by kernel_rfl)]
            go_simp
            obtain ⟨wT, hwT⟩ : ∃ x, x = (((wS.setCell ⟨b9, 0, none⟩ (.slice wa2 mn2 wc2)).setCell ⟨b9, 1, none⟩ (.slice ea2 mn2 ec2)).setCell ⟨b9, 2, none⟩ (.int .i64 (cq : Int))) := ⟨_, rfl⟩
            rw [← hwT]
            have h7 : Sep (fun k => k = b9) wS wT := by rw [hwT]; exact sep3 wS b9 (.slice wa2 mn2 wc2) (.slice ea2 mn2 ec2) (.int .i64 (cq : Int))
            have obT : wT.heap[b9]? = some (.cells #[.slice wa2 mn2 wc2, .slice ea2 mn2 ec2, .int .i64 (cq : Int)] 51) := by rw [hwT]; exact heap3 obS rfl
            have hT : Same wc wT := same_then hS g9 h7
            clear hwT
            refine hK.out _ _ ?_ (fun hHeld => ?_)
            · exact ⟨Same.cell hT m0, Same.cell hT m1, Same.cell hT m2, Same.cell hT k0, Same.cell hT k1, Same.cell hT x3, Same.cell hT a0, Same.cell hT a1, Same.cell hT a2, Same.cell hT a3⟩
            clear hK K
            try simp only [Act.put, List.setIfInBounds_toArray, List.set_cons_zero, List.set_cons_succ]
            refine wpAnyH_take (i := 13) (oi := ⟨some 10, _, _, _, _, _⟩) (v := ?v40) rfl (by kernel_rfl) (by kernel_rfl) (by kernel_rfl) (fun _ _ _ h => h) (Or.inl ⟨by kernel_rfl, ?h40⟩) hHeld ?_
            case h40 => intro w hSw; (try dsimp only at hSw); go_simp; try with_reducible rfl
            try simp only [Act.put, List.setIfInBounds_toArray, List.set_cons_zero, List.set_cons_succ]
            refine wpAnyH_take (i := 14) (oi := ⟨some 11, _, _, _, _, _⟩) (v := ?v41) rfl (by kernel_rfl) (by kernel_rfl) (by kernel_rfl) (fun _ _ _ h => h) (Or.inl ⟨by kernel_rfl, ?h41⟩) hHeld ?_
            case h41 => intro w hSw; (try dsimp only at hSw); go_simp; try with_reducible rfl
            try simp only [Act.put, List.setIfInBounds_toArray, List.set_cons_zero, List.set_cons_succ]
            refine wpAnyH_done (by kernel_rfl) ?_ _
            clear hHeld m0 m1 m2 k0 k1 x3 a0 a1 a2 a3 t0 t1 t2 tf
            go_wp2
            go_meet
            exact ⟨b9, _, _, rfl, rfl, rfl, hT, .inr ⟨HOK.out, rfl, rfl, g9, _, _, _, _, _, _, HCQ.out, obT, (hrm2.stay h7 (fun q hq _ => hq.2)).imp (fun q hq _ => hq.1)⟩⟩
      case rest =>
        obtain ⟨b9, was, okb, rfl, rfl, rfl, hSd, hd⟩ := hcut
        have Q3 := Lib.hid (Same.obj hSd P3.out)
        have Q4 := Lib.hid (Same.obj hSd P4.out)
        have Q6 := Lib.hid (Same.obj hSd P6.out)
        have Q7 := Lib.hid (Same.obj hSd P7.out)
        have Q8 := Lib.hid (Same.obj hSd P8.out)
        have HSW := Lib.hid (KS.out.trans hSd)
        have KB2 := Lib.hid (Slc.stay KB.out hSd (fun _ _ _ x => x))
        have KF2 := Lib.hid (Fits.stay hSd (fun _ _ _ x => x) KF.out)
        have KT2 := Lib.hid (Slc.stay KT.out hSd (fun _ _ _ x => x))
        have KL2 := Lib.hid (ArgF.stay (.inl HSLH.out) hSd (fun _ _ _ x => x))
        have KG2 := Lib.hid (Nat.le_trans KGE.out hSd.size)
        have LTB := Lib.hid hLb
        have LT2 : lb < wc.heap.size := Nat.lt_of_lt_of_le hLlt hSd.size
        have NB3 : Hid (¬ (w.heap.size = b6 ∨ w.heap.size = b7 ∨ w.heap.size = b8)) := by have := NB.out; show ¬ _; omega
        have NB4 : Hid (¬ (b4 = b6 ∨ b4 = b7 ∨ b4 = b8)) := by have := NB.out; show ¬ _; omega
        have HSDC := Lib.hid hSd
        obtain ⟨lx, hlx⟩ : ∃ n, n = lc := ⟨_, rfl⟩
        clear x0 x1 x2 x3 x4 xf m0 m1 m2 mf a0 a1 a2 a3 k0 k1 kf hlx lx hLb
        obtain ⟨x0, x1, x2, x3, x4, xf⟩ := cells5 Q3.out
        rw [← HBN'.out] at x1
        rw [← HTN'.out] at x4
        rw [← HLN1.out] at x3
        rcases hd with ⟨hok, rfl⟩ | ⟨hok, rfl, rfl, hb9, wa2, mn2, mc2, ea2, ec2, cq, hcq, hob9, hrm2⟩
        · have HOK := Lib.hid hok
          clear hok HSDC hSd
          go_wp2
          obtain ⟨wR, hwR⟩ : ∃ x, x = wc.setCell ⟨w.heap.size, 2, none⟩ (.bool false) := ⟨_, rfl⟩
          rw [← hwR]
          have sR : Sep (fun k => k = w.heap.size) wc wR := by rw [hwR]; exact sep1 (S := fun k => k = w.heap.size) wc _ 2 _ rfl
          have hsR : Same w wR := sep_chain HSW.out sR (fun k hk h => by omega)
          have o3R : wR.heap[w.heap.size]? = some (.cells #[.int .i64 size, .slice ba B.length bc, .bool false, .slice (some ⟨lb, lf, none⟩) (A :: l).length lc, .slice ta told.length tc] 118) := by
            rw [hwR, heap_set_same Q3.out]; rfl
          obtain ⟨x0, x1, x2, x3, x4, xf⟩ := cells5 o3R
          rw [← HBN'.out] at x1
          rw [← HTN'.out] at x4
          rw [← HLN1.out] at x3
          have q4 := Lib.hid (sR.obj Q4.out (by have := NB.out; omega))
          have q6 := Lib.hid (sR.obj Q6.out (by have := NB.out; omega))
          have q7 := Lib.hid (sR.obj Q7.out (by have := NB.out; omega))
          have q8 := Lib.hid (sR.obj Q8.out (by have := NB.out; omega))
          obtain ⟨m0, m1, m2, mf⟩ := cells3x q4.out
          have SR := Lib.hid sR
          have HSR := Lib.hid hsR
          clear sR hsR hwR o3R
          refine wp_region_held_drew (S := (fun v => v.cell? ⟨w.heap.size, 0, none⟩ = some (.int .i64 size) ∧ v.cell? ⟨w.heap.size, 1, none⟩ = some (.slice ba bn' bc) ∧ v.cell? ⟨w.heap.size, 2, none⟩ = some (.bool false) ∧ v.cell? ⟨w.heap.size, 3, none⟩ = some (.slice (some ⟨lb, lf, none⟩) ln1 lc) ∧ v.cell? ⟨w.heap.size, 4, none⟩ = some (.slice ta tn' tc) ∧ v.cell? ⟨b4, 0, none⟩ = some (.slice wa mn mc) ∧ v.cell? ⟨b4, 1, none⟩ = some (.slice ea mn ec) ∧ v.cell? ⟨b4, 2, none⟩ = some (.int .i64 cnt))) (by kernel_rfl) ?_ (fun hHeld => ?_)
          · exact ⟨(Sep.drew (fun _ => False) wR).cell x0 (fun x => x), (Sep.drew (fun _ => False) wR).cell x1 (fun x => x), (Sep.drew (fun _ => False) wR).cell x2 (fun x => x), (Sep.drew (fun _ => False) wR).cell x3 (fun x => x), (Sep.drew (fun _ => False) wR).cell x4 (fun x => x), (Sep.drew (fun _ => False) wR).cell m0 (fun x => x), (Sep.drew (fun _ => False) wR).cell m1 (fun x => x), (Sep.drew (fun _ => False) wR).cell m2 (fun x => x)⟩
          change wpAnyH _ _ _ _ _ 6 _ _ _
          refine wpAnyH_take (i := 0) (oi := ⟨some 57, _, _, _, _, _⟩) (v := ?v42) rfl (by kernel_rfl) (by kernel_rfl) (by kernel_rfl) (fun _ _ _ h => h) (Or.inl ⟨by kernel_rfl, ?h42⟩) hHeld ?_
          case h42 => intro w hSw; (try dsimp only at hSw); go_simp; try with_reducible rfl
          try simp only [Act.put, List.setIfInBounds_toArray, List.set_cons_zero, List.set_cons_succ]
          refine wpAnyH_take (i := 1) (oi := ⟨some 58, _, _, _, _, _⟩) (v := ?v43) rfl (by kernel_rfl) (by kernel_rfl) (by kernel_rfl) (fun _ _ _ h => h) (Or.inl ⟨by kernel_rfl, ?h43⟩) hHeld ?_
          case h43 => intro w hSw; (try dsimp only at hSw); go_simp; try with_reducible rfl
          try simp only [Act.put, List.setIfInBounds_toArray, List.set_cons_zero, List.set_cons_succ]
          refine wpAnyH_take (i := 2) (oi := ⟨some 59, _, _, _, _, _⟩) (v := ?v44) rfl (by kernel_rfl) (by kernel_rfl) (by kernel_rfl) (fun _ _ _ h => h) (Or.inl ⟨by kernel_rfl, ?h44⟩) hHeld ?_
          case h44 => intro w hSw; (try dsimp only at hSw); go_simp; try with_reducible rfl
          try simp only [Act.put, List.setIfInBounds_toArray, List.set_cons_zero, List.set_cons_succ]
          refine wpAnyH_ready (rs := [3]) (by kernel_rfl) (by simp) ?_
          refine AllReadyH.cons (o := ⟨none, _, _, _, _, _⟩) rfl (fun K hK => ?_) AllReadyH.nil
          obtain ⟨t0, t1, t2, t3, t4, tf⟩ := cells5 q6.out
          rw [if_pos (by kernel_rfl)]
          go_simp
          obtain ⟨wT14, hwT⟩ : ∃ x, x = (((((wR.drew.setCell ⟨b6, 0, none⟩ (.int .i64 size)).setCell ⟨b6, 1, none⟩ (.slice ba bn' bc)).setCell ⟨b6, 2, none⟩ (.bool false)).setCell ⟨b6, 3, none⟩ (.slice (some ⟨lb, lf, none⟩) ln1 lc)).setCell ⟨b6, 4, none⟩ (.slice ta tn' tc)) := ⟨_, rfl⟩
          have hwT2 : wT14 = (((((wR.setCell ⟨b6, 0, none⟩ (.int .i64 size)).setCell ⟨b6, 1, none⟩ (.slice ba bn' bc)).setCell ⟨b6, 2, none⟩ (.bool false)).setCell ⟨b6, 3, none⟩ (.slice (some ⟨lb, lf, none⟩) ln1 lc)).setCell ⟨b6, 4, none⟩ (.slice ta tn' tc)).drew := hwT
          rw [← hwT2]
          clear hwT2
          have h7 : Sep (fun k => k = b6) wR.drew wT14 := by rw [hwT]; exact sep5 wR.drew b6 (.int .i64 size) (.slice ba bn' bc) (.bool false) (.slice (some ⟨lb, lf, none⟩) ln1 lc) (.slice ta tn' tc)
          have ob6_14 : wT14.heap[b6]? = some (.cells #[.int .i64 size, .slice ba bn' bc, .bool false, .slice (some ⟨lb, lf, none⟩) ln1 lc, .slice ta tn' tc] 118) := by rw [hwT, (heap_set_same (heap_set_same (heap_set_same (heap_set_same (heap_set_same (Same.obj (Sep.drew (fun _ => False) wR) q6.out))))))]; rfl
          have ob7_14 := h7.obj (Same.obj (Sep.drew (fun _ => False) wR) q7.out) (show ¬ (b7 = b6) by have := NB.out; omega)
          have ob8_14 := h7.obj (Same.obj (Sep.drew (fun _ => False) wR) q8.out) (show ¬ (b8 = b6) by have := NB.out; omega)
          have hT14 : Sep (fun k => k = b6 ∨ k = b7 ∨ k = b8) wR wT14 := Sep.trans (Sep.drew (fun k => k = b6 ∨ k = b7 ∨ k = b8) wR) (h7.mono fun _ _ e => .inl e)
          clear hwT h7 t0 t1 t2 t3 t4 tf
          refine hK.out _ _ ?_ (fun hHeld => ?_)
          · exact ⟨Sep.cell hT14 x0 NB3.out, Sep.cell hT14 x1 NB3.out, Sep.cell hT14 x2 NB3.out, Sep.cell hT14 x3 NB3.out, Sep.cell hT14 x4 NB3.out, Sep.cell hT14 m0 NB4.out, Sep.cell hT14 m1 NB4.out, Sep.cell hT14 m2 NB4.out⟩
          clear hK K
          try simp only [Act.put, List.setIfInBounds_toArray, List.set_cons_zero, List.set_cons_succ]
          refine wpAnyH_ready (rs := [4]) (by kernel_rfl) (by simp) ?_
          refine AllReadyH.cons (o := ⟨none, _, _, _, _, _⟩) rfl (fun K hK => ?_) AllReadyH.nil
          obtain ⟨t0, t1, t2, tf⟩ := cells3x ob7_14
          rw [if_pos (by kernel_rfl)]
          go_simp
          obtain ⟨wT16, hwT⟩ : ∃ x, x = (((wT14.setCell ⟨b7, 0, none⟩ (.slice wa mn mc)).setCell ⟨b7, 1, none⟩ (.slice ea mn ec)).setCell ⟨b7, 2, none⟩ (.int .i64 cnt)) := ⟨_, rfl⟩
          rw [← hwT]
          have h7 : Sep (fun k => k = b7) wT14 wT16 := by rw [hwT]; exact sep3 wT14 b7 (.slice wa mn mc) (.slice ea mn ec) (.int .i64 cnt)
          have ob6_16 := h7.obj ob6_14 (show ¬ (b6 = b7) by have := NB.out; omega)
          have ob7_16 : wT16.heap[b7]? = some (.cells #[.slice wa mn mc, .slice ea mn ec, .int .i64 cnt] 51) := by rw [hwT, (heap_set_same (heap_set_same (heap_set_same ob7_14)))]; rfl
          have ob8_16 := h7.obj ob8_14 (show ¬ (b8 = b7) by have := NB.out; omega)
          have hT16 : Sep (fun k => k = b6 ∨ k = b7 ∨ k = b8) wR wT16 := Sep.trans hT14 (h7.mono fun _ _ e => .inr (.inl e))
          clear hwT h7 t0 t1 t2 tf
          refine hK.out _ _ ?_ (fun hHeld => ?_)
          · exact ⟨Sep.cell hT16 x0 NB3.out, Sep.cell hT16 x1 NB3.out, Sep.cell hT16 x2 NB3.out, Sep.cell hT16 x3 NB3.out, Sep.cell hT16 x4 NB3.out, Sep.cell hT16 m0 NB4.out, Sep.cell hT16 m1 NB4.out, Sep.cell hT16 m2 NB4.out⟩
          clear hK K
          try simp only [Act.put, List.setIfInBounds_toArray, List.set_cons_zero, List.set_cons_succ]
          refine wpAnyH_ready (rs := [5]) (by kernel_rfl) (by simp) ?_
          refine AllReadyH.cons (o := ⟨none, _, _, _, _, _⟩) rfl (fun K hK => ?_) AllReadyH.nil
          obtain ⟨t0, t1, tf⟩ := cells2 ob8_16
          rw [if_pos (by kernel_rfl)]
          go_simp
          obtain ⟨wT18, hwT⟩ : ∃ x, x = ((wT16.setCell ⟨b8, 0, none⟩ (.int .i64 3)).setCell ⟨b8, 1, none⟩ (.slice none 0 0)) := ⟨_, rfl⟩
          rw [← hwT]
          have h7 : Sep (fun k => k = b8) wT16 wT18 := by rw [hwT]; exact sep2b wT16 b8 (.int .i64 3) (.slice none 0 0)
          have ob6_18 := h7.obj ob6_16 (show ¬ (b6 = b8) by have := NB.out; omega)
          have ob7_18 := h7.obj ob7_16 (show ¬ (b7 = b8) by have := NB.out; omega)
          have ob8_18 : wT18.heap[b8]? = some (.cells #[.int .i64 3, .slice none 0 0] 123) := by rw [hwT, (heap_set_same (heap_set_same ob8_16))]; rfl
          have hT18 : Sep (fun k => k = b6 ∨ k = b7 ∨ k = b8) wR wT18 := Sep.trans hT16 (h7.mono fun _ _ e => .inr (.inr e))
          clear hwT h7 t0 t1 tf
          refine hK.out _ _ ?_ (fun hHeld => ?_)
          · exact ⟨Sep.cell hT18 x0 NB3.out, Sep.cell hT18 x1 NB3.out, Sep.cell hT18 x2 NB3.out, Sep.cell hT18 x3 NB3.out, Sep.cell hT18 x4 NB3.out, Sep.cell hT18 m0 NB4.out, Sep.cell hT18 m1 NB4.out, Sep.cell hT18 m2 NB4.out⟩
          clear hK K
          try simp only [Act.put, List.setIfInBounds_toArray, List.set_cons_zero, List.set_cons_succ]
          refine wpAnyH_done (by kernel_rfl) ?_ _
          clear hHeld x0 x1 x2 x3 x4 m0 m1 m2
          obtain ⟨r0, r1, r2, r3, r4, rf⟩ := cells5 ob6_18
          obtain ⟨s0, s1, s2, sf⟩ := cells3x ob7_18
          obtain ⟨e0, e1, ef⟩ := cells2 ob8_18
          go_wp2
          refine bodyPost_ret (v := .tuple #[.agg #[.int .i64 size, .slice ba bn' bc, .bool false, .slice (some ⟨lb, lf, none⟩) ln1 lc, .slice ta tn' tc], .agg #[.slice wa mn mc, .slice ea mn ec, .int .i64 cnt], .agg #[.int .i64 3, .slice none 0 0]]) (by simp [results, Try.results58, go_sem, r0, r1, r2, r3, r4, s0, s1, s2, e0, e1]) rfl ?_
          have hfin := sep_chain (S := fun _ => False) HSR.out hT18 (fun k hk h => by have := NB.out; omega)
          have hall := (SR.out.mono (S' := fun k => w.heap.size ≤ k ∧ k < w.heap.size + 6) (fun k _ h => by omega)).trans (Sep.mono hT18 (S' := fun k => w.heap.size ≤ k ∧ k < w.heap.size + 6) (fun k _ h => by have := NB.out; omega))
          refine ⟨_, _, _, rfl, hfin, .inr ⟨A, l, rfl, .inl ⟨HOK.out, rfl, ?_, hrm.out.same hfin⟩⟩⟩
          rw [HBN'.out]
          exact rw_idle KB2.out KF2.out hall (fun b h => h)
        · have HOK := Lib.hid hok
          have Q9 := Lib.hid hob9
          have KRM := Lib.hid hrm2
          have HCQ := Lib.hid hcq
          have G9 : Hid (w.heap.size + 6 ≤ b9) := by have := KGE.out; show _ ≤ _; omega
          obtain ⟨was, hwas⟩ : ∃ x, x = peekOf L ci A.at_ := ⟨_, rfl⟩
          rw [← hwas]
          have HWAS := Lib.hid hwas
          have HT0 : Hid (Slc 1 (Out6 F w.heap.size) (wc.alloc (.cells #[] 23)) (.slice ta tn' tc) tn' (wds told)) := by
            rw [HTN'.out]; exact Slc.stay KT2.out (Sep.alloc (fun _ => False) wc _) (fun _ _ _ x => x)
          have own0 : (wc.alloc (.cells #[] 23)).ownsRow wc.heap.size 23 1 (.slice (some ⟨wc.heap.size, 0, none⟩) 0 0) 0 [] := World.ownsRow_made wc #[] 0 (Nat.le_refl _) (by simp) rfl
          have OWN0 := Lib.hid own0
          have htn1 : tn' ≤ 1000 := by rw [HTN'.out]; exact hlt0
          have q4 := fun o => (Sep.alloc (fun _ => False) wc o).cell x4 (fun x => x)
          have WONE : Hid (∀ u ∈ wds told, u.oneCell' = true) := by
            intro u hu
            obtain ⟨y, _, rfl⟩ := List.mem_map.mp hu
            rfl
          have LTW : w.heap.size < wc.heap.size := by have := KG2.out; omega
          clear hok hob9 hrm2 hwas own0 hcq x0 x1 x2 x3 x4 xf HSDC hSd hb9
          go_wp2_with (first | (at_builtin; go_loud (refine app_words (F := Out6 F w.heap.size) rfl (.tmp 60) (.tmp 62) rfl wc.heap.size (.slice (some ⟨wc.heap.size, 0, none⟩) 0 0) 0 [] rfl OWN0.out (.slice ta tn' tc) tn' (wds told) rfl HT0.out WONE.out (by omega) (by simp) ?_)))
          intro v1 w4 o1 gr1
          have s4 : Same wc w4 := grow_same (Sep.alloc _ wc _) gr1 (fun k hk => by simp [Value.ownBlock] at hk; omega)
          obtain ⟨y0, y1, y2, y3, y4, yf⟩ := cells5 (s4.obj Q3.out)
          have own1 : (w4.alloc (.cells #[.int .u64 was] 23)).ownsRow wc.heap.size 23 1 v1 tn' (wds told) := o1.alloc _
          have O1 := Lib.hid own1
          have hsl : Slc 1 (fun _ => True) (w4.alloc (.cells #[.int .u64 was] 23)) (.slice (some ⟨w4.heap.size, 0, none⟩) 1 1) 1 [.int .u64 was] := by
            refine ⟨rfl, .inr ⟨w4.heap.size, 0, 1, rfl, trivial, by simp, Nat.le_refl _, by decide, fun j u hj => ?_⟩⟩
            rw [cell_of_heap (heap_alloc_new _ _), Nat.zero_add, ← hj]
            simp
          have HSL := Lib.hid hsl
          clear y0 y1 y2 y3 y4 yf o1 hsl own1 q4
          have lW4 := s4.size
          obtain ⟨a1, v1c, rfl⟩ : ∃ a c, v1 = .slice a tn' c := by
            obtain ⟨_, ⟨rfl, h0⟩ | ⟨g', cap', cur', rfl, _⟩⟩ := O1.out
            · exact ⟨none, 0, by rw [h0]⟩
            · exact ⟨_, _, rfl⟩
          go_wp2_with (first | (at_builtin; go_loud (refine app_words (F := fun _ => True) rfl (.tmp 63) (.tmp 65) rfl wc.heap.size _ tn' (wds told) rfl O1.out (.slice (some ⟨w4.heap.size, 0, none⟩) 1 1) 1 [.int .u64 was] rfl HSL.out (by simp [Value.oneCell']) (by omega) (by simp; omega) ?_)))
          intro v2 w5 o2 gr2
          have s5 : Same wc w5 := grow_same (s4.trans (Sep.alloc _ _ _)) gr2 (fun k hk => by
            obtain ⟨_, ⟨e, h0⟩ | ⟨g', cap', cur', e, hg, _⟩⟩ := O1.out
            · rw [e] at hk; simp [Value.ownBlock] at hk
            · rw [e] at hk; simp [Value.ownBlock] at hk; omega)
          have sl2 : Slc 1 (fun b => wc.heap.size ≤ b) w5 v2 (tn' + 1) (wds told ++ [.int .u64 was]) := Slc.owned (fun b hb => hb) o2
          obtain ⟨g, cap2, rfl⟩ : ∃ g cap2, v2 = .slice (some ⟨g, 0, none⟩) (tn' + 1) cap2 := by
            obtain ⟨_, ⟨e, h0⟩ | ⟨g', cap', cur', e, _⟩⟩ := o2
            · omega
            · exact ⟨g', cap', e⟩
          have R3 := s5.obj Q3.out
          rw [← HBN'.out, ← HTN'.out, ← HLN1.out] at R3
          have HR3 := Lib.hid R3
          have R4 := Lib.hid (s5.obj Q4.out)
          have R6 := Lib.hid (s5.obj Q6.out)
          have R7 := Lib.hid (s5.obj Q7.out)
          have R8 := Lib.hid (s5.obj Q8.out)
          have R9 := Lib.hid (s5.obj Q9.out)
          have S5 := Lib.hid s5
          have S5W := Lib.hid (HSW.out.trans s5)
          have SL2 := Lib.hid sl2
          have KL5 := Lib.hid (KL2.out.stay s5 (fun _ _ _ x => x))
          obtain ⟨y0, y1, y2, y3, y4, yf⟩ := cells5 R3
          clear R3 s4 s5 sl2 o2 gr2 gr1 O1 OWN0 HSL HT0 lW4
          go_upto_region 16 with fail
          go_cut [9] from 68 (fun s9 wx => s9 = .pointer (some ⟨b9, 0, none⟩) ∧ RTail (Out6 F w.heap.size) w.heap.size size ba bn' bc (.slice (some ⟨g, 0, none⟩) (tn' + 1) cap2) l w5 wx)
          case first =>
            by_cases hc1 : lc = 1
            · subst hc1
              have hle : (A :: l).length ≤ 1 := hLlc
              have hl0 : l = [] := by simpa using hle
              have hln : ln1 = 1 := by rw [HLN1.out, hl0]; rfl
              subst hln
              go_wp2
              go_meet
              obtain ⟨wS, hwS⟩ : ∃ x, x = (w5.setCell ⟨w.heap.size, 4, none⟩ (.slice (some ⟨g, 0, none⟩) (tn' + 1) cap2)).setCell ⟨w.heap.size, 3, none⟩ (.slice (some ⟨lb, lf, none⟩) 0 0) := ⟨_, rfl⟩
              try rw [← hwS]
              have sS : Sep (fun k => k = w.heap.size) w5 wS := by rw [hwS]; exact ((Sep.refl (fun k => k = w.heap.size) w5).thenSet (.inl rfl) _).thenSet (.inl rfl) _
              have o3S : wS.heap[w.heap.size]? = some (.cells #[.int .i64 size, .slice ba bn' bc, .bool true, .slice (some ⟨lb, lf, none⟩) 0 0, .slice (some ⟨g, 0, none⟩) (tn' + 1) cap2] 118) := by
                rw [hwS, heap_set_same (heap_set_same HR3.out)]; rfl
              subst hl0
              exact ⟨rfl, _, _, o3S, sS, .inr ⟨rfl, _, _, rfl⟩⟩
            · have hc2 : (lc == 1) = false := by simpa using hc1
              go_wp2
              go_meet
              obtain ⟨wS, hwS⟩ : ∃ x, x = (w5.setCell ⟨w.heap.size, 4, none⟩ (.slice (some ⟨g, 0, none⟩) (tn' + 1) cap2)).setCell ⟨w.heap.size, 3, none⟩ (.slice (some ⟨lb, lf + 4, none⟩) (ln1 - 1) (lc - 1)) := ⟨_, rfl⟩
              try rw [← hwS]
              have sS : Sep (fun k => k = w.heap.size) w5 wS := by rw [hwS]; exact ((Sep.refl (fun k => k = w.heap.size) w5).thenSet (.inl rfl) _).thenSet (.inl rfl) _
              have o3S : wS.heap[w.heap.size]? = some (.cells #[.int .i64 size, .slice ba bn' bc, .bool true, .slice (some ⟨lb, lf + 4, none⟩) (ln1 - 1) (lc - 1), .slice (some ⟨g, 0, none⟩) (tn' + 1) cap2] 118) := by
                rw [hwS, heap_set_same (heap_set_same HR3.out)]; rfl
              have eln : ln1 - 1 = l.length := by have := HLN1.out; simp at this; omega
              rw [eln] at o3S
              exact ⟨rfl, _, _, o3S, sS, (tail_argF KL5.out hc1).stay sS (fun b hb _ => by have := hb.2; omega)⟩
          case rest =>
            obtain ⟨rfl, la2, lc2, p3, sS, hl2⟩ := hcut
            clear y0 y1 y2 y3 y4 yf
            have SRC : Hid (Sep (fun k => w.heap.size ≤ k ∧ k < w.heap.size + 6) w5 wc) := sS.mono (fun k _ h => by omega)
            have SX5 : Hid (Sep (fun k => w.heap.size ≤ k ∧ k < w.heap.size + 6) _ w5) := Same.sep S5.out _
            have NB9 : Hid (¬ (b9 = b6 ∨ b9 = b7 ∨ b9 = b8)) := by have := NB.out; have := G9.out; show ¬ _; omega
            have N9 : ¬ b9 = w.heap.size := by have := G9.out; omega
            have T4 := Lib.hid (sS.obj R4.out (by have := NB.out; omega))
            have T6 := Lib.hid (sS.obj R6.out (by have := NB.out; omega))
            have T7 := Lib.hid (sS.obj R7.out (by have := NB.out; omega))
            have T8 := Lib.hid (sS.obj R8.out (by have := NB.out; omega))
            have T9 := Lib.hid (sS.obj R9.out N9)
            have SWC : Hid (Same w wc) := sep_chain S5W.out sS (fun k hk h => by omega)
            have P3 := Lib.hid p3
            have HL2 := Lib.hid hl2
            have GE5 : Hid (w.heap.size + 6 ≤ w5.heap.size) := Nat.le_trans KG2.out S5.out.size
            obtain ⟨x0, x1, x2, x3, x4, xf⟩ := cells5 p3
            clear p3 sS hl2
            rcases hcl2 : l with _ | ⟨A2, l2⟩
            · subst hcl2
              rw [List.length_nil] at x3
              go_wp2
              obtain ⟨wR, hwR⟩ : ∃ x, x = wc.setCell ⟨w.heap.size, 2, none⟩ (.bool false) := ⟨_, rfl⟩
              rw [← hwR]
              have sR : Sep (fun k => k = w.heap.size) wc wR := by rw [hwR]; exact sep1 (S := fun k => k = w.heap.size) wc _ 2 _ rfl
              have HSR : Hid (Same w wR) := sep_chain SWC.out sR (fun k hk h => by omega)
              have o3R : wR.heap[w.heap.size]? = some (.cells #[.int .i64 size, .slice ba bn' bc, .bool false, .slice la2 0 lc2, .slice (some ⟨g, 0, none⟩) (tn' + 1) cap2] 118) := by
                rw [hwR, heap_set_same P3.out]; rfl
              clear x0 x1 x2 x3 x4 xf
              obtain ⟨x0, x1, x2, x3, x4, xf⟩ := cells5 o3R
              have q6 := Lib.hid (sR.obj T6.out (by have := NB.out; omega))
              have q7 := Lib.hid (sR.obj T7.out (by have := NB.out; omega))
              have q8 := Lib.hid (sR.obj T8.out (by have := NB.out; omega))
              obtain ⟨m0, m1, m2, mf⟩ := cells3x (sR.obj T9.out N9)
              have SR5 : Hid (Sep (fun k => w.heap.size ≤ k ∧ k < w.heap.size + 6) w5 wR) := SRC.out.trans (sR.mono (fun k _ h => by omega))
              clear sR hwR o3R
              refine wp_region_held_drew (S := (fun v => v.cell? ⟨w.heap.size, 0, none⟩ = some (.int .i64 size) ∧ v.cell? ⟨w.heap.size, 1, none⟩ = some (.slice ba bn' bc) ∧ v.cell? ⟨w.heap.size, 2, none⟩ = some (.bool false) ∧ v.cell? ⟨w.heap.size, 3, none⟩ = some (.slice la2 0 lc2) ∧ v.cell? ⟨w.heap.size, 4, none⟩ = some (.slice (some ⟨g, 0, none⟩) (tn' + 1) cap2) ∧ v.cell? ⟨b9, 0, none⟩ = some (.slice wa2 mn2 mc2) ∧ v.cell? ⟨b9, 1, none⟩ = some (.slice ea2 mn2 ec2) ∧ v.cell? ⟨b9, 2, none⟩ = some (.int .i64 (cq : Int)))) (by kernel_rfl) ?_ (fun hHeld => ?_)
              · exact ⟨(Sep.drew (fun _ => False) wR).cell x0 (fun x => x), (Sep.drew (fun _ => False) wR).cell x1 (fun x => x), (Sep.drew (fun _ => False) wR).cell x2 (fun x => x), (Sep.drew (fun _ => False) wR).cell x3 (fun x => x), (Sep.drew (fun _ => False) wR).cell x4 (fun x => x), (Sep.drew (fun _ => False) wR).cell m0 (fun x => x), (Sep.drew (fun _ => False) wR).cell m1 (fun x => x), (Sep.drew (fun _ => False) wR).cell m2 (fun x => x)⟩
              change wpAnyH _ _ _ _ _ 8 _ _ _
              refine wpAnyH_take (i := 0) (oi := ⟨some 77, _, _, _, _, _⟩) (v := ?v45) rfl (by kernel_rfl) (by kernel_rfl) (by kernel_rfl) (fun _ _ _ h => h) (Or.inl ⟨by kernel_rfl, ?h45⟩) hHeld ?_
              case h45 => intro w hSw; (try dsimp only at hSw); go_simp; try with_reducible rfl
              try simp only [Act.put, List.setIfInBounds_toArray, List.set_cons_zero, List.set_cons_succ]
              refine wpAnyH_take (i := 1) (oi := ⟨some 78, _, _, _, _, _⟩) (v := ?v46) rfl (by kernel_rfl) (by kernel_rfl) (by kernel_rfl) (fun _ _ _ h => h) (Or.inl ⟨by kernel_rfl, ?h46⟩) hHeld ?_
              case h46 => intro w hSw; (try dsimp only at hSw); go_simp; try with_reducible rfl
              try simp only [Act.put, List.setIfInBounds_toArray, List.set_cons_zero, List.set_cons_succ]
              refine wpAnyH_take (i := 2) (oi := ⟨some 79, _, _, _, _, _⟩) (v := ?v47) rfl (by kernel_rfl) (by kernel_rfl) (by kernel_rfl) (fun _ _ _ h => h) (Or.inl ⟨by kernel_rfl, ?h47⟩) hHeld ?_
              case h47 => intro w hSw; (try dsimp only at hSw); go_simp; try with_reducible rfl
              try simp only [Act.put, List.setIfInBounds_toArray, List.set_cons_zero, List.set_cons_succ]
              refine wpAnyH_take (i := 3) (oi := ⟨some 80, _, _, _, _, _⟩) (v := ?v48) rfl (by kernel_rfl) (by kernel_rfl) (by kernel_rfl) (fun _ _ _ h => h) (Or.inl ⟨by kernel_rfl, ?h48⟩) hHeld ?_
              case h48 => intro w hSw; (try dsimp only at hSw); go_simp; try with_reducible rfl
              try simp only [Act.put, List.setIfInBounds_toArray, List.set_cons_zero, List.set_cons_succ]
              refine wpAnyH_take (i := 4) (oi := ⟨some 81, _, _, _, _, _⟩) (v := ?v49) rfl (by kernel_rfl) (by kernel_rfl) (by kernel_rfl) (fun _ _ _ h => h) (Or.inl ⟨by kernel_rfl, ?h49⟩) hHeld ?_
              case h49 => intro w hSw; (try dsimp only at hSw); go_simp; try with_reducible rfl
              try simp only [Act.put, List.setIfInBounds_toArray, List.set_cons_zero, List.set_cons_succ]
              refine wpAnyH_ready (rs := [5]) (by kernel_rfl) (by simp) ?_
              refine AllReadyH.cons (o := ⟨none, _, _, _, _, _⟩) rfl (fun K hK => ?_) AllReadyH.nil
              obtain ⟨t0, t1, t2, t3, t4, tf⟩ := cells5 q6.out
              rw [if_pos (by kernel_rfl)]
              go_simp
              obtain ⟨wT24, hwT⟩ : ∃ x, x = (((((wR.drew.setCell ⟨b6, 0, none⟩ (.int .i64 size)).setCell ⟨b6, 1, none⟩ (.slice ba bn' bc)).setCell ⟨b6, 2, none⟩ (.bool false)).setCell ⟨b6, 3, none⟩ (.slice la2 0 lc2)).setCell ⟨b6, 4, none⟩ (.slice (some ⟨g, 0, none⟩) (tn' + 1) cap2)) := ⟨_, rfl⟩
              have hwT2 : wT24 = (((((wR.setCell ⟨b6, 0, none⟩ (.int .i64 size)).setCell ⟨b6, 1, none⟩ (.slice ba bn' bc)).setCell ⟨b6, 2, none⟩ (.bool false)).setCell ⟨b6, 3, none⟩ (.slice la2 0 lc2)).setCell ⟨b6, 4, none⟩ (.slice (some ⟨g, 0, none⟩) (tn' + 1) cap2)).drew := hwT
              rw [← hwT2]
              clear hwT2
              have h7 : Sep (fun k => k = b6) wR.drew wT24 := by rw [hwT]; exact sep5 wR.drew b6 (.int .i64 size) (.slice ba bn' bc) (.bool false) (.slice la2 0 lc2) (.slice (some ⟨g, 0, none⟩) (tn' + 1) cap2)
              have ob6_24 : wT24.heap[b6]? = some (.cells #[.int .i64 size, .slice ba bn' bc, .bool false, .slice la2 0 lc2, .slice (some ⟨g, 0, none⟩) (tn' + 1) cap2] 118) := by rw [hwT, (heap_set_same (heap_set_same (heap_set_same (heap_set_same (heap_set_same (Same.obj (Sep.drew (fun _ => False) wR) q6.out))))))]; rfl
              have ob7_24 := h7.obj (Same.obj (Sep.drew (fun _ => False) wR) q7.out) (show ¬ (b7 = b6) by have := NB.out; omega)
              have ob8_24 := h7.obj (Same.obj (Sep.drew (fun _ => False) wR) q8.out) (show ¬ (b8 = b6) by have := NB.out; omega)
              have hT24 : Sep (fun k => k = b6 ∨ k = b7 ∨ k = b8) wR wT24 := Sep.trans (Sep.drew (fun k => k = b6 ∨ k = b7 ∨ k = b8) wR) (h7.mono fun _ _ e => .inl e)
              clear hwT h7 t0 t1 t2 t3 t4 tf
              refine hK.out _ _ ?_ (fun hHeld => ?_)
              · exact ⟨Sep.cell hT24 x0 NB3.out, Sep.cell hT24 x1 NB3.out, Sep.cell hT24 x2 NB3.out, Sep.cell hT24 x3 NB3.out, Sep.cell hT24 x4 NB3.out, Sep.cell hT24 m0 NB9.out, Sep.cell hT24 m1 NB9.out, Sep.cell hT24 m2 NB9.out⟩
              clear hK K
              try simp only [Act.put, List.setIfInBounds_toArray, List.set_cons_zero, List.set_cons_succ]
              refine wpAnyH_ready (rs := [6]) (by kernel_rfl) (by simp) ?_
              refine AllReadyH.cons (o := ⟨none, _, _, _, _, _⟩) rfl (fun K hK => ?_) AllReadyH.nil
              obtain ⟨t0, t1, t2, tf⟩ := cells3x ob7_24
              rw [if_pos (by kernel_rfl)]
              go_simp
              obtain ⟨wT26, hwT⟩ : ∃ x, x = (((wT24.setCell ⟨b7, 0, none⟩ (.slice wa2 mn2 mc2)).setCell ⟨b7, 1, none⟩ (.slice ea2 mn2 ec2)).setCell ⟨b7, 2, none⟩ (.int .i64 (cq : Int))) := ⟨_, rfl⟩
              rw [← hwT]
              have h7 : Sep (fun k => k = b7) wT24 wT26 := by rw [hwT]; exact sep3 wT24 b7 (.slice wa2 mn2 mc2) (.slice ea2 mn2 ec2) (.int .i64 (cq : Int))
              have ob6_26 := h7.obj ob6_24 (show ¬ (b6 = b7) by have := NB.out; omega)
              have ob7_26 : wT26.heap[b7]? = some (.cells #[.slice wa2 mn2 mc2, .slice ea2 mn2 ec2, .int .i64 (cq : Int)] 51) := by rw [hwT, (heap_set_same (heap_set_same (heap_set_same ob7_24)))]; rfl
              have ob8_26 := h7.obj ob8_24 (show ¬ (b8 = b7) by have := NB.out; omega)
              have hT26 : Sep (fun k => k = b6 ∨ k = b7 ∨ k = b8) wR wT26 := Sep.trans hT24 (h7.mono fun _ _ e => .inr (.inl e))
              clear hwT h7 t0 t1 t2 tf
              refine hK.out _ _ ?_ (fun hHeld => ?_)
              · exact ⟨Sep.cell hT26 x0 NB3.out, Sep.cell hT26 x1 NB3.out, Sep.cell hT26 x2 NB3.out, Sep.cell hT26 x3 NB3.out, Sep.cell hT26 x4 NB3.out, Sep.cell hT26 m0 NB9.out, Sep.cell hT26 m1 NB9.out, Sep.cell hT26 m2 NB9.out⟩
              clear hK K
              try simp only [Act.put, List.setIfInBounds_toArray, List.set_cons_zero, List.set_cons_succ]
              refine wpAnyH_ready (rs := [7]) (by kernel_rfl) (by simp) ?_
              refine AllReadyH.cons (o := ⟨none, _, _, _, _, _⟩) rfl (fun K hK => ?_) AllReadyH.nil
              obtain ⟨t0, t1, tf⟩ := cells2 ob8_26
              rw [if_pos (by kernel_rfl)]
              go_simp
              obtain ⟨wT28, hwT⟩ : ∃ x, x = ((wT26.setCell ⟨b8, 0, none⟩ (.int .i64 2)).setCell ⟨b8, 1, none⟩ (.slice (some ⟨g, 0, none⟩) (tn' + 1) cap2)) := ⟨_, rfl⟩
              rw [← hwT]
              have h7 : Sep (fun k => k = b8) wT26 wT28 := by rw [hwT]; exact sep2b wT26 b8 (.int .i64 2) (.slice (some ⟨g, 0, none⟩) (tn' + 1) cap2)
              have ob6_28 := h7.obj ob6_26 (show ¬ (b6 = b8) by have := NB.out; omega)
              have ob7_28 := h7.obj ob7_26 (show ¬ (b7 = b8) by have := NB.out; omega)
              have ob8_28 : wT28.heap[b8]? = some (.cells #[.int .i64 2, .slice (some ⟨g, 0, none⟩) (tn' + 1) cap2] 123) := by rw [hwT, (heap_set_same (heap_set_same ob8_26))]; rfl
              have hT28 : Sep (fun k => k = b6 ∨ k = b7 ∨ k = b8) wR wT28 := Sep.trans hT26 (h7.mono fun _ _ e => .inr (.inr e))
              clear hwT h7 t0 t1 tf
              refine hK.out _ _ ?_ (fun hHeld => ?_)
              · exact ⟨Sep.cell hT28 x0 NB3.out, Sep.cell hT28 x1 NB3.out, Sep.cell hT28 x2 NB3.out, Sep.cell hT28 x3 NB3.out, Sep.cell hT28 x4 NB3.out, Sep.cell hT28 m0 NB9.out, Sep.cell hT28 m1 NB9.out, Sep.cell hT28 m2 NB9.out⟩
              clear hK K
              try simp only [Act.put, List.setIfInBounds_toArray, List.set_cons_zero, List.set_cons_succ]
              refine wpAnyH_done (by kernel_rfl) ?_ _
              clear hHeld x0 x1 x2 x3 x4 m0 m1 m2
              obtain ⟨r0, r1, r2, r3, r4, rf⟩ := cells5 ob6_28
              obtain ⟨s0, s1, s2, sf⟩ := cells3x ob7_28
              obtain ⟨e0, e1, ef⟩ := cells2 ob8_28
              go_wp2
              refine bodyPost_ret (v := .tuple #[.agg #[.int .i64 size, .slice ba bn' bc, .bool false, .slice la2 0 lc2, .slice (some ⟨g, 0, none⟩) (tn' + 1) cap2], .agg #[.slice wa2 mn2 mc2, .slice ea2 mn2 ec2, .int .i64 (cq : Int)], .agg #[.int .i64 2, .slice (some ⟨g, 0, none⟩) (tn' + 1) cap2]]) (by simp [results, Try.results58, go_sem, r0, r1, r2, r3, r4, s0, s1, s2, e0, e1]) rfl ?_
              have hfin := sep_chain (S := fun _ => False) HSR.out hT28 (fun k hk h => by have := NB.out; omega)
              have hal5 := SR5.out.trans (Sep.mono hT28 (S' := fun k => w.heap.size ≤ k ∧ k < w.heap.size + 6) (fun k _ h => by have := NB.out; omega))
              have hall := SX5.out.trans hal5
              have hrmz := (KRM.out.stay hall (fun b hb _ h => by have := hb.2; omega)).imp (G := F) (fun b hb _ => hb.1)
              have htz := slcu_add (Slc.imp (G := F) (Slc.stay SL2.out hal5 (fun b hb _ h => by have := KG2.out; omega)) (fun b hb _ => HF.out b (by have := KG2.out; omega))) HTN'.out HWAS.out
              refine ⟨_, _, _, rfl, hfin, .inr ⟨A, [], rfl, .inr ⟨HOK.out, by rw [← HCQ.out]; exact hrmz, .inl ⟨rfl, some ⟨g, 0, none⟩, cap2, by rw [HTN'.out]; rfl, htz, ?_⟩⟩⟩⟩
              rw [HBN'.out]
              exact rw_idle KB2.out KF2.out hall (fun b h => h)
            · subst hcl2
              obtain ⟨ln2, hln2⟩ : ∃ n, n = (A2 :: l2).length := ⟨_, rfl⟩
              rw [← hln2] at x3
              have hln20 : ((ln2 : Int) == 0) = false := beq_false_of_ne (by simp at hln2; omega)
              have HLN2 := Lib.hid hln2
              have q6 := T6
              have q7 := T7
              have q8 := T8
              obtain ⟨m0, m1, m2, mf⟩ := cells3x T9.out
              have SR5 := SRC
              have HSR := SWC
              clear hln2
              go_wp2
              refine wp_region_held_drew (S := (fun v => v.cell? ⟨w.heap.size, 0, none⟩ = some (.int .i64 size) ∧ v.cell? ⟨w.heap.size, 1, none⟩ = some (.slice ba bn' bc) ∧ v.cell? ⟨w.heap.size, 2, none⟩ = some (.bool true) ∧ v.cell? ⟨w.heap.size, 3, none⟩ = some (.slice la2 ln2 lc2) ∧ v.cell? ⟨w.heap.size, 4, none⟩ = some (.slice (some ⟨g, 0, none⟩) (tn' + 1) cap2) ∧ v.cell? ⟨b9, 0, none⟩ = some (.slice wa2 mn2 mc2) ∧ v.cell? ⟨b9, 1, none⟩ = some (.slice ea2 mn2 ec2) ∧ v.cell? ⟨b9, 2, none⟩ = some (.int .i64 (cq : Int)))) (by kernel_rfl) ?_ (fun hHeld => ?_)
              · exact ⟨(Sep.drew (fun _ => False) wc).cell x0 (fun x => x), (Sep.drew (fun _ => False) wc).cell x1 (fun x => x), (Sep.drew (fun _ => False) wc).cell x2 (fun x => x), (Sep.drew (fun _ => False) wc).cell x3 (fun x => x), (Sep.drew (fun _ => False) wc).cell x4 (fun x => x), (Sep.drew (fun _ => False) wc).cell m0 (fun x => x), (Sep.drew (fun _ => False) wc).cell m1 (fun x => x), (Sep.drew (fun _ => False) wc).cell m2 (fun x => x)⟩
              change wpAnyH _ _ _ _ _ 6 _ _ _
              refine wpAnyH_take (i := 0) (oi := ⟨some 82, _, _, _, _, _⟩) (v := ?v50) rfl (by kernel_rfl) (by kernel_rfl) (by kernel_rfl) (fun _ _ _ h => h) (Or.inl ⟨by kernel_rfl, ?h50⟩) hHeld ?_
              case h50 => intro w hSw; (try dsimp only at hSw); go_simp; try with_reducible rfl
              try simp only [Act.put, List.setIfInBounds_toArray, List.set_cons_zero, List.set_cons_succ]
              refine wpAnyH_take (i := 1) (oi := ⟨some 83, _, _, _, _, _⟩) (v := ?v51) rfl (by kernel_rfl) (by kernel_rfl) (by kernel_rfl) (fun _ _ _ h => h) (Or.inl ⟨by kernel_rfl, ?h51⟩) hHeld ?_
              case h51 => intro w hSw; (try dsimp only at hSw); go_simp; try with_reducible rfl
              try simp only [Act.put, List.setIfInBounds_toArray, List.set_cons_zero, List.set_cons_succ]
              refine wpAnyH_take (i := 2) (oi := ⟨some 84, _, _, _, _, _⟩) (v := ?v52) rfl (by kernel_rfl) (by kernel_rfl) (by kernel_rfl) (fun _ _ _ h => h) (Or.inl ⟨by kernel_rfl, ?h52⟩) hHeld ?_
              case h52 => intro w hSw; (try dsimp only at hSw); go_simp; try with_reducible rfl
              try simp only [Act.put, List.setIfInBounds_toArray, List.set_cons_zero, List.set_cons_succ]
              refine wpAnyH_ready (rs := [3]) (by kernel_rfl) (by simp) ?_
              refine AllReadyH.cons (o := ⟨none, _, _, _, _, _⟩) rfl (fun K hK => ?_) AllReadyH.nil
              obtain ⟨t0, t1, t2, t3, t4, tf⟩ := cells5 q6.out
              rw [if_pos (by kernel_rfl)]
              go_simp
              obtain ⟨wT32, hwT⟩ : ∃ x, x = (((((wc.drew.setCell ⟨b6, 0, none⟩ (.int .i64 size)).setCell ⟨b6, 1, none⟩ (.slice ba bn' bc)).setCell ⟨b6, 2, none⟩ (.bool true)).setCell ⟨b6, 3, none⟩ (.slice la2 ln2 lc2)).setCell ⟨b6, 4, none⟩ (.slice (some ⟨g, 0, none⟩) (tn' + 1) cap2)) := ⟨_, rfl⟩
              have hwT2 : wT32 = (((((wc.setCell ⟨b6, 0, none⟩ (.int .i64 size)).setCell ⟨b6, 1, none⟩ (.slice ba bn' bc)).setCell ⟨b6, 2, none⟩ (.bool true)).setCell ⟨b6, 3, none⟩ (.slice la2 ln2 lc2)).setCell ⟨b6, 4, none⟩ (.slice (some ⟨g, 0, none⟩) (tn' + 1) cap2)).drew := hwT
              rw [← hwT2]
              clear hwT2
              have h7 : Sep (fun k => k = b6) wc.drew wT32 := by rw [hwT]; exact sep5 wc.drew b6 (.int .i64 size) (.slice ba bn' bc) (.bool true) (.slice la2 ln2 lc2) (.slice (some ⟨g, 0, none⟩) (tn' + 1) cap2)
              have ob6_32 : wT32.heap[b6]? = some (.cells #[.int .i64 size, .slice ba bn' bc, .bool true, .slice la2 ln2 lc2, .slice (some ⟨g, 0, none⟩) (tn' + 1) cap2] 118) := by rw [hwT, (heap_set_same (heap_set_same (heap_set_same (heap_set_same (heap_set_same (Same.obj (Sep.drew (fun _ => False) wc) q6.out))))))]; rfl
              have ob7_32 := h7.obj (Same.obj (Sep.drew (fun _ => False) wc) q7.out) (show ¬ (b7 = b6) by have := NB.out; omega)
              have ob8_32 := h7.obj (Same.obj (Sep.drew (fun _ => False) wc) q8.out) (show ¬ (b8 = b6) by have := NB.out; omega)
              have hT32 : Sep (fun k => k = b6 ∨ k = b7 ∨ k = b8) wc wT32 := Sep.trans (Sep.drew (fun k => k = b6 ∨ k = b7 ∨ k = b8) wc) (h7.mono fun _ _ e => .inl e)
              clear hwT h7 t0 t1 t2 t3 t4 tf
              refine hK.out _ _ ?_ (fun hHeld => ?_)
              · exact ⟨Sep.cell hT32 x0 NB3.out, Sep.cell hT32 x1 NB3.out, Sep.cell hT32 x2 NB3.out, Sep.cell hT32 x3 NB3.out, Sep.cell hT32 x4 NB3.out, Sep.cell hT32 m0 NB9.out, Sep.cell hT32 m1 NB9.out, Sep.cell hT32 m2 NB9.out⟩
              clear hK K
              try simp only [Act.put, List.setIfInBounds_toArray, List.set_cons_zero, List.set_cons_succ]
              refine wpAnyH_ready (rs := [4]) (by kernel_rfl) (by simp) ?_
              refine AllReadyH.cons (o := ⟨none, _, _, _, _, _⟩) rfl (fun K hK => ?_) AllReadyH.nil
              obtain ⟨t0, t1, t2, tf⟩ := cells3x ob7_32
              rw [if_pos (by kernel_rfl)]
              go_simp
              obtain ⟨wT34, hwT⟩ : ∃ x, x = (((wT32.setCell ⟨b7, 0, none⟩ (.slice wa2 mn2 mc2)).setCell ⟨b7, 1, none⟩ (.slice ea2 mn2 ec2)).setCell ⟨b7, 2, none⟩ (.int .i64 (cq : Int))) := ⟨_, rfl⟩
              rw [← hwT]
              have h7 : Sep (fun k => k = b7) wT32 wT34 := by rw [hwT]; exact sep3 wT32 b7 (.slice wa2 mn2 mc2) (.slice ea2 mn2 ec2) (.int .i64 (cq : Int))
              have ob6_34 := h7.obj ob6_32 (show ¬ (b6 = b7) by have := NB.out; omega)
              have ob7_34 : wT34.heap[b7]? = some (.cells #[.slice wa2 mn2 mc2, .slice ea2 mn2 ec2, .int .i64 (cq : Int)] 51) := by rw [hwT, (heap_set_same (heap_set_same (heap_set_same ob7_32)))]; rfl
              have ob8_34 := h7.obj ob8_32 (show ¬ (b8 = b7) by have := NB.out; omega)
              have hT34 : Sep (fun k => k = b6 ∨ k = b7 ∨ k = b8) wc wT34 := Sep.trans hT32 (h7.mono fun _ _ e => .inr (.inl e))
              clear hwT h7 t0 t1 t2 tf
              refine hK.out _ _ ?_ (fun hHeld => ?_)
              · exact ⟨Sep.cell hT34 x0 NB3.out, Sep.cell hT34 x1 NB3.out, Sep.cell hT34 x2 NB3.out, Sep.cell hT34 x3 NB3.out, Sep.cell hT34 x4 NB3.out, Sep.cell hT34 m0 NB9.out, Sep.cell hT34 m1 NB9.out, Sep.cell hT34 m2 NB9.out⟩
              clear hK K
              try simp only [Act.put, List.setIfInBounds_toArray, List.set_cons_zero, List.set_cons_succ]
              refine wpAnyH_ready (rs := [5]) (by kernel_rfl) (by simp) ?_
              refine AllReadyH.cons (o := ⟨none, _, _, _, _, _⟩) rfl (fun K hK => ?_) AllReadyH.nil
              obtain ⟨t0, t1, tf⟩ := cells2 ob8_34
              rw [if_pos (by kernel_rfl)]
              go_simp
              obtain ⟨wT36, hwT⟩ : ∃ x, x = ((wT34.setCell ⟨b8, 0, none⟩ (.int .i64 1)).setCell ⟨b8, 1, none⟩ (.slice none 0 0)) := ⟨_, rfl⟩
              rw [← hwT]
              have h7 : Sep (fun k => k = b8) wT34 wT36 := by rw [hwT]; exact sep2b wT34 b8 (.int .i64 1) (.slice none 0 0)
              have ob6_36 := h7.obj ob6_34 (show ¬ (b6 = b8) by have := NB.out; omega)
              have ob7_36 := h7.obj ob7_34 (show ¬ (b7 = b8) by have := NB.out; omega)
              have ob8_36 : wT36.heap[b8]? = some (.cells #[.int .i64 1, .slice none 0 0] 123) := by rw [hwT, (heap_set_same (heap_set_same ob8_34))]; rfl
              have hT36 : Sep (fun k => k = b6 ∨ k = b7 ∨ k = b8) wc wT36 := Sep.trans hT34 (h7.mono fun _ _ e => .inr (.inr e))
              clear hwT h7 t0 t1 tf
              refine hK.out _ _ ?_ (fun hHeld => ?_)
              · exact ⟨Sep.cell hT36 x0 NB3.out, Sep.cell hT36 x1 NB3.out, Sep.cell hT36 x2 NB3.out, Sep.cell hT36 x3 NB3.out, Sep.cell hT36 x4 NB3.out, Sep.cell hT36 m0 NB9.out, Sep.cell hT36 m1 NB9.out, Sep.cell hT36 m2 NB9.out⟩
              clear hK K
              try simp only [Act.put, List.setIfInBounds_toArray, List.set_cons_zero, List.set_cons_succ]
              refine wpAnyH_done (by kernel_rfl) ?_ _
              clear hHeld x0 x1 x2 x3 x4 m0 m1 m2
              obtain ⟨r0, r1, r2, r3, r4, rf⟩ := cells5 ob6_36
              obtain ⟨s0, s1, s2, sf⟩ := cells3x ob7_36
              obtain ⟨e0, e1, ef⟩ := cells2 ob8_36
              go_wp2
              refine bodyPost_ret (v := .tuple #[.agg #[.int .i64 size, .slice ba bn' bc, .bool true, .slice la2 ln2 lc2, .slice (some ⟨g, 0, none⟩) (tn' + 1) cap2], .agg #[.slice wa2 mn2 mc2, .slice ea2 mn2 ec2, .int .i64 (cq : Int)], .agg #[.int .i64 1, .slice none 0 0]]) (by simp [results, Try.results58, go_sem, r0, r1, r2, r3, r4, s0, s1, s2, e0, e1]) rfl ?_
              have hfin := sep_chain (S := fun _ => False) HSR.out hT36 (fun k hk h => by have := NB.out; omega)
              have hal5 := SR5.out.trans (Sep.mono hT36 (S' := fun k => w.heap.size ≤ k ∧ k < w.heap.size + 6) (fun k _ h => by have := NB.out; omega))
              have hall := SX5.out.trans hal5
              have hrmz := (KRM.out.stay hall (fun b hb _ h => by have := hb.2; omega)).imp (G := F) (fun b hb _ => hb.1)
              have htz := slcu_add (Slc.imp (G := F) (Slc.stay SL2.out hal5 (fun b hb _ h => by have := KG2.out; omega)) (fun b hb _ => HF.out b (by have := KG2.out; omega))) HTN'.out HWAS.out
              refine ⟨_, _, _, rfl, hfin, .inr ⟨A, A2 :: l2, rfl, .inr ⟨HOK.out, by rw [← HCQ.out]; exact hrmz, .inr ⟨by simp, rfl, ?_⟩⟩⟩⟩
              rw [HBN'.out, HLN2.out, HTN'.out]
              exact rw_busy KB2.out KF2.out hall (fun b h => h) ((HL2.out.stay (Sep.mono hT36 (S' := fun k => w.heap.size ≤ k ∧ k < w.heap.size + 6) (fun k _ h => by have := NB.out; omega)) (fun b hb _ h => by have := hb.2; omega)).imp (fun b hb _ => hb.1)) htz
end
end Go.Proofs.Ytiljledgoflogaa

