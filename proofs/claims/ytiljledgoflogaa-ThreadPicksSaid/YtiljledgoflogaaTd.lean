/- The worker's Pick where nothing waits, and where an empty list comes up. -/
import Derived.Test.YtiljledgoflogaaTc
namespace Go.Proofs.Ytiljledgoflogaa
open Go.RowKit
set_option linter.unusedSimpArgs false
set_option linter.unusedVariables false

/-- The two blocks of Pick: the capability, the event. -/
theorem two_k (w : World) (ci ce : Value) : ∃ W, W = (w.alloc (.cells #[ci, ce] 33)).alloc (.cells #[.int .i64 0, .slice none 0 0] 107) ∧
    Same w W ∧ W.heap.size = w.heap.size + 2 ∧ W.heap[w.heap.size]? = some (.cells #[ci, ce] 33) ∧ W.heap[w.heap.size + 1]? = some (.cells #[.int .i64 0, .slice none 0 0] 107) := by
  refine ⟨_, rfl, (Sep.alloc _ _ _).thenAlloc _, by simp, ?_, ?_⟩
  · rw [Below.heap_alloc _ _ _ (by simp)]; exact heap_alloc_new _ _
  · have e : (w.alloc (.cells #[ci, ce] 33)).heap.size = w.heap.size + 1 := by simp
    rw [← e]; exact heap_alloc_new _ _
theorem cells2' {w : World} {b : Nat} {x0 x1 : Value} {T : TypeId} (h : w.heap[b]? = some (.cells #[x0, x1] T)) :
    w.cell? ⟨b, 0, none⟩ = some x0 ∧ w.cell? ⟨b, 1, none⟩ = some x1 ∧ (∀ j, w.frozen? ⟨b, j, none⟩ = false) := by
  refine ⟨?_, ?_, fun j => free_of_heap h⟩ <;> (rw [cell_of_heap h]; rfl)
theorem Fits.nil {F : Nat → Prop} {w : World} {vs : List Value} (h : Fits F w vs []) : vs = [] := by
  cases vs with
  | nil => rfl
  | cons _ _ => exact h.elim
theorem Fits.cons {F : Nat → Prop} {w : World} {vs : List Value} {l : List Acc} {B : List (List Acc)} (h : Fits F w vs (l :: B)) : ∃ a cp vs', vs = .slice a l.length cp :: vs' ∧ ArgF F w (.slice a l.length cp) l ∧ Fits F w vs' B := by
  cases vs with
  | nil => exact h.elim
  | cons v vs =>
    obtain ⟨a, cp, rfl⟩ := h.1.form
    exact ⟨a, cp, vs, rfl, h.1, h.2⟩
/-- What is written behind the old blocks turns nothing old. -/
theorem sep_new {S : Nat → Prop} {w w1 w2 : World} {b : Nat} (h : Sep S w w1) (hb : w.heap.size ≤ b) (h2 : Sep (fun k => k = b) w1 w2) : Sep S w w2 :=
  ⟨h2.os.trans h.os, h2.tape.trans h.tape, h2.output.trans h.output, Nat.le_trans h.size h2.size, fun k hk hn => (h2.block k (Nat.lt_of_lt_of_le hk h.size) (fun e => by omega)).trans (h.block k hk hn)⟩

section
variable {F : Nat → Prop} {w : World} {wp mp bp c cap : Nat}

set_option maxRecDepth 100000 in
theorem pick_idle (h : Wk F w wp mp bp c cap ⟨[], none⟩) (ci ce : Int) : Calls Try.prog 54 #[.pointer (some ⟨wp, 0, none⟩), .agg #[.int .i64 ci, .int .u64 ce]] w fun e w' => e = .returned (evt 0 (.slice none 0 0)) ∧ Same w w' := by
  obtain ⟨vs, x0, x1, x2, x3, x4, x5, x6, a, b, d, e⟩ := h
  obtain rfl := d.nil
  obtain ⟨W, hW, hs0, hsz, h0, h1⟩ := two_k w (.int .i64 ci) (.int .u64 ce)
  have a1 := hs0.obj a
  unfold wcells at a1
  subst hW
  obtain ⟨c0, c1, c2, c3, c4, c5, c6, c7, c8, c9, c10, cf⟩ := cells11 a1
  obtain ⟨e0, e1, ef⟩ := cells2' h1
  have B := Lib.hid (b.stay hs0 (fun x => x) (fun x => x))
  clear a a1 b d e c2 c4 c5 c6 c7 c8 c9 c10 cf hsz h0 h1
  go_enter Try.func54, Try.ntmps54
  go_wp2_with fail
  refine (takeA_none B.out).mono ?_
  rintro e w1 ⟨rfl, rfl⟩
  go_wp2
  refine bodyPost_ret (v := evt 0 (.slice none 0 0)) (by simp [results, Try.results54, go_sem, evt, e0, e1, ef]) rfl ?_
  exact ⟨rfl, hs0⟩

/-- The blocks of Pick's own that a program does not lie in. -/
abbrev Off (F : Nat → Prop) (n : Nat) (b : Nat) : Prop := F b ∧ b ≠ n ∧ b ≠ n + 1

set_option maxRecDepth 100000 in
set_option maxHeartbeats 1000000 in
theorem pick_nil {B : List (List Acc)} (h : Wk F w wp mp bp c cap ⟨[] :: B, none⟩) (ci ce : Int) (hF : ∀ b, w.heap.size ≤ b → F b) (hFw : ∀ b, F b → b ≠ wp ∧ b ≠ c) : Calls Try.prog 54 #[.pointer (some ⟨wp, 0, none⟩), .agg #[.int .i64 ci, .int .u64 ce]] w fun e w' =>
    ∃ ra rc, e = .returned (evt 2 (.slice ra 0 rc)) ∧ SlcU F w' (.slice ra 0 rc) [] ∧ Wk F w' wp mp bp c cap ⟨B, none⟩ ∧ Sep (fun k => k = wp ∨ k = c) w w' := by
  have hlt := h.lt
  obtain ⟨vs, x0, x1, x2, x3, x4, x5, x6, a, b, d, e⟩ := h
  obtain ⟨va, vc, vs, rfl, hv, d⟩ := d.cons
  obtain ⟨rfl, rfl, rfl, rfl, rfl, rfl, rfl⟩ := e
  obtain ⟨W, hW, hs0, hsz, h0, h1⟩ := two_k w (.int .i64 ci) (.int .u64 ce)
  have a1 := hs0.obj a
  unfold wcells at a1
  have n0 : wp ≠ w.heap.size + 1 := by omega
  have n1 : c ≠ w.heap.size + 1 := by omega
  have hv1 := hv.stay hs0 (fun _ _ _ x => x)
  have d1 := Fits.stay hs0 (fun _ _ _ x => x) (Fits.imp (G := Off F w.heap.size) (fun b hb hlt => ⟨hb, by omega, by omega⟩) d)
  have b1 := b.stay hs0 (fun x => x) (fun x => x)
  have A1 := Lib.hid a1
  have HW := Lib.hid hW
  have H1 := Lib.hid h1
  have HSZ := Lib.hid hsz
  obtain ⟨c0, c1, c2, c3, c4, c5, c6, c7, c8, c9, c10, cf⟩ := cells11 a1
  obtain ⟨e0, e1, ef⟩ := cells2' h1
  rw [hW] at c0 c1 c2 c3 e0 e1
  have D := Lib.hid d1
  have B1 := Lib.hid b1
  have V := Lib.hid hv1
  have HLT := Lib.hid hlt
  clear a a1 b b1 d d1 hv hv1 hsz h0 h1 c4 c5 c6 c7 c8 c9 c10 hlt hW cf ef
  go_enter Try.func54, Try.ntmps54
  go_wp2_with fail
  rw [← HW.out]
  refine (takeA_some B1.out).mono ?_
  rintro e w1 ⟨rfl, hb2, hs1⟩
  have A2 := Lib.hid (hs1.obj A1.out HLT.out.2.2.2.2.1)
  have hFc : ∀ b, F b → b < W.heap.size → ¬ b = c := fun b hb _ => (hFw b hb).2
  have V2 := Lib.hid (V.out.stay hs1 hFc)
  have D2 := Lib.hid (Fits.stay hs1 (fun b hb => hFc b hb.1) D.out)
  have H2 := Lib.hid (hs1.obj H1.out n1.symm)
  have B2 := Lib.hid hb2
  have s02 : Sep (fun k => k = wp ∨ k = c) w w1 := (Same.sep hs0 _).trans (hs1.mono fun _ _ e => .inr e)
  have hge1 : w.heap.size + 2 ≤ w1.heap.size := by have := hs1.size; have := HSZ.out; omega
  obtain ⟨d0, d1, d2, d3, d4, d5, d6, d7, d8, d9, d10, df⟩ := cells11 A2.out
  clear c0 c1 c2 c3 e0 e1 hs1 hb2 V D B1 H1 A1 HSZ HW hs0
  go_wp2_with fail
  refine (list_arg (F := Off F w.heap.size) V2.out.any (by simp) (fun b hb => ⟨hF b (by omega), by omega, by omega⟩)).mono ?_
  rintro e w2 ⟨v2, rfl, hlp, hs2⟩
  obtain ⟨rv, rfl, hrv⟩ := hlp
  obtain ⟨ra, rc, rfl⟩ := hrv.form
  have A3 := Lib.hid (hs2.obj A2.out)
  have D3 := Lib.hid (Fits.stay hs2 (fun _ _ _ x => x) D2.out)
  have H3 := Lib.hid (hs2.obj H2.out)
  have B3 := Lib.hid (B2.out.stay hs2 (fun x => x) (fun x => x))
  have R3 := Lib.hid hrv
  have s03 := s02.trans (Same.sep hs2 _)
  obtain ⟨d0, d1, d2, d3, d4, d5, d6, d7, d8, d9, d10, df⟩ := cells11 A3.out
  clear hrv hs2 s02 V2 D2 B2 H2 A2
  go_wp2_with fail
  obtain ⟨wT, hwT⟩ : ∃ x, x = ((((((w2.setCell ⟨wp, 4, none⟩ (.bool true)).setCell ⟨wp, 5, none⟩ (.slice ra 0 rc)).setCell ⟨wp, 6, none⟩ (.int .i64 0)).setCell ⟨wp, 7, none⟩ (.int .i64 0)).setCell ⟨wp, 8, none⟩ (.int .u64 0)).setCell ⟨wp, 9, none⟩ (.int .u64 0)).setCell ⟨wp, 10, none⟩ .nilFunc := ⟨_, rfl⟩
  rw [← hwT]
  have s7 : Sep (fun k => k = wp) w2 wT := by rw [hwT]; exact sep7at w2 wp (.bool true) (.slice ra 0 rc) (.int .i64 0) (.int .i64 0) (.int .u64 0) (.int .u64 0) .nilFunc
  have AT : Hid (wT.heap[wp]? = some (wcells mp bp false (.bool true) (.slice ra 0 rc) (.int .i64 0) (.int .i64 0) (.int .u64 0) (.int .u64 0) .nilFunc)) := by rw [hwT]; exact heap7at A3.out
  clear hwT d0 d1 d2 d3 d4 d5 d6 d7 d8 d9 d10
  refine (end_over ra 0 rc 1 AT.out).mono ?_
  rintro e w4 ⟨rfl, h4, hs4⟩
  have s24 : Sep (fun k => k = wp) w2 w4 := s7.trans hs4
  have s04 : Sep (fun k => k = wp ∨ k = c) w w4 := s03.trans (s24.mono fun _ _ e => .inl e)
  have hFw' : ∀ b, F b → b < w2.heap.size → ¬ b = wp := fun b hb _ => (hFw b hb).1
  have A4 := Lib.hid h4
  have B4 := Lib.hid (B3.out.stay s24 HLT.out.2.2.2.1.symm HLT.out.2.2.2.2.1.symm)
  have D4 := Lib.hid (Fits.stay s24 (fun b hb => hFw' b hb.1) D3.out)
  have R4 := Lib.hid (Slc.stay R3.out s24 (fun b hb _ => (hFw b hb.1).1))
  have H4 := Lib.hid (s24.obj H3.out n0.symm)
  obtain ⟨k0, k1, kf⟩ := cells2' H4.out
  have a0 := fun o => (Sep.alloc (fun _ => False) w4 o).cell k0 (fun x => x)
  have a1 := fun o => (Sep.alloc (fun _ => False) w4 o).cell k1 (fun x => x)
  have af : ∀ o j, (w4.alloc o).frozen? ⟨w.heap.size + 1, j, none⟩ = false := fun o j => free_of_heap ((Sep.alloc (fun _ => False) w4 o).obj H4.out (fun x => x))
  have hge4 : w.heap.size + 2 ≤ w4.heap.size := by have := s04.size; have := lt_of_block H4.out; omega
  clear h4 hs4 s7 s24 s03 AT A3 B3 D3 R3 H3
  unfold evt
  go_wp2
  refine bodyPost_ret (v := evt 2 (.slice ra 0 rc)) (by simp [results, Try.results54, go_sem, evt, a0, a1, af]) rfl ?_
  have ha := Sep.alloc (fun _ => False) w4 (.cells #[.int .i64 2, .slice ra 0 rc] 107)
  have h2 := sep2 (w4.alloc (.cells #[.int .i64 2, .slice ra 0 rc] 107)) (w.heap.size + 1) (.int .i64 2) (.slice ra 0 rc)
  refine ⟨ra, rc, rfl, (Slc.stay (Slc.stay R4.out ha (fun _ _ _ x => x)) h2 (fun b hb _ => hb.2.2)).imp (fun b hb _ => hb.1), ?_, sep_new (s04.trans (Same.sep ha _)) (Nat.le_add_right _ 1) h2⟩
  have m1 : ¬ bp = w.heap.size + 1 := by have := HLT.out; omega
  exact ⟨vs, _, _, _, _, _, _, _, h2.obj (Same.obj ha A4.out) n0, (B4.out.stay ha (fun x => x) (fun x => x)).stay h2 m1 n1, Fits.imp (fun b hb _ => hb.1) (Fits.stay h2 (fun b hb _ => hb.2.2) (Fits.stay ha (fun _ _ _ x => x) D4.out)), rfl, rfl, rfl, rfl, rfl, rfl, rfl⟩
end
end Go.Proofs.Ytiljledgoflogaa
