/- The reference's worker's Pick. -/
import Derived.Test.YtiljledgoflogaaPb
import Derived.Deep.CutBlock
namespace Go.Proofs.Ytiljledgoflogaa
open Go.RowKit
set_option linter.unusedSimpArgs false
set_option linter.unusedVariables false

theorem heap_push (w : World) (o : Obj) (k : Nat) : (w.alloc o).heap[k]? = if k = w.heap.size then some o else w.heap[k]? := by
  show (w.heap.push o)[k]? = _
  exact Array.getElem?_push

/-- The six blocks of Pick. -/
theorem six_k (w : World) (x0 x1 x2 x3 x4 m0 m1 m2 ci ce : Value) : ∃ W, W = (((((w.alloc (.cells #[x0, x1, x2, x3, x4] 118)).alloc (.cells #[m0, m1, m2] 51)).alloc (.cells #[ci, ce] 33)).alloc (.cells #[.int .i64 0, .slice none 0 0, .bool false, .slice none 0 0, .slice none 0 0] 118)).alloc (.cells #[.slice none 0 0, .slice none 0 0, .int .i64 0] 51)).alloc (.cells #[.int .i64 0, .slice none 0 0] 123) ∧
    Same w W ∧ W.heap.size = w.heap.size + 6 ∧ W.heap[w.heap.size]? = some (.cells #[x0, x1, x2, x3, x4] 118) ∧ W.heap[w.heap.size + 1]? = some (.cells #[m0, m1, m2] 51) ∧ W.heap[w.heap.size + 2]? = some (.cells #[ci, ce] 33) ∧
    W.heap[w.heap.size + 3]? = some (.cells #[.int .i64 0, .slice none 0 0, .bool false, .slice none 0 0, .slice none 0 0] 118) ∧ W.heap[w.heap.size + 4]? = some (.cells #[.slice none 0 0, .slice none 0 0, .int .i64 0] 51) ∧ W.heap[w.heap.size + 5]? = some (.cells #[.int .i64 0, .slice none 0 0] 123) := by
  have hs : ∀ (w : World) (o : Obj), (w.alloc o).heap.size = w.heap.size + 1 := by intro w o; simp
  refine ⟨_, rfl, (((((Sep.alloc _ _ _).thenAlloc _).thenAlloc _).thenAlloc _).thenAlloc _).thenAlloc _, by simp, ?_, ?_, ?_, ?_, ?_, ?_⟩ <;> (simp only [heap_push, hs]; repeat (first | exact if_pos trivial | rw [if_pos (by omega)] | rw [if_neg (by omega)]))

section
variable {F : Nat → Prop} {w : World} {size cnt : Nat} {L : List Reg}
set_option maxRecDepth 100000 in
set_option maxHeartbeats 1000000 in
theorem rpick_idle {v mv : Value} (h : RW F w v size ⟨[], none⟩) (hm : RM F w mv L cnt) (ci ce : Int) (hF : ∀ b, w.heap.size ≤ b → F b) :
    Calls Try.prog 58 #[v, mv, .agg #[.int .i64 ci, .int .u64 ce]] w fun e w' => ∃ v' mv', e = .returned (.tuple #[v', mv', .agg #[.int .i64 0, .slice none 0 0]]) ∧ RW F w' v' size ⟨[], none⟩ ∧ RM F w' mv' L cnt ∧ Same w w' := by
  have hrw := Lib.hid h
  have hrm := Lib.hid hm
  obtain ⟨ba, bc, la, ln, lc, ta, tn, tc, vs, rfl, h1, h2, h3⟩ := h
  obtain ⟨wa, wc, ea, ec, rfl⟩ := hm.form
  obtain ⟨mn, hmn⟩ : ∃ mn, mn = L.length := ⟨_, rfl⟩
  have e0 : (⟨[], none⟩ : Job).box.length = 0 := rfl
  have e1 : (⟨[], none⟩ : Job).cur.isSome = false := rfl
  rw [← hmn] at hrm ⊢
  rw [e0, e1] at hrw ⊢
  obtain ⟨W, hW, hs0, hsz, o3, o4, o5, o6, o7, o8⟩ := six_k w (.int .i64 size) (.slice ba 0 bc) (.bool false) (.slice la ln lc) (.slice ta tn tc) (.slice wa mn wc) (.slice ea mn ec) (.int .i64 cnt) (.int .i64 ci) (.int .u64 ce)
  have HW := Lib.hid hW
  have HS0 := Lib.hid hs0
  have HSZ := Lib.hid hsz
  have O3 := Lib.hid o3
  have O4 := Lib.hid o4
  have O6 := Lib.hid o6
  have O7 := Lib.hid o7
  have O8 := Lib.hid o8
  clear h1 h2 h3 hm hmn e0 e1 hW hs0 hsz o3 o4 o5 o6 o7 o8
  go_enter Try.func58, Try.ntmps58
  go_upto_region 3 with fail
  rw [← HW.out]
  obtain ⟨b4, hb4⟩ : ∃ b, b = w.heap.size + 1 := ⟨_, rfl⟩
  rw [← hb4]
  obtain ⟨b5, hb5⟩ : ∃ b, b = b4 + 1 := ⟨_, rfl⟩
  rw [← hb5]
  obtain ⟨b6, hb6⟩ : ∃ b, b = b5 + 1 := ⟨_, rfl⟩
  rw [← hb6]
  obtain ⟨b7, hb7⟩ : ∃ b, b = b6 + 1 := ⟨_, rfl⟩
  rw [← hb7]
  obtain ⟨b8, hb8⟩ : ∃ b, b = b7 + 1 := ⟨_, rfl⟩
  rw [← hb8]
  have NB : Hid (b4 = w.heap.size + 1 ∧ b5 = w.heap.size + 2 ∧ b6 = w.heap.size + 3 ∧ b7 = w.heap.size + 4 ∧ b8 = w.heap.size + 5) := by show _ ∧ _; omega
  clear hb4 hb5 hb6 hb7 hb8
  obtain ⟨e4, e5, e6, e7, e8⟩ := NB.out
  have o4 := O4.out
  have o6 := O6.out
  have o7 := O7.out
  have o8 := O8.out
  rw [← e4] at o4
  rw [← e6] at o6
  rw [← e7] at o7
  rw [← e8] at o8
  have P4 := Lib.hid o4
  have P6 := Lib.hid o6
  have P7 := Lib.hid o7
  have P8 := Lib.hid o8
  obtain ⟨x0, x1, x2, x3, x4, xf⟩ := cells5 O3.out
  obtain ⟨m0, m1, m2, mf⟩ := cells3x o4
  have NB3 : Hid (¬ (w.heap.size = b6 ∨ w.heap.size = b7 ∨ w.heap.size = b8)) := by show ¬ _; omega
  have NB4 : Hid (¬ (b4 = b6 ∨ b4 = b7 ∨ b4 = b8)) := by show ¬ _; omega
  clear e4 e5 e6 e7 e8 o4 o6 o7 o8 O4 O6 O7 O8
  refine wp_region_held_drew (S := (fun v => v.cell? ⟨w.heap.size, 0, none⟩ = some (.int .i64 size) ∧ v.cell? ⟨w.heap.size, 1, none⟩ = some (.slice ba 0 bc) ∧ v.cell? ⟨w.heap.size, 2, none⟩ = some (.bool false) ∧ v.cell? ⟨w.heap.size, 3, none⟩ = some (.slice la ln lc) ∧ v.cell? ⟨w.heap.size, 4, none⟩ = some (.slice ta tn tc) ∧ v.cell? ⟨b4, 0, none⟩ = some (.slice wa mn wc) ∧ v.cell? ⟨b4, 1, none⟩ = some (.slice ea mn ec) ∧ v.cell? ⟨b4, 2, none⟩ = some (.int .i64 cnt))) (by kernel_rfl) ?_ (fun hHeld => ?_)
  · exact ⟨(Sep.drew (fun _ => False) W).cell x0 (fun x => x), (Sep.drew (fun _ => False) W).cell x1 (fun x => x), (Sep.drew (fun _ => False) W).cell x2 (fun x => x), (Sep.drew (fun _ => False) W).cell x3 (fun x => x), (Sep.drew (fun _ => False) W).cell x4 (fun x => x), (Sep.drew (fun _ => False) W).cell m0 (fun x => x), (Sep.drew (fun _ => False) W).cell m1 (fun x => x), (Sep.drew (fun _ => False) W).cell m2 (fun x => x)⟩
  change wpAnyH _ _ _ _ _ 6 _ _ _
  refine wpAnyH_take (i := 0) (oi := ⟨some 19, _, _, _, _, _⟩) (v := ?v1) rfl (by kernel_rfl) (by kernel_rfl) (by kernel_rfl) (fun _ _ _ h => h) (Or.inl ⟨by kernel_rfl, ?h1⟩) hHeld ?_
  case h1 => intro w hSw; (try dsimp only at hSw); go_simp; try with_reducible rfl
  try simp only [Act.put, List.setIfInBounds_toArray, List.set_cons_zero, List.set_cons_succ]
  refine wpAnyH_take (i := 1) (oi := ⟨some 20, _, _, _, _, _⟩) (v := ?v2) rfl (by kernel_rfl) (by kernel_rfl) (by kernel_rfl) (fun _ _ _ h => h) (Or.inl ⟨by kernel_rfl, ?h2⟩) hHeld ?_
  case h2 => intro w hSw; (try dsimp only at hSw); go_simp; try with_reducible rfl
  try simp only [Act.put, List.setIfInBounds_toArray, List.set_cons_zero, List.set_cons_succ]
  refine wpAnyH_take (i := 2) (oi := ⟨some 21, _, _, _, _, _⟩) (v := ?v3) rfl (by kernel_rfl) (by kernel_rfl) (by kernel_rfl) (fun _ _ _ h => h) (Or.inl ⟨by kernel_rfl, ?h3⟩) hHeld ?_
  case h3 => intro w hSw; (try dsimp only at hSw); go_simp; try with_reducible rfl
  try simp only [Act.put, List.setIfInBounds_toArray, List.set_cons_zero, List.set_cons_succ]
  refine wpAnyH_ready (rs := [3]) (by kernel_rfl) (by simp) ?_
  refine AllReadyH.cons (o := ⟨none, _, _, _, _, _⟩) rfl (fun K hK => ?_) AllReadyH.nil
  obtain ⟨t0, t1, t2, t3, t4, tf⟩ := cells5 P6.out
  rw [if_pos (by kernel_rfl)]
  go_simp
  obtain ⟨wT4, hwT⟩ : ∃ x, x = (((((W.drew.setCell ⟨b6, 0, none⟩ (.int .i64 size)).setCell ⟨b6, 1, none⟩ (.slice ba 0 bc)).setCell ⟨b6, 2, none⟩ (.bool false)).setCell ⟨b6, 3, none⟩ (.slice la ln lc)).setCell ⟨b6, 4, none⟩ (.slice ta tn tc)) := ⟨_, rfl⟩
  have hwT2 : wT4 = (((((W.setCell ⟨b6, 0, none⟩ (.int .i64 size)).setCell ⟨b6, 1, none⟩ (.slice ba 0 bc)).setCell ⟨b6, 2, none⟩ (.bool false)).setCell ⟨b6, 3, none⟩ (.slice la ln lc)).setCell ⟨b6, 4, none⟩ (.slice ta tn tc)).drew := hwT
  rw [← hwT2]
  clear hwT2
  have h7 : Sep (fun k => k = b6) W.drew wT4 := by rw [hwT]; exact sep5 W.drew b6 (.int .i64 size) (.slice ba 0 bc) (.bool false) (.slice la ln lc) (.slice ta tn tc)
  have ob6_4 : wT4.heap[b6]? = some (.cells #[.int .i64 size, .slice ba 0 bc, .bool false, .slice la ln lc, .slice ta tn tc] 118) := by rw [hwT, (heap_set_same (heap_set_same (heap_set_same (heap_set_same (heap_set_same (Same.obj (Sep.drew (fun _ => False) W) P6.out))))))]; rfl
  have ob7_4 := h7.obj (Same.obj (Sep.drew (fun _ => False) W) P7.out) (show ¬ (b7 = b6) by have := NB.out; omega)
  have ob8_4 := h7.obj (Same.obj (Sep.drew (fun _ => False) W) P8.out) (show ¬ (b8 = b6) by have := NB.out; omega)
  have hT4 : Sep (fun k => k = b6 ∨ k = b7 ∨ k = b8) W wT4 := Sep.trans (Sep.drew (fun k => k = b6 ∨ k = b7 ∨ k = b8) W) (h7.mono fun _ _ e => .inl e)
  clear hwT h7 t0 t1 t2 t3 t4 tf
  refine hK.out _ _ ?_ (fun hHeld => ?_)
  · exact ⟨Sep.cell hT4 x0 NB3.out, Sep.cell hT4 x1 NB3.out, Sep.cell hT4 x2 NB3.out, Sep.cell hT4 x3 NB3.out, Sep.cell hT4 x4 NB3.out, Sep.cell hT4 m0 NB4.out, Sep.cell hT4 m1 NB4.out, Sep.cell hT4 m2 NB4.out⟩
  clear hK K
  try simp only [Act.put, List.setIfInBounds_toArray, List.set_cons_zero, List.set_cons_succ]
  refine wpAnyH_ready (rs := [4]) (by kernel_rfl) (by simp) ?_
  refine AllReadyH.cons (o := ⟨none, _, _, _, _, _⟩) rfl (fun K hK => ?_) AllReadyH.nil
  obtain ⟨t0, t1, t2, tf⟩ := cells3x ob7_4
  rw [if_pos (by kernel_rfl)]
  go_simp
  obtain ⟨wT6, hwT⟩ : ∃ x, x = (((wT4.setCell ⟨b7, 0, none⟩ (.slice wa mn wc)).setCell ⟨b7, 1, none⟩ (.slice ea mn ec)).setCell ⟨b7, 2, none⟩ (.int .i64 cnt)) := ⟨_, rfl⟩
  rw [← hwT]
  have h7 : Sep (fun k => k = b7) wT4 wT6 := by rw [hwT]; exact sep3 wT4 b7 (.slice wa mn wc) (.slice ea mn ec) (.int .i64 cnt)
  have ob6_6 := h7.obj ob6_4 (show ¬ (b6 = b7) by have := NB.out; omega)
  have ob7_6 : wT6.heap[b7]? = some (.cells #[.slice wa mn wc, .slice ea mn ec, .int .i64 cnt] 51) := by rw [hwT, (heap_set_same (heap_set_same (heap_set_same ob7_4)))]; rfl
  have ob8_6 := h7.obj ob8_4 (show ¬ (b8 = b7) by have := NB.out; omega)
  have hT6 : Sep (fun k => k = b6 ∨ k = b7 ∨ k = b8) W wT6 := Sep.trans hT4 (h7.mono fun _ _ e => .inr (.inl e))
  clear hwT h7 t0 t1 t2 tf
  refine hK.out _ _ ?_ (fun hHeld => ?_)
  · exact ⟨Sep.cell hT6 x0 NB3.out, Sep.cell hT6 x1 NB3.out, Sep.cell hT6 x2 NB3.out, Sep.cell hT6 x3 NB3.out, Sep.cell hT6 x4 NB3.out, Sep.cell hT6 m0 NB4.out, Sep.cell hT6 m1 NB4.out, Sep.cell hT6 m2 NB4.out⟩
  clear hK K
  try simp only [Act.put, List.setIfInBounds_toArray, List.set_cons_zero, List.set_cons_succ]
  refine wpAnyH_ready (rs := [5]) (by kernel_rfl) (by simp) ?_
  refine AllReadyH.cons (o := ⟨none, _, _, _, _, _⟩) rfl (fun K hK => ?_) AllReadyH.nil
  obtain ⟨t0, t1, tf⟩ := cells2 ob8_6
  rw [if_pos (by kernel_rfl)]
  go_simp
  obtain ⟨wT8, hwT⟩ : ∃ x, x = ((wT6.setCell ⟨b8, 0, none⟩ (.int .i64 0)).setCell ⟨b8, 1, none⟩ (.slice none 0 0)) := ⟨_, rfl⟩
  rw [← hwT]
  have h7 : Sep (fun k => k = b8) wT6 wT8 := by rw [hwT]; exact sep2b wT6 b8 (.int .i64 0) (.slice none 0 0)
  have ob6_8 := h7.obj ob6_6 (show ¬ (b6 = b8) by have := NB.out; omega)
  have ob7_8 := h7.obj ob7_6 (show ¬ (b7 = b8) by have := NB.out; omega)
  have ob8_8 : wT8.heap[b8]? = some (.cells #[.int .i64 0, .slice none 0 0] 123) := by rw [hwT, (heap_set_same (heap_set_same ob8_6))]; rfl
  have hT8 : Sep (fun k => k = b6 ∨ k = b7 ∨ k = b8) W wT8 := Sep.trans hT6 (h7.mono fun _ _ e => .inr (.inr e))
  clear hwT h7 t0 t1 tf
  refine hK.out _ _ ?_ (fun hHeld => ?_)
  · exact ⟨Sep.cell hT8 x0 NB3.out, Sep.cell hT8 x1 NB3.out, Sep.cell hT8 x2 NB3.out, Sep.cell hT8 x3 NB3.out, Sep.cell hT8 x4 NB3.out, Sep.cell hT8 m0 NB4.out, Sep.cell hT8 m1 NB4.out, Sep.cell hT8 m2 NB4.out⟩
  clear hK K
  try simp only [Act.put, List.setIfInBounds_toArray, List.set_cons_zero, List.set_cons_succ]
  refine wpAnyH_done (by kernel_rfl) ?_ _
  clear hHeld x0 x1 x2 x3 x4 m0 m1 m2
  obtain ⟨r0, r1, r2, r3, r4, rf⟩ := cells5 ob6_8
  obtain ⟨s0, s1, s2, sf⟩ := cells3x ob7_8
  obtain ⟨e0, e1, ef⟩ := cells2 ob8_8
  go_wp2
  refine bodyPost_ret (v := .tuple #[.agg #[.int .i64 size, .slice ba 0 bc, .bool false, .slice la ln lc, .slice ta tn tc], .agg #[.slice wa mn wc, .slice ea mn ec, .int .i64 cnt], .agg #[.int .i64 0, .slice none 0 0]]) (by simp [results, Try.results58, go_sem, r0, r1, r2, r3, r4, s0, s1, s2, e0, e1]) rfl ?_
  have hfin := sep_chain (S := fun _ => False) HS0.out hT8 (fun k hk h => by have := NB.out; omega)
  exact ⟨_, _, rfl, hrw.out.same hfin, hrm.out.same hfin, hfin⟩
end
end Go.Proofs.Ytiljledgoflogaa

