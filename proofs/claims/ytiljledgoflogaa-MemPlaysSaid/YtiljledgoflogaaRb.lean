/- The reference's Do: refused, and done. -/
import Derived.Test.YtiljledgoflogaaRa
import Derived.Deep.AppendLies
import Derived.Deep.CutBlock
namespace Go.Proofs.Ytiljledgoflogaa
open Go.RowKit
set_option linter.unusedSimpArgs false
set_option linter.unusedVariables false

theorem four_r (w : World) (m c a z : Array Value) : ∃ W, W = (((w.alloc (.cells m 51)).alloc (.cells c 33)).alloc (.cells a 25)).alloc (.cells z 51) ∧
    Same w W ∧ W.heap.size = w.heap.size + 4 ∧ W.heap[w.heap.size]? = some (.cells m 51) ∧ W.heap[w.heap.size + 1]? = some (.cells c 33) ∧ W.heap[w.heap.size + 2]? = some (.cells a 25) ∧ W.heap[w.heap.size + 3]? = some (.cells z 51) := by
  have e3 : (((w.alloc (.cells m 51)).alloc (.cells c 33)).alloc (.cells a 25)).heap.size = w.heap.size + 3 := by simp
  refine ⟨_, rfl, (((Sep.alloc _ _ _).thenAlloc _).thenAlloc _).thenAlloc _, by simp, ?_, ?_, ?_, ?_⟩
  · rw [Below.heap_alloc _ _ _ (by simp; omega)]
    rw [Below.heap_alloc _ _ _ (by simp; omega), Below.heap_alloc _ _ _ (by simp)]; exact heap_alloc_new _ _
  · rw [Below.heap_alloc _ _ _ (by simp)]
    rw [Below.heap_alloc _ _ _ (by simp)]
    have e : (w.alloc (.cells m 51)).heap.size = w.heap.size + 1 := by simp
    rw [← e]; exact heap_alloc_new _ _
  · rw [Below.heap_alloc _ _ _ (by simp)]
    have e : ((w.alloc (.cells m 51)).alloc (.cells c 33)).heap.size = w.heap.size + 2 := by simp
    rw [← e]; exact heap_alloc_new _ _
  · rw [← e3]; exact heap_alloc_new _ _
theorem cells2 {w : World} {b : Nat} {x0 x1 : Value} {T : TypeId} (h : w.heap[b]? = some (.cells #[x0, x1] T)) : w.cell? ⟨b, 0, none⟩ = some x0 ∧ w.cell? ⟨b, 1, none⟩ = some x1 ∧ (∀ j, w.frozen? ⟨b, j, none⟩ = false) := by
  refine ⟨?_, ?_, fun j => free_of_heap h⟩ <;> (rw [cell_of_heap h]; rfl)
theorem cells3x {w : World} {b : Nat} {x0 x1 x2 : Value} {T : TypeId} (h : w.heap[b]? = some (.cells #[x0, x1, x2] T)) : w.cell? ⟨b, 0, none⟩ = some x0 ∧ w.cell? ⟨b, 1, none⟩ = some x1 ∧ w.cell? ⟨b, 2, none⟩ = some x2 ∧ (∀ j, w.frozen? ⟨b, j, none⟩ = false) := by
  refine ⟨?_, ?_, ?_, fun j => free_of_heap h⟩ <;> (rw [cell_of_heap h]; rfl)
theorem cells4x {w : World} {b : Nat} {x0 x1 x2 x3 : Value} {T : TypeId} (h : w.heap[b]? = some (.cells #[x0, x1, x2, x3] T)) : w.cell? ⟨b, 0, none⟩ = some x0 ∧ w.cell? ⟨b, 1, none⟩ = some x1 ∧ w.cell? ⟨b, 2, none⟩ = some x2 ∧ w.cell? ⟨b, 3, none⟩ = some x3 ∧ (∀ j, w.frozen? ⟨b, j, none⟩ = false) := by
  refine ⟨?_, ?_, ?_, ?_, fun j => free_of_heap h⟩ <;> (rw [cell_of_heap h]; rfl)
theorem sep3 (w : World) (b : Nat) (x0 x1 x2 : Value) : Sep (fun k => k = b) w (((w.setCell ⟨b, 0, none⟩ x0).setCell ⟨b, 1, none⟩ x1).setCell ⟨b, 2, none⟩ x2) :=
  (((Sep.refl (fun k => k = b) w).thenSet (.inl rfl) _).thenSet (.inl rfl) _).thenSet (.inl rfl) _
theorem heap3 {w : World} {b : Nat} {x0 x1 x2 : Value} {c : Array Value} {T : TypeId} (h : w.heap[b]? = some (.cells c T)) (hc : c.size = 3) :
    (((w.setCell ⟨b, 0, none⟩ x0).setCell ⟨b, 1, none⟩ x1).setCell ⟨b, 2, none⟩ x2).heap[b]? = some (.cells #[x0, x1, x2] T) := by
  rw [heap_set_same (heap_set_same (heap_set_same h))]
  obtain ⟨l⟩ := c
  match l, hc with
  | [_, _, _], _ => rfl

set_option maxRecDepth 100000 in
set_option maxHeartbeats 1000000 in
theorem rdo_bad {F : Nat → Prop} {w : World} {L : List Reg} {cnt n : Nat} {wa ea : Option Addr} {wc ec : Nat} (ci ce op at_ x y : Int) (h : RM F w (.agg #[.slice wa n wc, .slice ea n ec, .int .i64 cnt]) L cnt) (hg : goodB L ci ce = false) :
    Calls Try.prog 32 #[.agg #[.slice wa n wc, .slice ea n ec, .int .i64 cnt], .agg #[.int .i64 ci, .int .u64 ce], .agg #[.int .i64 op, .int .i64 at_, .int .u64 x, .int .u64 y]] w fun e w' => e = .returned (.tuple #[.agg #[.slice wa n wc, .slice ea n ec, .int .i64 cnt], .int .u64 0, .bool false]) ∧ Same w w' := by
  obtain ⟨W, hW, hs0, hsz, b0, b1, b2, b3⟩ := four_r w #[.slice wa n wc, .slice ea n ec, .int .i64 cnt] #[.int .i64 ci, .int .u64 ce] #[.int .i64 op, .int .i64 at_, .int .u64 x, .int .u64 y] #[.slice none 0 0, .slice none 0 0, .int .i64 0]
  have hrm := h.same hs0
  obtain ⟨x0, x1, x2, xf⟩ := cells3x b0
  obtain ⟨y0, y1, yf⟩ := cells2 b1
  obtain ⟨z0, z1, z2, z3, zf⟩ := cells4x b2
  have HW := Lib.hid hW
  have HB3 := Lib.hid b3
  clear hW h b0 b1 b2 b3
  go_enter Try.func32, Try.ntmps32
  go_wp2_with fail
  rw [← HW.out]
  refine wp_region_held_drew (S := (fun v => v.cell? ⟨w.heap.size, 0, none⟩ = some (.slice wa n wc) ∧ v.cell? ⟨w.heap.size, 1, none⟩ = some (.slice ea n ec) ∧ v.cell? ⟨w.heap.size, 2, none⟩ = some (.int .i64 cnt) ∧ v.cell? ⟨w.heap.size + 1, 0, none⟩ = some (.int .i64 ci) ∧ v.cell? ⟨w.heap.size + 1, 1, none⟩ = some (.int .u64 ce) ∧ v.cell? ⟨w.heap.size + 2, 0, none⟩ = some (.int .i64 op) ∧ v.cell? ⟨w.heap.size + 2, 1, none⟩ = some (.int .i64 at_) ∧ v.cell? ⟨w.heap.size + 2, 2, none⟩ = some (.int .u64 x) ∧ v.cell? ⟨w.heap.size + 2, 3, none⟩ = some (.int .u64 y) ∧ RM F v (.agg #[.slice wa n wc, .slice ea n ec, .int .i64 cnt]) L cnt ∧ Same W v)) (by kernel_rfl) ?_ (fun hHeld => ?_)
  · exact ⟨(Sep.drew (fun _ => False) W).cell x0 (fun x => x), (Sep.drew (fun _ => False) W).cell x1 (fun x => x), (Sep.drew (fun _ => False) W).cell x2 (fun x => x), (Sep.drew (fun _ => False) W).cell y0 (fun x => x), (Sep.drew (fun _ => False) W).cell y1 (fun x => x), (Sep.drew (fun _ => False) W).cell z0 (fun x => x), (Sep.drew (fun _ => False) W).cell z1 (fun x => x), (Sep.drew (fun _ => False) W).cell z2 (fun x => x), (Sep.drew (fun _ => False) W).cell z3 (fun x => x), hrm.same (Sep.drew _ _), Sep.drew _ _⟩
  change wpAnyH _ _ _ _ _ 31 _ _ _
  refine wpAnyH_take (i := 0) (oi := ⟨some 12, _, _, _, _, _⟩) (v := ?v1) rfl (by kernel_rfl) (by kernel_rfl) (by kernel_rfl) (fun _ _ _ h => h) (Or.inl ⟨by kernel_rfl, ?h1⟩) hHeld ?_
  case h1 => intro w hSw; (try dsimp only at hSw); go_simp; try with_reducible rfl
  try simp only [Act.put, List.setIfInBounds_toArray, List.set_cons_zero, List.set_cons_succ]
  refine wpAnyH_take (i := 1) (oi := ⟨some 13, _, _, _, _, _⟩) (v := ?v2) rfl (by kernel_rfl) (by kernel_rfl) (by kernel_rfl) (fun _ _ _ h => h) (Or.inl ⟨by kernel_rfl, ?h2⟩) hHeld ?_
  case h2 => intro w hSw; (try dsimp only at hSw); go_simp; try with_reducible rfl
  try simp only [Act.put, List.setIfInBounds_toArray, List.set_cons_zero, List.set_cons_succ]
  refine wpAnyH_ready (rs := [2]) (by kernel_rfl) (by simp) ?_
  refine AllReadyH.cons (o := ⟨some 14, _, _, _, _, _⟩) rfl (fun K hK => ?_) AllReadyH.nil
  rw [if_pos (by kernel_rfl)]
  go_simp
  refine (rgood hHeld.2.2.2.2.2.2.2.2.2.1 ci ce).mono ?_
  rintro e w2 ⟨rfl, hs⟩
  rw [hg]
  refine hK.out _ _ ?_ (fun hHeld => ?_)
  · exact ⟨Same.cell hs hHeld.1, Same.cell hs hHeld.2.1, Same.cell hs hHeld.2.2.1, Same.cell hs hHeld.2.2.2.1, Same.cell hs hHeld.2.2.2.2.1, Same.cell hs hHeld.2.2.2.2.2.1, Same.cell hs hHeld.2.2.2.2.2.2.1, Same.cell hs hHeld.2.2.2.2.2.2.2.1, Same.cell hs hHeld.2.2.2.2.2.2.2.2.1, RM.same hHeld.2.2.2.2.2.2.2.2.2.1 hs, Sep.trans hHeld.2.2.2.2.2.2.2.2.2.2 hs⟩
  clear hK K
  try simp only [Act.put, List.setIfInBounds_toArray, List.set_cons_zero, List.set_cons_succ]
  refine wpAnyH_take (i := 3) (oi := ⟨some 15, _, _, _, _, _⟩) (v := ?v4) rfl (by kernel_rfl) (by kernel_rfl) (by kernel_rfl) (fun _ _ _ h => h) (Or.inl ⟨by kernel_rfl, ?h4⟩) hHeld ?_
  case h4 => intro w hSw; (try dsimp only at hSw); go_simp; try with_reducible rfl
  try simp only [Act.put, List.setIfInBounds_toArray, List.set_cons_zero, List.set_cons_succ]
  refine wpAnyH_take (i := 4) (oi := ⟨some 16, _, _, _, _, _⟩) (v := ?v5) rfl (by kernel_rfl) (by kernel_rfl) (by kernel_rfl) (fun _ _ _ h => h) (Or.inl ⟨by kernel_rfl, ?h5⟩) hHeld ?_
  case h5 => intro w hSw; (try dsimp only at hSw); go_simp; try with_reducible rfl
  try simp only [Act.put, List.setIfInBounds_toArray, List.set_cons_zero, List.set_cons_succ]
  refine wpAnyH_take (i := 5) (oi := ⟨some 17, _, _, _, _, _⟩) rfl (by kernel_rfl) (by kernel_rfl) (by kernel_rfl) (fun _ _ _ h => h) (Or.inr ⟨by kernel_rfl, rfl⟩) hHeld ?_
  try simp only [Act.put, List.setIfInBounds_toArray, List.set_cons_zero, List.set_cons_succ]
  refine wpAnyH_take (i := 6) (oi := ⟨some 18, _, _, _, _, _⟩) rfl (by kernel_rfl) (by kernel_rfl) (by kernel_rfl) (fun _ _ _ h => h) (Or.inr ⟨by kernel_rfl, rfl⟩) hHeld ?_
  try simp only [Act.put, List.setIfInBounds_toArray, List.set_cons_zero, List.set_cons_succ]
  refine wpAnyH_take (i := 7) (oi := ⟨some 19, _, _, _, _, _⟩) rfl (by kernel_rfl) (by kernel_rfl) (by kernel_rfl) (fun _ _ _ h => h) (Or.inr ⟨by kernel_rfl, rfl⟩) hHeld ?_
  try simp only [Act.put, List.setIfInBounds_toArray, List.set_cons_zero, List.set_cons_succ]
  refine wpAnyH_take (i := 8) (oi := ⟨some 20, _, _, _, _, _⟩) (v := ?v9) rfl (by kernel_rfl) (by kernel_rfl) (by kernel_rfl) (fun _ _ _ h => h) (Or.inl ⟨by kernel_rfl, ?h9⟩) hHeld ?_
  case h9 => intro w hSw; (try dsimp only at hSw); go_simp; try with_reducible rfl
  try simp only [Act.put, List.setIfInBounds_toArray, List.set_cons_zero, List.set_cons_succ]
  refine wpAnyH_take (i := 9) (oi := ⟨some 21, _, _, _, _, _⟩) (v := ?v10) rfl (by kernel_rfl) (by kernel_rfl) (by kernel_rfl) (fun _ _ _ h => h) (Or.inl ⟨by kernel_rfl, ?h10⟩) hHeld ?_
  case h10 => intro w hSw; (try dsimp only at hSw); go_simp; try with_reducible rfl
  try simp only [Act.put, List.setIfInBounds_toArray, List.set_cons_zero, List.set_cons_succ]
  refine wpAnyH_take (i := 10) (oi := ⟨some 22, _, _, _, _, _⟩) rfl (by kernel_rfl) (by kernel_rfl) (by kernel_rfl) (fun _ _ _ h => h) (Or.inr ⟨by kernel_rfl, rfl⟩) hHeld ?_
  try simp only [Act.put, List.setIfInBounds_toArray, List.set_cons_zero, List.set_cons_succ]
  refine wpAnyH_take (i := 11) (oi := ⟨some 23, _, _, _, _, _⟩) rfl (by kernel_rfl) (by kernel_rfl) (by kernel_rfl) (fun _ _ _ h => h) (Or.inr ⟨by kernel_rfl, rfl⟩) hHeld ?_
  try simp only [Act.put, List.setIfInBounds_toArray, List.set_cons_zero, List.set_cons_succ]
  refine wpAnyH_take (i := 12) (oi := ⟨some 24, _, _, _, _, _⟩) rfl (by kernel_rfl) (by kernel_rfl) (by kernel_rfl) (fun _ _ _ h => h) (Or.inr ⟨by kernel_rfl, rfl⟩) hHeld ?_
  try simp only [Act.put, List.setIfInBounds_toArray, List.set_cons_zero, List.set_cons_succ]
  refine wpAnyH_take (i := 13) (oi := ⟨some 25, _, _, _, _, _⟩) rfl (by kernel_rfl) (by kernel_rfl) (by kernel_rfl) (fun _ _ _ h => h) (Or.inr ⟨by kernel_rfl, rfl⟩) hHeld ?_
  try simp only [Act.put, List.setIfInBounds_toArray, List.set_cons_zero, List.set_cons_succ]
  refine wpAnyH_take (i := 14) (oi := ⟨some 26, _, _, _, _, _⟩) rfl (by kernel_rfl) (by kernel_rfl) (by kernel_rfl) (fun _ _ _ h => h) (Or.inr ⟨by kernel_rfl, rfl⟩) hHeld ?_
  try simp only [Act.put, List.setIfInBounds_toArray, List.set_cons_zero, List.set_cons_succ]
  refine wpAnyH_take (i := 15) (oi := ⟨some 27, _, _, _, _, _⟩) rfl (by kernel_rfl) (by kernel_rfl) (by kernel_rfl) (fun _ _ _ h => h) (Or.inr ⟨by kernel_rfl, rfl⟩) hHeld ?_
  try simp only [Act.put, List.setIfInBounds_toArray, List.set_cons_zero, List.set_cons_succ]
  refine wpAnyH_take (i := 16) (oi := ⟨some 28, _, _, _, _, _⟩) rfl (by kernel_rfl) (by kernel_rfl) (by kernel_rfl) (fun _ _ _ h => h) (Or.inr ⟨by kernel_rfl, rfl⟩) hHeld ?_
  try simp only [Act.put, List.setIfInBounds_toArray, List.set_cons_zero, List.set_cons_succ]
  refine wpAnyH_take (i := 17) (oi := ⟨some 29, _, _, _, _, _⟩) rfl (by kernel_rfl) (by kernel_rfl) (by kernel_rfl) (fun _ _ _ h => h) (Or.inr ⟨by kernel_rfl, rfl⟩) hHeld ?_
  try simp only [Act.put, List.setIfInBounds_toArray, List.set_cons_zero, List.set_cons_succ]
  refine wpAnyH_take (i := 18) (oi := ⟨some 30, _, _, _, _, _⟩) rfl (by kernel_rfl) (by kernel_rfl) (by kernel_rfl) (fun _ _ _ h => h) (Or.inr ⟨by kernel_rfl, rfl⟩) hHeld ?_
  try simp only [Act.put, List.setIfInBounds_toArray, List.set_cons_zero, List.set_cons_succ]
  refine wpAnyH_take (i := 19) (oi := ⟨some 31, _, _, _, _, _⟩) rfl (by kernel_rfl) (by kernel_rfl) (by kernel_rfl) (fun _ _ _ h => h) (Or.inr ⟨by kernel_rfl, rfl⟩) hHeld ?_
  try simp only [Act.put, List.setIfInBounds_toArray, List.set_cons_zero, List.set_cons_succ]
  refine wpAnyH_take (i := 20) (oi := ⟨some 32, _, _, _, _, _⟩) (v := ?v21) rfl (by kernel_rfl) (by kernel_rfl) (by kernel_rfl) (fun _ _ _ h => h) (Or.inl ⟨by kernel_rfl, ?h21⟩) hHeld ?_
  case h21 => intro w hSw; (try dsimp only at hSw); go_simp; try with_reducible rfl
  try simp only [Act.put, List.setIfInBounds_toArray, List.set_cons_zero, List.set_cons_succ]
  refine wpAnyH_take (i := 21) (oi := ⟨some 33, _, _, _, _, _⟩) (v := ?v22) rfl (by kernel_rfl) (by kernel_rfl) (by kernel_rfl) (fun _ _ _ h => h) (Or.inl ⟨by kernel_rfl, ?h22⟩) hHeld ?_
  case h22 => intro w hSw; (try dsimp only at hSw); go_simp; try with_reducible rfl
  try simp only [Act.put, List.setIfInBounds_toArray, List.set_cons_zero, List.set_cons_succ]
  refine wpAnyH_take (i := 22) (oi := ⟨some 34, _, _, _, _, _⟩) rfl (by kernel_rfl) (by kernel_rfl) (by kernel_rfl) (fun _ _ _ h => h) (Or.inr ⟨by kernel_rfl, rfl⟩) hHeld ?_
  try simp only [Act.put, List.setIfInBounds_toArray, List.set_cons_zero, List.set_cons_succ]
  refine wpAnyH_take (i := 23) (oi := ⟨some 35, _, _, _, _, _⟩) rfl (by kernel_rfl) (by kernel_rfl) (by kernel_rfl) (fun _ _ _ h => h) (Or.inr ⟨by kernel_rfl, rfl⟩) hHeld ?_
  try simp only [Act.put, List.setIfInBounds_toArray, List.set_cons_zero, List.set_cons_succ]
  refine wpAnyH_take (i := 24) (oi := ⟨some 36, _, _, _, _, _⟩) rfl (by kernel_rfl) (by kernel_rfl) (by kernel_rfl) (fun _ _ _ h => h) (Or.inr ⟨by kernel_rfl, rfl⟩) hHeld ?_
  try simp only [Act.put, List.setIfInBounds_toArray, List.set_cons_zero, List.set_cons_succ]
  refine wpAnyH_take (i := 25) (oi := ⟨some 37, _, _, _, _, _⟩) (v := ?v26) rfl (by kernel_rfl) (by kernel_rfl) (by kernel_rfl) (fun _ _ _ h => h) (Or.inl ⟨by kernel_rfl, ?h26⟩) hHeld ?_
  case h26 => intro w hSw; (try dsimp only at hSw); go_simp; try with_reducible rfl
  try simp only [Act.put, List.setIfInBounds_toArray, List.set_cons_zero, List.set_cons_succ]
  refine wpAnyH_take (i := 26) (oi := ⟨some 38, _, _, _, _, _⟩) (v := ?v27) rfl (by kernel_rfl) (by kernel_rfl) (by kernel_rfl) (fun _ _ _ h => h) (Or.inl ⟨by kernel_rfl, ?h27⟩) hHeld ?_
  case h27 => intro w hSw; (try dsimp only at hSw); go_simp; try with_reducible rfl
  try simp only [Act.put, List.setIfInBounds_toArray, List.set_cons_zero, List.set_cons_succ]
  refine wpAnyH_take (i := 27) (oi := ⟨some 39, _, _, _, _, _⟩) rfl (by kernel_rfl) (by kernel_rfl) (by kernel_rfl) (fun _ _ _ h => h) (Or.inr ⟨by kernel_rfl, rfl⟩) hHeld ?_
  try simp only [Act.put, List.setIfInBounds_toArray, List.set_cons_zero, List.set_cons_succ]
  refine wpAnyH_take (i := 28) (oi := ⟨some 40, _, _, _, _, _⟩) rfl (by kernel_rfl) (by kernel_rfl) (by kernel_rfl) (fun _ _ _ h => h) (Or.inr ⟨by kernel_rfl, rfl⟩) hHeld ?_
  try simp only [Act.put, List.setIfInBounds_toArray, List.set_cons_zero, List.set_cons_succ]
  refine wpAnyH_take (i := 29) (oi := ⟨some 41, _, _, _, _, _⟩) rfl (by kernel_rfl) (by kernel_rfl) (by kernel_rfl) (fun _ _ _ h => h) (Or.inr ⟨by kernel_rfl, rfl⟩) hHeld ?_
  try simp only [Act.put, List.setIfInBounds_toArray, List.set_cons_zero, List.set_cons_succ]
  refine wpAnyH_take (i := 30) (oi := ⟨some 42, _, _, _, _, _⟩) (v := ?v31) rfl (by kernel_rfl) (by kernel_rfl) (by kernel_rfl) (fun _ _ _ h => h) (Or.inl ⟨by kernel_rfl, ?h31⟩) hHeld ?_
  case h31 => intro w hSw; (try dsimp only at hSw); go_simp; try with_reducible rfl
  try simp only [Act.put, List.setIfInBounds_toArray, List.set_cons_zero, List.set_cons_succ]
  refine wpAnyH_done (by kernel_rfl) ?_ _
  have hWv := hHeld.2.2.2.2.2.2.2.2.2.2
  have hb3 := hWv.obj HB3.out
  obtain ⟨r0, r1, r2, rf⟩ := cells3x hb3
  obtain ⟨k0, k1, k2, -⟩ := hHeld
  have hs9 : Same w _ := hs0.trans hWv
  clear hWv hb3 hs0 hrm xf yf zf x0 x1 x2 y0 y1 z0 z1 z2 z3
  go_wp2
  refine bodyPost_ret (v := .tuple #[.agg #[.slice wa n wc, .slice ea n ec, .int .i64 cnt], .int .u64 0, .bool false]) (by simp [results, Try.results32, go_sem, r0, r1, r2]) rfl ⟨rfl, ?_⟩
  exact same_then hs9 (Nat.le_add_right _ 3) (sep3 _ (w.heap.size + 3) _ _ _)

set_option maxRecDepth 100000 in
set_option maxHeartbeats 1000000 in
theorem rdo_neg {F : Nat → Prop} {w : World} {L : List Reg} {cnt n : Nat} {wa ea : Option Addr} {wc ec : Nat} (ci ce op at_ x y : Int) (h : RM F w (.agg #[.slice wa n wc, .slice ea n ec, .int .i64 cnt]) L cnt) (hg : goodB L ci ce = true) (h2 : decide (at_ < 0) = true) :
    Calls Try.prog 32 #[.agg #[.slice wa n wc, .slice ea n ec, .int .i64 cnt], .agg #[.int .i64 ci, .int .u64 ce], .agg #[.int .i64 op, .int .i64 at_, .int .u64 x, .int .u64 y]] w fun e w' => e = .returned (.tuple #[.agg #[.slice wa n wc, .slice ea n ec, .int .i64 cnt], .int .u64 0, .bool false]) ∧ Same w w' := by
  obtain ⟨W, hW, hs0, hsz, b0, b1, b2, b3⟩ := four_r w #[.slice wa n wc, .slice ea n ec, .int .i64 cnt] #[.int .i64 ci, .int .u64 ce] #[.int .i64 op, .int .i64 at_, .int .u64 x, .int .u64 y] #[.slice none 0 0, .slice none 0 0, .int .i64 0]
  have hrm := h.same hs0
  obtain ⟨x0, x1, x2, xf⟩ := cells3x b0
  obtain ⟨y0, y1, yf⟩ := cells2 b1
  obtain ⟨z0, z1, z2, z3, zf⟩ := cells4x b2
  have HW := Lib.hid hW
  have HB3 := Lib.hid b3
  clear hW h b0 b1 b2 b3
  go_enter Try.func32, Try.ntmps32
  go_wp2_with fail
  rw [← HW.out]
  refine wp_region_held_drew (S := (fun v => v.cell? ⟨w.heap.size, 0, none⟩ = some (.slice wa n wc) ∧ v.cell? ⟨w.heap.size, 1, none⟩ = some (.slice ea n ec) ∧ v.cell? ⟨w.heap.size, 2, none⟩ = some (.int .i64 cnt) ∧ v.cell? ⟨w.heap.size + 1, 0, none⟩ = some (.int .i64 ci) ∧ v.cell? ⟨w.heap.size + 1, 1, none⟩ = some (.int .u64 ce) ∧ v.cell? ⟨w.heap.size + 2, 0, none⟩ = some (.int .i64 op) ∧ v.cell? ⟨w.heap.size + 2, 1, none⟩ = some (.int .i64 at_) ∧ v.cell? ⟨w.heap.size + 2, 2, none⟩ = some (.int .u64 x) ∧ v.cell? ⟨w.heap.size + 2, 3, none⟩ = some (.int .u64 y) ∧ RM F v (.agg #[.slice wa n wc, .slice ea n ec, .int .i64 cnt]) L cnt ∧ Same W v)) (by kernel_rfl) ?_ (fun hHeld => ?_)
  · exact ⟨(Sep.drew (fun _ => False) W).cell x0 (fun x => x), (Sep.drew (fun _ => False) W).cell x1 (fun x => x), (Sep.drew (fun _ => False) W).cell x2 (fun x => x), (Sep.drew (fun _ => False) W).cell y0 (fun x => x), (Sep.drew (fun _ => False) W).cell y1 (fun x => x), (Sep.drew (fun _ => False) W).cell z0 (fun x => x), (Sep.drew (fun _ => False) W).cell z1 (fun x => x), (Sep.drew (fun _ => False) W).cell z2 (fun x => x), (Sep.drew (fun _ => False) W).cell z3 (fun x => x), hrm.same (Sep.drew _ _), Sep.drew _ _⟩
  change wpAnyH _ _ _ _ _ 31 _ _ _
  refine wpAnyH_take (i := 0) (oi := ⟨some 12, _, _, _, _, _⟩) (v := ?v32) rfl (by kernel_rfl) (by kernel_rfl) (by kernel_rfl) (fun _ _ _ h => h) (Or.inl ⟨by kernel_rfl, ?h32⟩) hHeld ?_
  case h32 => intro w hSw; (try dsimp only at hSw); go_simp; try with_reducible rfl
  try simp only [Act.put, List.setIfInBounds_toArray, List.set_cons_zero, List.set_cons_succ]
  refine wpAnyH_take (i := 1) (oi := ⟨some 13, _, _, _, _, _⟩) (v := ?v33) rfl (by kernel_rfl) (by kernel_rfl) (by kernel_rfl) (fun _ _ _ h => h) (Or.inl ⟨by kernel_rfl, ?h33⟩) hHeld ?_
  case h33 => intro w hSw; (try dsimp only at hSw); go_simp; try with_reducible rfl
  try simp only [Act.put, List.setIfInBounds_toArray, List.set_cons_zero, List.set_cons_succ]
  refine wpAnyH_ready (rs := [2]) (by kernel_rfl) (by simp) ?_
  refine AllReadyH.cons (o := ⟨some 14, _, _, _, _, _⟩) rfl (fun K hK => ?_) AllReadyH.nil
  rw [if_pos (by kernel_rfl)]
  go_simp
  refine (rgood hHeld.2.2.2.2.2.2.2.2.2.1 ci ce).mono ?_
  rintro e w2 ⟨rfl, hs⟩
  rw [hg]
  refine hK.out _ _ ?_ (fun hHeld => ?_)
  · exact ⟨Same.cell hs hHeld.1, Same.cell hs hHeld.2.1, Same.cell hs hHeld.2.2.1, Same.cell hs hHeld.2.2.2.1, Same.cell hs hHeld.2.2.2.2.1, Same.cell hs hHeld.2.2.2.2.2.1, Same.cell hs hHeld.2.2.2.2.2.2.1, Same.cell hs hHeld.2.2.2.2.2.2.2.1, Same.cell hs hHeld.2.2.2.2.2.2.2.2.1, RM.same hHeld.2.2.2.2.2.2.2.2.2.1 hs, Sep.trans hHeld.2.2.2.2.2.2.2.2.2.2 hs⟩
  clear hK K
  try simp only [Act.put, List.setIfInBounds_toArray, List.set_cons_zero, List.set_cons_succ]
  refine wpAnyH_take (i := 3) (oi := ⟨some 15, _, _, _, _, _⟩) (v := ?v35) rfl (by kernel_rfl) (by kernel_rfl) (by kernel_rfl) (fun _ _ _ h => h) (Or.inl ⟨by kernel_rfl, ?h35⟩) hHeld ?_
  case h35 => intro w hSw; (try dsimp only at hSw); go_simp; try with_reducible rfl
  try simp only [Act.put, List.setIfInBounds_toArray, List.set_cons_zero, List.set_cons_succ]
  refine wpAnyH_take (i := 4) (oi := ⟨some 16, _, _, _, _, _⟩) (v := ?v36) rfl (by kernel_rfl) (by kernel_rfl) (by kernel_rfl) (fun _ _ _ h => h) (Or.inl ⟨by kernel_rfl, ?h36⟩) hHeld ?_
  case h36 => intro w hSw; (try dsimp only at hSw); go_simp; try with_reducible rfl
  try simp only [Act.put, List.setIfInBounds_toArray, List.set_cons_zero, List.set_cons_succ]
  refine wpAnyH_take (i := 5) (oi := ⟨some 17, _, _, _, _, _⟩) (v := ?v37) rfl (by kernel_rfl) (by kernel_rfl) (by kernel_rfl) (fun _ _ _ h => h) (Or.inl ⟨by kernel_rfl, ?h37⟩) hHeld ?_
  case h37 => intro w hSw; (try dsimp only at hSw); go_simp; try with_reducible rfl
  try simp only [Act.put, List.setIfInBounds_toArray, List.set_cons_zero, List.set_cons_succ]
  refine wpAnyH_take (i := 6) (oi := ⟨some 18, _, _, _, _, _⟩) (v := ?v38) rfl (by kernel_rfl) (by kernel_rfl) (by kernel_rfl) (fun _ _ _ h => h) (Or.inl ⟨by kernel_rfl, ?h38⟩) hHeld ?_
  case h38 => intro w hSw; (try dsimp only at hSw); go_simp; try with_reducible rfl
  try simp only [Act.put, List.setIfInBounds_toArray, List.set_cons_zero, List.set_cons_succ]
  refine wpAnyH_take (i := 7) (oi := ⟨some 19, _, _, _, _, _⟩) (v := ?v39) rfl (by kernel_rfl) (by kernel_rfl) (by kernel_rfl) (fun _ _ _ h => h) (Or.inl ⟨by kernel_rfl, ?h39⟩) hHeld ?_
  case h39 => intro w hSw; (try dsimp only at hSw); go_simp; try with_reducible rfl
  try simp only [Act.put, List.setIfInBounds_toArray, List.set_cons_zero, List.set_cons_succ]
  refine wpAnyH_take (i := 8) (oi := ⟨some 20, _, _, _, _, _⟩) (v := ?v40) rfl (by kernel_rfl) (by kernel_rfl) (by kernel_rfl) (fun _ _ _ h => h) (Or.inl ⟨by kernel_rfl, ?h40⟩) hHeld ?_
  case h40 => intro w hSw; (try dsimp only at hSw); go_simp; try with_reducible rfl
  try simp only [Act.put, List.setIfInBounds_toArray, List.set_cons_zero, List.set_cons_succ]
  refine wpAnyH_take (i := 9) (oi := ⟨some 21, _, _, _, _, _⟩) (v := ?v41) rfl (by kernel_rfl) (by kernel_rfl) (by kernel_rfl) (fun _ _ _ h => h) (Or.inl ⟨by kernel_rfl, ?h41⟩) hHeld ?_
  case h41 => intro w hSw; (try dsimp only at hSw); go_simp; try with_reducible rfl
  try simp only [Act.put, List.setIfInBounds_toArray, List.set_cons_zero, List.set_cons_succ]
  refine wpAnyH_take (i := 10) (oi := ⟨some 22, _, _, _, _, _⟩) rfl (by kernel_rfl) (by kernel_rfl) (by kernel_rfl) (fun _ _ _ h => h) (Or.inr ⟨by kernel_rfl, rfl⟩) hHeld ?_
  try simp only [Act.put, List.setIfInBounds_toArray, List.set_cons_zero, List.set_cons_succ]
  refine wpAnyH_take (i := 11) (oi := ⟨some 23, _, _, _, _, _⟩) rfl (by kernel_rfl) (by kernel_rfl) (by kernel_rfl) (fun _ _ _ h => h) (Or.inr ⟨by kernel_rfl, rfl⟩) hHeld ?_
  try simp only [Act.put, List.setIfInBounds_toArray, List.set_cons_zero, List.set_cons_succ]
  refine wpAnyH_take (i := 12) (oi := ⟨some 24, _, _, _, _, _⟩) rfl (by kernel_rfl) (by kernel_rfl) (by kernel_rfl) (fun _ _ _ h => h) (Or.inr ⟨by kernel_rfl, rfl⟩) hHeld ?_
  try simp only [Act.put, List.setIfInBounds_toArray, List.set_cons_zero, List.set_cons_succ]
  refine wpAnyH_take (i := 13) (oi := ⟨some 25, _, _, _, _, _⟩) rfl (by kernel_rfl) (by kernel_rfl) (by kernel_rfl) (fun _ _ _ h => h) (Or.inr ⟨by kernel_rfl, rfl⟩) hHeld ?_
  try simp only [Act.put, List.setIfInBounds_toArray, List.set_cons_zero, List.set_cons_succ]
  refine wpAnyH_take (i := 14) (oi := ⟨some 26, _, _, _, _, _⟩) rfl (by kernel_rfl) (by kernel_rfl) (by kernel_rfl) (fun _ _ _ h => h) (Or.inr ⟨by kernel_rfl, rfl⟩) hHeld ?_
  try simp only [Act.put, List.setIfInBounds_toArray, List.set_cons_zero, List.set_cons_succ]
  refine wpAnyH_take (i := 15) (oi := ⟨some 27, _, _, _, _, _⟩) rfl (by kernel_rfl) (by kernel_rfl) (by kernel_rfl) (fun _ _ _ h => h) (Or.inr ⟨by kernel_rfl, rfl⟩) hHeld ?_
  try simp only [Act.put, List.setIfInBounds_toArray, List.set_cons_zero, List.set_cons_succ]
  refine wpAnyH_take (i := 16) (oi := ⟨some 28, _, _, _, _, _⟩) rfl (by kernel_rfl) (by kernel_rfl) (by kernel_rfl) (fun _ _ _ h => h) (Or.inr ⟨by kernel_rfl, rfl⟩) hHeld ?_
  try simp only [Act.put, List.setIfInBounds_toArray, List.set_cons_zero, List.set_cons_succ]
  refine wpAnyH_take (i := 17) (oi := ⟨some 29, _, _, _, _, _⟩) rfl (by kernel_rfl) (by kernel_rfl) (by kernel_rfl) (fun _ _ _ h => h) (Or.inr ⟨by kernel_rfl, rfl⟩) hHeld ?_
  try simp only [Act.put, List.setIfInBounds_toArray, List.set_cons_zero, List.set_cons_succ]
  refine wpAnyH_take (i := 18) (oi := ⟨some 30, _, _, _, _, _⟩) rfl (by kernel_rfl) (by kernel_rfl) (by kernel_rfl) (fun _ _ _ h => h) (Or.inr ⟨by kernel_rfl, rfl⟩) hHeld ?_
  try simp only [Act.put, List.setIfInBounds_toArray, List.set_cons_zero, List.set_cons_succ]
  refine wpAnyH_take (i := 19) (oi := ⟨some 31, _, _, _, _, _⟩) rfl (by kernel_rfl) (by kernel_rfl) (by kernel_rfl) (fun _ _ _ h => h) (Or.inr ⟨by kernel_rfl, rfl⟩) hHeld ?_
  try simp only [Act.put, List.setIfInBounds_toArray, List.set_cons_zero, List.set_cons_succ]
  refine wpAnyH_take (i := 20) (oi := ⟨some 32, _, _, _, _, _⟩) (v := ?v52) rfl (by kernel_rfl) (by kernel_rfl) (by kernel_rfl) (fun _ _ _ h => h) (Or.inl ⟨by kernel_rfl, ?h52⟩) hHeld ?_
  case h52 => intro w hSw; (try dsimp only at hSw); go_simp; try with_reducible rfl
  try simp only [Act.put, List.setIfInBounds_toArray, List.set_cons_zero, List.set_cons_succ]
  refine wpAnyH_take (i := 21) (oi := ⟨some 33, _, _, _, _, _⟩) (v := ?v53) rfl (by kernel_rfl) (by kernel_rfl) (by kernel_rfl) (fun _ _ _ h => h) (Or.inl ⟨by kernel_rfl, ?h53⟩) hHeld ?_
  case h53 => intro w hSw; (try dsimp only at hSw); go_simp; try with_reducible rfl
  try simp only [Act.put, List.setIfInBounds_toArray, List.set_cons_zero, List.set_cons_succ]
  refine wpAnyH_take (i := 22) (oi := ⟨some 34, _, _, _, _, _⟩) rfl (by kernel_rfl) (by kernel_rfl) (by kernel_rfl) (fun _ _ _ h => h) (Or.inr ⟨by kernel_rfl, rfl⟩) hHeld ?_
  try simp only [Act.put, List.setIfInBounds_toArray, List.set_cons_zero, List.set_cons_succ]
  refine wpAnyH_take (i := 23) (oi := ⟨some 35, _, _, _, _, _⟩) rfl (by kernel_rfl) (by kernel_rfl) (by kernel_rfl) (fun _ _ _ h => h) (Or.inr ⟨by kernel_rfl, rfl⟩) hHeld ?_
  try simp only [Act.put, List.setIfInBounds_toArray, List.set_cons_zero, List.set_cons_succ]
  refine wpAnyH_take (i := 24) (oi := ⟨some 36, _, _, _, _, _⟩) rfl (by kernel_rfl) (by kernel_rfl) (by kernel_rfl) (fun _ _ _ h => h) (Or.inr ⟨by kernel_rfl, rfl⟩) hHeld ?_
  try simp only [Act.put, List.setIfInBounds_toArray, List.set_cons_zero, List.set_cons_succ]
  refine wpAnyH_take (i := 25) (oi := ⟨some 37, _, _, _, _, _⟩) (v := ?v57) rfl (by kernel_rfl) (by kernel_rfl) (by kernel_rfl) (fun _ _ _ h => h) (Or.inl ⟨by kernel_rfl, ?h57⟩) hHeld ?_
  case h57 => intro w hSw; (try dsimp only at hSw); go_simp; try with_reducible rfl
  try simp only [Act.put, List.setIfInBounds_toArray, List.set_cons_zero, List.set_cons_succ]
  refine wpAnyH_take (i := 26) (oi := ⟨some 38, _, _, _, _, _⟩) (v := ?v58) rfl (by kernel_rfl) (by kernel_rfl) (by kernel_rfl) (fun _ _ _ h => h) (Or.inl ⟨by kernel_rfl, ?h58⟩) hHeld ?_
  case h58 => intro w hSw; (try dsimp only at hSw); go_simp; try with_reducible rfl
  try simp only [Act.put, List.setIfInBounds_toArray, List.set_cons_zero, List.set_cons_succ]
  refine wpAnyH_take (i := 27) (oi := ⟨some 39, _, _, _, _, _⟩) rfl (by kernel_rfl) (by kernel_rfl) (by kernel_rfl) (fun _ _ _ h => h) (Or.inr ⟨by kernel_rfl, rfl⟩) hHeld ?_
  try simp only [Act.put, List.setIfInBounds_toArray, List.set_cons_zero, List.set_cons_succ]
  refine wpAnyH_take (i := 28) (oi := ⟨some 40, _, _, _, _, _⟩) rfl (by kernel_rfl) (by kernel_rfl) (by kernel_rfl) (fun _ _ _ h => h) (Or.inr ⟨by kernel_rfl, rfl⟩) hHeld ?_
  try simp only [Act.put, List.setIfInBounds_toArray, List.set_cons_zero, List.set_cons_succ]
  refine wpAnyH_take (i := 29) (oi := ⟨some 41, _, _, _, _, _⟩) rfl (by kernel_rfl) (by kernel_rfl) (by kernel_rfl) (fun _ _ _ h => h) (Or.inr ⟨by kernel_rfl, rfl⟩) hHeld ?_
  try simp only [Act.put, List.setIfInBounds_toArray, List.set_cons_zero, List.set_cons_succ]
  refine wpAnyH_take (i := 30) (oi := ⟨some 42, _, _, _, _, _⟩) (v := ?v62) rfl (by kernel_rfl) (by kernel_rfl) (by kernel_rfl) (fun _ _ _ h => h) (Or.inl ⟨by kernel_rfl, ?h62⟩) hHeld ?_
  case h62 => intro w hSw; (try dsimp only at hSw); go_simp; try with_reducible rfl
  try simp only [Act.put, List.setIfInBounds_toArray, List.set_cons_zero, List.set_cons_succ]
  refine wpAnyH_done (by kernel_rfl) ?_ _
  have hWv := hHeld.2.2.2.2.2.2.2.2.2.2
  have hb3 := hWv.obj HB3.out
  obtain ⟨r0, r1, r2, rf⟩ := cells3x hb3
  obtain ⟨k0, k1, k2, -⟩ := hHeld
  have hs9 : Same w _ := hs0.trans hWv
  clear hWv hb3 hs0 hrm xf yf zf x0 x1 x2 y0 y1 z0 z1 z2 z3
  go_wp2
  refine bodyPost_ret (v := .tuple #[.agg #[.slice wa n wc, .slice ea n ec, .int .i64 cnt], .int .u64 0, .bool false]) (by simp [results, Try.results32, go_sem, r0, r1, r2]) rfl ⟨rfl, ?_⟩
  exact same_then hs9 (Nat.le_add_right _ 3) (sep3 _ (w.heap.size + 3) _ _ _)

set_option maxRecDepth 100000 in
set_option maxHeartbeats 1000000 in
theorem rdo_far {F : Nat → Prop} {w : World} {L : List Reg} {cnt n : Nat} {wb wo eb eo rn rc : Nat} {ra : Option Addr} {wc ec : Nat} (i j : Nat) (ce op x y : Int) (h : RM F w (.agg #[.slice (some ⟨wb, wo, none⟩) n wc, .slice (some ⟨eb, eo, none⟩) n ec, .int .i64 cnt]) L cnt) (hg : goodB L (i : Int) ce = true) (hi : i < n) (hcw0 : w.cell? ⟨wb, wo + i, none⟩ = some (.slice ra rn rc)) (h2 : decide ((j : Int) < 0) = false) (h3 : decide (rn ≤ j) = true) :
    Calls Try.prog 32 #[.agg #[.slice (some ⟨wb, wo, none⟩) n wc, .slice (some ⟨eb, eo, none⟩) n ec, .int .i64 cnt], .agg #[.int .i64 (i : Int), .int .u64 ce], .agg #[.int .i64 op, .int .i64 (j : Int), .int .u64 x, .int .u64 y]] w fun e w' => e = .returned (.tuple #[.agg #[.slice (some ⟨wb, wo, none⟩) n wc, .slice (some ⟨eb, eo, none⟩) n ec, .int .i64 cnt], .int .u64 0, .bool false]) ∧ Same w w' := by
  obtain ⟨W, hW, hs0, hsz, b0, b1, b2, b3⟩ := four_r w #[.slice (some ⟨wb, wo, none⟩) n wc, .slice (some ⟨eb, eo, none⟩) n ec, .int .i64 cnt] #[.int .i64 (i : Int), .int .u64 ce] #[.int .i64 op, .int .i64 (j : Int), .int .u64 x, .int .u64 y] #[.slice none 0 0, .slice none 0 0, .int .i64 0]
  have hrm := h.same hs0
  have hcw := hs0.cell hcw0
  have g0 : (0 : Int) ≤ (i : Int) := Int.natCast_nonneg _
  have g1 : (i : Int) < (n : Int) := by omega
  clear hcw0
  obtain ⟨x0, x1, x2, xf⟩ := cells3x b0
  obtain ⟨y0, y1, yf⟩ := cells2 b1
  obtain ⟨z0, z1, z2, z3, zf⟩ := cells4x b2
  have HW := Lib.hid hW
  have HB3 := Lib.hid b3
  clear hW h b0 b1 b2 b3
  go_enter Try.func32, Try.ntmps32
  go_wp2_with fail
  rw [← HW.out]
  refine wp_region_held_drew (S := (fun v => v.cell? ⟨w.heap.size, 0, none⟩ = some (.slice (some ⟨wb, wo, none⟩) n wc) ∧ v.cell? ⟨w.heap.size, 1, none⟩ = some (.slice (some ⟨eb, eo, none⟩) n ec) ∧ v.cell? ⟨w.heap.size, 2, none⟩ = some (.int .i64 cnt) ∧ v.cell? ⟨w.heap.size + 1, 0, none⟩ = some (.int .i64 (i : Int)) ∧ v.cell? ⟨w.heap.size + 1, 1, none⟩ = some (.int .u64 ce) ∧ v.cell? ⟨w.heap.size + 2, 0, none⟩ = some (.int .i64 op) ∧ v.cell? ⟨w.heap.size + 2, 1, none⟩ = some (.int .i64 (j : Int)) ∧ v.cell? ⟨w.heap.size + 2, 2, none⟩ = some (.int .u64 x) ∧ v.cell? ⟨w.heap.size + 2, 3, none⟩ = some (.int .u64 y) ∧ v.cell? ⟨wb, wo + i, none⟩ = some (.slice ra rn rc) ∧ RM F v (.agg #[.slice (some ⟨wb, wo, none⟩) n wc, .slice (some ⟨eb, eo, none⟩) n ec, .int .i64 cnt]) L cnt ∧ Same W v)) (by kernel_rfl) ?_ (fun hHeld => ?_)
  · exact ⟨(Sep.drew (fun _ => False) W).cell x0 (fun x => x), (Sep.drew (fun _ => False) W).cell x1 (fun x => x), (Sep.drew (fun _ => False) W).cell x2 (fun x => x), (Sep.drew (fun _ => False) W).cell y0 (fun x => x), (Sep.drew (fun _ => False) W).cell y1 (fun x => x), (Sep.drew (fun _ => False) W).cell z0 (fun x => x), (Sep.drew (fun _ => False) W).cell z1 (fun x => x), (Sep.drew (fun _ => False) W).cell z2 (fun x => x), (Sep.drew (fun _ => False) W).cell z3 (fun x => x), (Sep.drew (fun _ => False) W).cell hcw (fun x => x), hrm.same (Sep.drew _ _), Sep.drew _ _⟩
  change wpAnyH _ _ _ _ _ 31 _ _ _
  refine wpAnyH_take (i := 0) (oi := ⟨some 12, _, _, _, _, _⟩) (v := ?v63) rfl (by kernel_rfl) (by kernel_rfl) (by kernel_rfl) (fun _ _ _ h => h) (Or.inl ⟨by kernel_rfl, ?h63⟩) hHeld ?_
  case h63 => intro w hSw; (try dsimp only at hSw); go_simp; try with_reducible rfl
  try simp only [Act.put, List.setIfInBounds_toArray, List.set_cons_zero, List.set_cons_succ]
  refine wpAnyH_take (i := 1) (oi := ⟨some 13, _, _, _, _, _⟩) (v := ?v64) rfl (by kernel_rfl) (by kernel_rfl) (by kernel_rfl) (fun _ _ _ h => h) (Or.inl ⟨by kernel_rfl, ?h64⟩) hHeld ?_
  case h64 => intro w hSw; (try dsimp only at hSw); go_simp; try with_reducible rfl
  try simp only [Act.put, List.setIfInBounds_toArray, List.set_cons_zero, List.set_cons_succ]
  refine wpAnyH_ready (rs := [2]) (by kernel_rfl) (by simp) ?_
  refine AllReadyH.cons (o := ⟨some 14, _, _, _, _, _⟩) rfl (fun K hK => ?_) AllReadyH.nil
  rw [if_pos (by kernel_rfl)]
  go_simp
  refine (rgood hHeld.2.2.2.2.2.2.2.2.2.2.1 (i : Int) ce).mono ?_
  rintro e w2 ⟨rfl, hs⟩
  rw [hg]
  refine hK.out _ _ ?_ (fun hHeld => ?_)
  · exact ⟨Same.cell hs hHeld.1, Same.cell hs hHeld.2.1, Same.cell hs hHeld.2.2.1, Same.cell hs hHeld.2.2.2.1, Same.cell hs hHeld.2.2.2.2.1, Same.cell hs hHeld.2.2.2.2.2.1, Same.cell hs hHeld.2.2.2.2.2.2.1, Same.cell hs hHeld.2.2.2.2.2.2.2.1, Same.cell hs hHeld.2.2.2.2.2.2.2.2.1, Same.cell hs hHeld.2.2.2.2.2.2.2.2.2.1, RM.same hHeld.2.2.2.2.2.2.2.2.2.2.1 hs, Sep.trans hHeld.2.2.2.2.2.2.2.2.2.2.2 hs⟩
  clear hK K
  try simp only [Act.put, List.setIfInBounds_toArray, List.set_cons_zero, List.set_cons_succ]
  refine wpAnyH_take (i := 3) (oi := ⟨some 15, _, _, _, _, _⟩) (v := ?v66) rfl (by kernel_rfl) (by kernel_rfl) (by kernel_rfl) (fun _ _ _ h => h) (Or.inl ⟨by kernel_rfl, ?h66⟩) hHeld ?_
  case h66 => intro w hSw; (try dsimp only at hSw); go_simp; try with_reducible rfl
  try simp only [Act.put, List.setIfInBounds_toArray, List.set_cons_zero, List.set_cons_succ]
  refine wpAnyH_take (i := 4) (oi := ⟨some 16, _, _, _, _, _⟩) (v := ?v67) rfl (by kernel_rfl) (by kernel_rfl) (by kernel_rfl) (fun _ _ _ h => h) (Or.inl ⟨by kernel_rfl, ?h67⟩) hHeld ?_
  case h67 => intro w hSw; (try dsimp only at hSw); go_simp; try with_reducible rfl
  try simp only [Act.put, List.setIfInBounds_toArray, List.set_cons_zero, List.set_cons_succ]
  refine wpAnyH_take (i := 5) (oi := ⟨some 17, _, _, _, _, _⟩) (v := ?v68) rfl (by kernel_rfl) (by kernel_rfl) (by kernel_rfl) (fun _ _ _ h => h) (Or.inl ⟨by kernel_rfl, ?h68⟩) hHeld ?_
  case h68 => intro w hSw; (try dsimp only at hSw); go_simp; try with_reducible rfl
  try simp only [Act.put, List.setIfInBounds_toArray, List.set_cons_zero, List.set_cons_succ]
  refine wpAnyH_take (i := 6) (oi := ⟨some 18, _, _, _, _, _⟩) (v := ?v69) rfl (by kernel_rfl) (by kernel_rfl) (by kernel_rfl) (fun _ _ _ h => h) (Or.inl ⟨by kernel_rfl, ?h69⟩) hHeld ?_
  case h69 => intro w hSw; (try dsimp only at hSw); go_simp; try with_reducible rfl
  try simp only [Act.put, List.setIfInBounds_toArray, List.set_cons_zero, List.set_cons_succ]
  refine wpAnyH_take (i := 7) (oi := ⟨some 19, _, _, _, _, _⟩) (v := ?v70) rfl (by kernel_rfl) (by kernel_rfl) (by kernel_rfl) (fun _ _ _ h => h) (Or.inl ⟨by kernel_rfl, ?h70⟩) hHeld ?_
  case h70 => intro w hSw; (try dsimp only at hSw); go_simp; try with_reducible rfl
  try simp only [Act.put, List.setIfInBounds_toArray, List.set_cons_zero, List.set_cons_succ]
  refine wpAnyH_take (i := 8) (oi := ⟨some 20, _, _, _, _, _⟩) (v := ?v71) rfl (by kernel_rfl) (by kernel_rfl) (by kernel_rfl) (fun _ _ _ h => h) (Or.inl ⟨by kernel_rfl, ?h71⟩) hHeld ?_
  case h71 => intro w hSw; (try dsimp only at hSw); go_simp; try with_reducible rfl
  try simp only [Act.put, List.setIfInBounds_toArray, List.set_cons_zero, List.set_cons_succ]
  refine wpAnyH_take (i := 9) (oi := ⟨some 21, _, _, _, _, _⟩) (v := ?v72) rfl (by kernel_rfl) (by kernel_rfl) (by kernel_rfl) (fun _ _ _ h => h) (Or.inl ⟨by kernel_rfl, ?h72⟩) hHeld ?_
  case h72 => intro w hSw; (try dsimp only at hSw); go_simp; try with_reducible rfl
  try simp only [Act.put, List.setIfInBounds_toArray, List.set_cons_zero, List.set_cons_succ]
  refine wpAnyH_take (i := 10) (oi := ⟨some 22, _, _, _, _, _⟩) (v := ?v73) rfl (by kernel_rfl) (by kernel_rfl) (by kernel_rfl) (fun _ _ _ h => h) (Or.inl ⟨by kernel_rfl, ?h73⟩) hHeld ?_
  case h73 => intro w hSw; (try dsimp only at hSw); go_simp; try with_reducible rfl
  try simp only [Act.put, List.setIfInBounds_toArray, List.set_cons_zero, List.set_cons_succ]
  refine wpAnyH_take (i := 11) (oi := ⟨some 23, _, _, _, _, _⟩) (v := ?v74) rfl (by kernel_rfl) (by kernel_rfl) (by kernel_rfl) (fun _ _ _ h => h) (Or.inl ⟨by kernel_rfl, ?h74⟩) hHeld ?_
  case h74 => intro w hSw; (try dsimp only at hSw); go_simp; try with_reducible rfl
  try simp only [Act.put, List.setIfInBounds_toArray, List.set_cons_zero, List.set_cons_succ]
  refine wpAnyH_take (i := 12) (oi := ⟨some 24, _, _, _, _, _⟩) (v := ?v75) rfl (by kernel_rfl) (by kernel_rfl) (by kernel_rfl) (fun _ _ _ h => h) (Or.inl ⟨by kernel_rfl, ?h75⟩) hHeld ?_
  case h75 => intro w hSw; (try dsimp only at hSw); go_simp; try with_reducible rfl
  try simp only [Act.put, List.setIfInBounds_toArray, List.set_cons_zero, List.set_cons_succ]
  refine wpAnyH_take (i := 13) (oi := ⟨some 25, _, _, _, _, _⟩) (v := ?v76) rfl (by kernel_rfl) (by kernel_rfl) (by kernel_rfl) (fun _ _ _ h => h) (Or.inl ⟨by kernel_rfl, ?h76⟩) hHeld ?_
  case h76 => intro w hSw; (try dsimp only at hSw); go_simp; try with_reducible rfl
  try simp only [Act.put, List.setIfInBounds_toArray, List.set_cons_zero, List.set_cons_succ]
  refine wpAnyH_take (i := 14) (oi := ⟨some 26, _, _, _, _, _⟩) (v := ?v77) rfl (by kernel_rfl) (by kernel_rfl) (by kernel_rfl) (fun _ _ _ h => h) (Or.inl ⟨by kernel_rfl, ?h77⟩) hHeld ?_
  case h77 => intro w hSw; (try dsimp only at hSw); go_simp; try with_reducible rfl
  try simp only [Act.put, List.setIfInBounds_toArray, List.set_cons_zero, List.set_cons_succ]
  refine wpAnyH_take (i := 15) (oi := ⟨some 27, _, _, _, _, _⟩) (v := ?v78) rfl (by kernel_rfl) (by kernel_rfl) (by kernel_rfl) (fun _ _ _ h => h) (Or.inl ⟨by kernel_rfl, ?h78⟩) hHeld ?_
  case h78 => intro w hSw; (try dsimp only at hSw); go_simp; try with_reducible rfl
  try simp only [Act.put, List.setIfInBounds_toArray, List.set_cons_zero, List.set_cons_succ]
  refine wpAnyH_take (i := 16) (oi := ⟨some 28, _, _, _, _, _⟩) (v := ?v79) rfl (by kernel_rfl) (by kernel_rfl) (by kernel_rfl) (fun _ _ _ h => h) (Or.inl ⟨by kernel_rfl, ?h79⟩) hHeld ?_
  case h79 => intro w hSw; (try dsimp only at hSw); go_simp; try with_reducible rfl
  try simp only [Act.put, List.setIfInBounds_toArray, List.set_cons_zero, List.set_cons_succ]
  refine wpAnyH_take (i := 17) (oi := ⟨some 29, _, _, _, _, _⟩) (v := ?v80) rfl (by kernel_rfl) (by kernel_rfl) (by kernel_rfl) (fun _ _ _ h => h) (Or.inl ⟨by kernel_rfl, ?h80⟩) hHeld ?_
  case h80 => intro w hSw; (try dsimp only at hSw); go_simp; try with_reducible rfl
  try simp only [Act.put, List.setIfInBounds_toArray, List.set_cons_zero, List.set_cons_succ]
  refine wpAnyH_take (i := 18) (oi := ⟨some 30, _, _, _, _, _⟩) (v := ?v81) rfl (by kernel_rfl) (by kernel_rfl) (by kernel_rfl) (fun _ _ _ h => h) (Or.inl ⟨by kernel_rfl, ?h81⟩) hHeld ?_
  case h81 => intro w hSw; (try dsimp only at hSw); go_simp; try with_reducible rfl
  try simp only [Act.put, List.setIfInBounds_toArray, List.set_cons_zero, List.set_cons_succ]
  refine wpAnyH_take (i := 19) (oi := ⟨some 31, _, _, _, _, _⟩) (v := ?v82) rfl (by kernel_rfl) (by kernel_rfl) (by kernel_rfl) (fun _ _ _ h => h) (Or.inl ⟨by kernel_rfl, ?h82⟩) hHeld ?_
  case h82 => intro w hSw; (try dsimp only at hSw); go_simp; try with_reducible rfl
  try simp only [Act.put, List.setIfInBounds_toArray, List.set_cons_zero, List.set_cons_succ]
  refine wpAnyH_take (i := 20) (oi := ⟨some 32, _, _, _, _, _⟩) (v := ?v83) rfl (by kernel_rfl) (by kernel_rfl) (by kernel_rfl) (fun _ _ _ h => h) (Or.inl ⟨by kernel_rfl, ?h83⟩) hHeld ?_
  case h83 => intro w hSw; (try dsimp only at hSw); go_simp; try with_reducible rfl
  try simp only [Act.put, List.setIfInBounds_toArray, List.set_cons_zero, List.set_cons_succ]
  refine wpAnyH_take (i := 21) (oi := ⟨some 33, _, _, _, _, _⟩) (v := ?v84) rfl (by kernel_rfl) (by kernel_rfl) (by kernel_rfl) (fun _ _ _ h => h) (Or.inl ⟨by kernel_rfl, ?h84⟩) hHeld ?_
  case h84 => intro w hSw; (try dsimp only at hSw); go_simp; try with_reducible rfl
  try simp only [Act.put, List.setIfInBounds_toArray, List.set_cons_zero, List.set_cons_succ]
  refine wpAnyH_take (i := 22) (oi := ⟨some 34, _, _, _, _, _⟩) rfl (by kernel_rfl) (by kernel_rfl) (by kernel_rfl) (fun _ _ _ h => h) (Or.inr ⟨by kernel_rfl, rfl⟩) hHeld ?_
  try simp only [Act.put, List.setIfInBounds_toArray, List.set_cons_zero, List.set_cons_succ]
  refine wpAnyH_take (i := 23) (oi := ⟨some 35, _, _, _, _, _⟩) rfl (by kernel_rfl) (by kernel_rfl) (by kernel_rfl) (fun _ _ _ h => h) (Or.inr ⟨by kernel_rfl, rfl⟩) hHeld ?_
  try simp only [Act.put, List.setIfInBounds_toArray, List.set_cons_zero, List.set_cons_succ]
  refine wpAnyH_take (i := 24) (oi := ⟨some 36, _, _, _, _, _⟩) rfl (by kernel_rfl) (by kernel_rfl) (by kernel_rfl) (fun _ _ _ h => h) (Or.inr ⟨by kernel_rfl, rfl⟩) hHeld ?_
  try simp only [Act.put, List.setIfInBounds_toArray, List.set_cons_zero, List.set_cons_succ]
  refine wpAnyH_take (i := 25) (oi := ⟨some 37, _, _, _, _, _⟩) (v := ?v88) rfl (by kernel_rfl) (by kernel_rfl) (by kernel_rfl) (fun _ _ _ h => h) (Or.inl ⟨by kernel_rfl, ?h88⟩) hHeld ?_
  case h88 => intro w hSw; (try dsimp only at hSw); go_simp; try with_reducible rfl
  try simp only [Act.put, List.setIfInBounds_toArray, List.set_cons_zero, List.set_cons_succ]
  refine wpAnyH_take (i := 26) (oi := ⟨some 38, _, _, _, _, _⟩) (v := ?v89) rfl (by kernel_rfl) (by kernel_rfl) (by kernel_rfl) (fun _ _ _ h => h) (Or.inl ⟨by kernel_rfl, ?h89⟩) hHeld ?_
  case h89 => intro w hSw; (try dsimp only at hSw); go_simp; try with_reducible rfl
  try simp only [Act.put, List.setIfInBounds_toArray, List.set_cons_zero, List.set_cons_succ]
  refine wpAnyH_take (i := 27) (oi := ⟨some 39, _, _, _, _, _⟩) rfl (by kernel_rfl) (by kernel_rfl) (by kernel_rfl) (fun _ _ _ h => h) (Or.inr ⟨by kernel_rfl, rfl⟩) hHeld ?_
  try simp only [Act.put, List.setIfInBounds_toArray, List.set_cons_zero, List.set_cons_succ]
  refine wpAnyH_take (i := 28) (oi := ⟨some 40, _, _, _, _, _⟩) rfl (by kernel_rfl) (by kernel_rfl) (by kernel_rfl) (fun _ _ _ h => h) (Or.inr ⟨by kernel_rfl, rfl⟩) hHeld ?_
  try simp only [Act.put, List.setIfInBounds_toArray, List.set_cons_zero, List.set_cons_succ]
  refine wpAnyH_take (i := 29) (oi := ⟨some 41, _, _, _, _, _⟩) rfl (by kernel_rfl) (by kernel_rfl) (by kernel_rfl) (fun _ _ _ h => h) (Or.inr ⟨by kernel_rfl, rfl⟩) hHeld ?_
  try simp only [Act.put, List.setIfInBounds_toArray, List.set_cons_zero, List.set_cons_succ]
  refine wpAnyH_take (i := 30) (oi := ⟨some 42, _, _, _, _, _⟩) (v := ?v93) rfl (by kernel_rfl) (by kernel_rfl) (by kernel_rfl) (fun _ _ _ h => h) (Or.inl ⟨by kernel_rfl, ?h93⟩) hHeld ?_
  case h93 => intro w hSw; (try dsimp only at hSw); go_simp; try with_reducible rfl
  try simp only [Act.put, List.setIfInBounds_toArray, List.set_cons_zero, List.set_cons_succ]
  refine wpAnyH_done (by kernel_rfl) ?_ _
  have hWv := hHeld.2.2.2.2.2.2.2.2.2.2.2
  have hb3 := hWv.obj HB3.out
  obtain ⟨r0, r1, r2, rf⟩ := cells3x hb3
  obtain ⟨k0, k1, k2, -⟩ := hHeld
  have hs9 : Same w _ := hs0.trans hWv
  clear hWv hb3 hs0 hrm xf yf zf x0 x1 x2 y0 y1 z0 z1 z2 z3
  go_wp2
  refine bodyPost_ret (v := .tuple #[.agg #[.slice (some ⟨wb, wo, none⟩) n wc, .slice (some ⟨eb, eo, none⟩) n ec, .int .i64 cnt], .int .u64 0, .bool false]) (by simp [results, Try.results32, go_sem, r0, r1, r2]) rfl ⟨rfl, ?_⟩
  exact same_then hs9 (Nat.le_add_right _ 3) (sep3 _ (w.heap.size + 3) _ _ _)

set_option maxRecDepth 100000 in
set_option maxHeartbeats 1000000 in
theorem rdo_low {F : Nat → Prop} {w : World} {L : List Reg} {cnt n : Nat} {wb wo eb eo rn rc : Nat} {ra : Option Addr} {wc ec : Nat} (i j : Nat) (ce op x y : Int) (h : RM F w (.agg #[.slice (some ⟨wb, wo, none⟩) n wc, .slice (some ⟨eb, eo, none⟩) n ec, .int .i64 cnt]) L cnt) (hg : goodB L (i : Int) ce = true) (hi : i < n) (hcw0 : w.cell? ⟨wb, wo + i, none⟩ = some (.slice ra rn rc)) (h2 : decide ((j : Int) < 0) = false) (h3 : decide (rn ≤ j) = false) (h4 : decide (op < 0) = true) :
    Calls Try.prog 32 #[.agg #[.slice (some ⟨wb, wo, none⟩) n wc, .slice (some ⟨eb, eo, none⟩) n ec, .int .i64 cnt], .agg #[.int .i64 (i : Int), .int .u64 ce], .agg #[.int .i64 op, .int .i64 (j : Int), .int .u64 x, .int .u64 y]] w fun e w' => e = .returned (.tuple #[.agg #[.slice (some ⟨wb, wo, none⟩) n wc, .slice (some ⟨eb, eo, none⟩) n ec, .int .i64 cnt], .int .u64 0, .bool false]) ∧ Same w w' := by
  obtain ⟨W, hW, hs0, hsz, b0, b1, b2, b3⟩ := four_r w #[.slice (some ⟨wb, wo, none⟩) n wc, .slice (some ⟨eb, eo, none⟩) n ec, .int .i64 cnt] #[.int .i64 (i : Int), .int .u64 ce] #[.int .i64 op, .int .i64 (j : Int), .int .u64 x, .int .u64 y] #[.slice none 0 0, .slice none 0 0, .int .i64 0]
  have hrm := h.same hs0
  have hcw := hs0.cell hcw0
  have g0 : (0 : Int) ≤ (i : Int) := Int.natCast_nonneg _
  have g1 : (i : Int) < (n : Int) := by omega
  clear hcw0
  obtain ⟨x0, x1, x2, xf⟩ := cells3x b0
  obtain ⟨y0, y1, yf⟩ := cells2 b1
  obtain ⟨z0, z1, z2, z3, zf⟩ := cells4x b2
  have HW := Lib.hid hW
  have HB3 := Lib.hid b3
  clear hW h b0 b1 b2 b3
  go_enter Try.func32, Try.ntmps32
  go_wp2_with fail
  rw [← HW.out]
  refine wp_region_held_drew (S := (fun v => v.cell? ⟨w.heap.size, 0, none⟩ = some (.slice (some ⟨wb, wo, none⟩) n wc) ∧ v.cell? ⟨w.heap.size, 1, none⟩ = some (.slice (some ⟨eb, eo, none⟩) n ec) ∧ v.cell? ⟨w.heap.size, 2, none⟩ = some (.int .i64 cnt) ∧ v.cell? ⟨w.heap.size + 1, 0, none⟩ = some (.int .i64 (i : Int)) ∧ v.cell? ⟨w.heap.size + 1, 1, none⟩ = some (.int .u64 ce) ∧ v.cell? ⟨w.heap.size + 2, 0, none⟩ = some (.int .i64 op) ∧ v.cell? ⟨w.heap.size + 2, 1, none⟩ = some (.int .i64 (j : Int)) ∧ v.cell? ⟨w.heap.size + 2, 2, none⟩ = some (.int .u64 x) ∧ v.cell? ⟨w.heap.size + 2, 3, none⟩ = some (.int .u64 y) ∧ v.cell? ⟨wb, wo + i, none⟩ = some (.slice ra rn rc) ∧ RM F v (.agg #[.slice (some ⟨wb, wo, none⟩) n wc, .slice (some ⟨eb, eo, none⟩) n ec, .int .i64 cnt]) L cnt ∧ Same W v)) (by kernel_rfl) ?_ (fun hHeld => ?_)
  · exact ⟨(Sep.drew (fun _ => False) W).cell x0 (fun x => x), (Sep.drew (fun _ => False) W).cell x1 (fun x => x), (Sep.drew (fun _ => False) W).cell x2 (fun x => x), (Sep.drew (fun _ => False) W).cell y0 (fun x => x), (Sep.drew (fun _ => False) W).cell y1 (fun x => x), (Sep.drew (fun _ => False) W).cell z0 (fun x => x), (Sep.drew (fun _ => False) W).cell z1 (fun x => x), (Sep.drew (fun _ => False) W).cell z2 (fun x => x), (Sep.drew (fun _ => False) W).cell z3 (fun x => x), (Sep.drew (fun _ => False) W).cell hcw (fun x => x), hrm.same (Sep.drew _ _), Sep.drew _ _⟩
  change wpAnyH _ _ _ _ _ 31 _ _ _
  refine wpAnyH_take (i := 0) (oi := ⟨some 12, _, _, _, _, _⟩) (v := ?v94) rfl (by kernel_rfl) (by kernel_rfl) (by kernel_rfl) (fun _ _ _ h => h) (Or.inl ⟨by kernel_rfl, ?h94⟩) hHeld ?_
  case h94 => intro w hSw; (try dsimp only at hSw); go_simp; try with_reducible rfl
  try simp only [Act.put, List.setIfInBounds_toArray, List.set_cons_zero, List.set_cons_succ]
  refine wpAnyH_take (i := 1) (oi := ⟨some 13, _, _, _, _, _⟩) (v := ?v95) rfl (by kernel_rfl) (by kernel_rfl) (by kernel_rfl) (fun _ _ _ h => h) (Or.inl ⟨by kernel_rfl, ?h95⟩) hHeld ?_
  case h95 => intro w hSw; (try dsimp only at hSw); go_simp; try with_reducible rfl
  try simp only [Act.put, List.setIfInBounds_toArray, List.set_cons_zero, List.set_cons_succ]
  refine wpAnyH_ready (rs := [2]) (by kernel_rfl) (by simp) ?_
  refine AllReadyH.cons (o := ⟨some 14, _, _, _, _, _⟩) rfl (fun K hK => ?_) AllReadyH.nil
  rw [if_pos (by kernel_rfl)]
  go_simp
  refine (rgood hHeld.2.2.2.2.2.2.2.2.2.2.1 (i : Int) ce).mono ?_
  rintro e w2 ⟨rfl, hs⟩
  rw [hg]
  refine hK.out _ _ ?_ (fun hHeld => ?_)
  · exact ⟨Same.cell hs hHeld.1, Same.cell hs hHeld.2.1, Same.cell hs hHeld.2.2.1, Same.cell hs hHeld.2.2.2.1, Same.cell hs hHeld.2.2.2.2.1, Same.cell hs hHeld.2.2.2.2.2.1, Same.cell hs hHeld.2.2.2.2.2.2.1, Same.cell hs hHeld.2.2.2.2.2.2.2.1, Same.cell hs hHeld.2.2.2.2.2.2.2.2.1, Same.cell hs hHeld.2.2.2.2.2.2.2.2.2.1, RM.same hHeld.2.2.2.2.2.2.2.2.2.2.1 hs, Sep.trans hHeld.2.2.2.2.2.2.2.2.2.2.2 hs⟩
  clear hK K
  try simp only [Act.put, List.setIfInBounds_toArray, List.set_cons_zero, List.set_cons_succ]
  refine wpAnyH_take (i := 3) (oi := ⟨some 15, _, _, _, _, _⟩) (v := ?v97) rfl (by kernel_rfl) (by kernel_rfl) (by kernel_rfl) (fun _ _ _ h => h) (Or.inl ⟨by kernel_rfl, ?h97⟩) hHeld ?_
  case h97 => intro w hSw; (try dsimp only at hSw); go_simp; try with_reducible rfl
  try simp only [Act.put, List.setIfInBounds_toArray, List.set_cons_zero, List.set_cons_succ]
  refine wpAnyH_take (i := 4) (oi := ⟨some 16, _, _, _, _, _⟩) (v := ?v98) rfl (by kernel_rfl) (by kernel_rfl) (by kernel_rfl) (fun _ _ _ h => h) (Or.inl ⟨by kernel_rfl, ?h98⟩) hHeld ?_
  case h98 => intro w hSw; (try dsimp only at hSw); go_simp; try with_reducible rfl
  try simp only [Act.put, List.setIfInBounds_toArray, List.set_cons_zero, List.set_cons_succ]
  refine wpAnyH_take (i := 5) (oi := ⟨some 17, _, _, _, _, _⟩) (v := ?v99) rfl (by kernel_rfl) (by kernel_rfl) (by kernel_rfl) (fun _ _ _ h => h) (Or.inl ⟨by kernel_rfl, ?h99⟩) hHeld ?_
  case h99 => intro w hSw; (try dsimp only at hSw); go_simp; try with_reducible rfl
  try simp only [Act.put, List.setIfInBounds_toArray, List.set_cons_zero, List.set_cons_succ]
  refine wpAnyH_take (i := 6) (oi := ⟨some 18, _, _, _, _, _⟩) (v := ?v100) rfl (by kernel_rfl) (by kernel_rfl) (by kernel_rfl) (fun _ _ _ h => h) (Or.inl ⟨by kernel_rfl, ?h100⟩) hHeld ?_
  case h100 => intro w hSw; (try dsimp only at hSw); go_simp; try with_reducible rfl
  try simp only [Act.put, List.setIfInBounds_toArray, List.set_cons_zero, List.set_cons_succ]
  refine wpAnyH_take (i := 7) (oi := ⟨some 19, _, _, _, _, _⟩) (v := ?v101) rfl (by kernel_rfl) (by kernel_rfl) (by kernel_rfl) (fun _ _ _ h => h) (Or.inl ⟨by kernel_rfl, ?h101⟩) hHeld ?_
  case h101 => intro w hSw; (try dsimp only at hSw); go_simp; try with_reducible rfl
  try simp only [Act.put, List.setIfInBounds_toArray, List.set_cons_zero, List.set_cons_succ]
  refine wpAnyH_take (i := 8) (oi := ⟨some 20, _, _, _, _, _⟩) (v := ?v102) rfl (by kernel_rfl) (by kernel_rfl) (by kernel_rfl) (fun _ _ _ h => h) (Or.inl ⟨by kernel_rfl, ?h102⟩) hHeld ?_
  case h102 => intro w hSw; (try dsimp only at hSw); go_simp; try with_reducible rfl
  try simp only [Act.put, List.setIfInBounds_toArray, List.set_cons_zero, List.set_cons_succ]
  refine wpAnyH_take (i := 9) (oi := ⟨some 21, _, _, _, _, _⟩) (v := ?v103) rfl (by kernel_rfl) (by kernel_rfl) (by kernel_rfl) (fun _ _ _ h => h) (Or.inl ⟨by kernel_rfl, ?h103⟩) hHeld ?_
  case h103 => intro w hSw; (try dsimp only at hSw); go_simp; try with_reducible rfl
  try simp only [Act.put, List.setIfInBounds_toArray, List.set_cons_zero, List.set_cons_succ]
  refine wpAnyH_take (i := 10) (oi := ⟨some 22, _, _, _, _, _⟩) (v := ?v104) rfl (by kernel_rfl) (by kernel_rfl) (by kernel_rfl) (fun _ _ _ h => h) (Or.inl ⟨by kernel_rfl, ?h104⟩) hHeld ?_
  case h104 => intro w hSw; (try dsimp only at hSw); go_simp; try with_reducible rfl
  try simp only [Act.put, List.setIfInBounds_toArray, List.set_cons_zero, List.set_cons_succ]
  refine wpAnyH_take (i := 11) (oi := ⟨some 23, _, _, _, _, _⟩) (v := ?v105) rfl (by kernel_rfl) (by kernel_rfl) (by kernel_rfl) (fun _ _ _ h => h) (Or.inl ⟨by kernel_rfl, ?h105⟩) hHeld ?_
  case h105 => intro w hSw; (try dsimp only at hSw); go_simp; try with_reducible rfl
  try simp only [Act.put, List.setIfInBounds_toArray, List.set_cons_zero, List.set_cons_succ]
  refine wpAnyH_take (i := 12) (oi := ⟨some 24, _, _, _, _, _⟩) (v := ?v106) rfl (by kernel_rfl) (by kernel_rfl) (by kernel_rfl) (fun _ _ _ h => h) (Or.inl ⟨by kernel_rfl, ?h106⟩) hHeld ?_
  case h106 => intro w hSw; (try dsimp only at hSw); go_simp; try with_reducible rfl
  try simp only [Act.put, List.setIfInBounds_toArray, List.set_cons_zero, List.set_cons_succ]
  refine wpAnyH_take (i := 13) (oi := ⟨some 25, _, _, _, _, _⟩) (v := ?v107) rfl (by kernel_rfl) (by kernel_rfl) (by kernel_rfl) (fun _ _ _ h => h) (Or.inl ⟨by kernel_rfl, ?h107⟩) hHeld ?_
  case h107 => intro w hSw; (try dsimp only at hSw); go_simp; try with_reducible rfl
  try simp only [Act.put, List.setIfInBounds_toArray, List.set_cons_zero, List.set_cons_succ]
  refine wpAnyH_take (i := 14) (oi := ⟨some 26, _, _, _, _, _⟩) (v := ?v108) rfl (by kernel_rfl) (by kernel_rfl) (by kernel_rfl) (fun _ _ _ h => h) (Or.inl ⟨by kernel_rfl, ?h108⟩) hHeld ?_
  case h108 => intro w hSw; (try dsimp only at hSw); go_simp; try with_reducible rfl
  try simp only [Act.put, List.setIfInBounds_toArray, List.set_cons_zero, List.set_cons_succ]
  refine wpAnyH_take (i := 15) (oi := ⟨some 27, _, _, _, _, _⟩) (v := ?v109) rfl (by kernel_rfl) (by kernel_rfl) (by kernel_rfl) (fun _ _ _ h => h) (Or.inl ⟨by kernel_rfl, ?h109⟩) hHeld ?_
  case h109 => intro w hSw; (try dsimp only at hSw); go_simp; try with_reducible rfl
  try simp only [Act.put, List.setIfInBounds_toArray, List.set_cons_zero, List.set_cons_succ]
  refine wpAnyH_take (i := 16) (oi := ⟨some 28, _, _, _, _, _⟩) (v := ?v110) rfl (by kernel_rfl) (by kernel_rfl) (by kernel_rfl) (fun _ _ _ h => h) (Or.inl ⟨by kernel_rfl, ?h110⟩) hHeld ?_
  case h110 => intro w hSw; (try dsimp only at hSw); go_simp; try with_reducible rfl
  try simp only [Act.put, List.setIfInBounds_toArray, List.set_cons_zero, List.set_cons_succ]
  refine wpAnyH_take (i := 17) (oi := ⟨some 29, _, _, _, _, _⟩) (v := ?v111) rfl (by kernel_rfl) (by kernel_rfl) (by kernel_rfl) (fun _ _ _ h => h) (Or.inl ⟨by kernel_rfl, ?h111⟩) hHeld ?_
  case h111 => intro w hSw; (try dsimp only at hSw); go_simp; try with_reducible rfl
  try simp only [Act.put, List.setIfInBounds_toArray, List.set_cons_zero, List.set_cons_succ]
  refine wpAnyH_take (i := 18) (oi := ⟨some 30, _, _, _, _, _⟩) (v := ?v112) rfl (by kernel_rfl) (by kernel_rfl) (by kernel_rfl) (fun _ _ _ h => h) (Or.inl ⟨by kernel_rfl, ?h112⟩) hHeld ?_
  case h112 => intro w hSw; (try dsimp only at hSw); go_simp; try with_reducible rfl
  try simp only [Act.put, List.setIfInBounds_toArray, List.set_cons_zero, List.set_cons_succ]
  refine wpAnyH_take (i := 19) (oi := ⟨some 31, _, _, _, _, _⟩) (v := ?v113) rfl (by kernel_rfl) (by kernel_rfl) (by kernel_rfl) (fun _ _ _ h => h) (Or.inl ⟨by kernel_rfl, ?h113⟩) hHeld ?_
  case h113 => intro w hSw; (try dsimp only at hSw); go_simp; try with_reducible rfl
  try simp only [Act.put, List.setIfInBounds_toArray, List.set_cons_zero, List.set_cons_succ]
  refine wpAnyH_take (i := 20) (oi := ⟨some 32, _, _, _, _, _⟩) (v := ?v114) rfl (by kernel_rfl) (by kernel_rfl) (by kernel_rfl) (fun _ _ _ h => h) (Or.inl ⟨by kernel_rfl, ?h114⟩) hHeld ?_
  case h114 => intro w hSw; (try dsimp only at hSw); go_simp; try with_reducible rfl
  try simp only [Act.put, List.setIfInBounds_toArray, List.set_cons_zero, List.set_cons_succ]
  refine wpAnyH_take (i := 21) (oi := ⟨some 33, _, _, _, _, _⟩) (v := ?v115) rfl (by kernel_rfl) (by kernel_rfl) (by kernel_rfl) (fun _ _ _ h => h) (Or.inl ⟨by kernel_rfl, ?h115⟩) hHeld ?_
  case h115 => intro w hSw; (try dsimp only at hSw); go_simp; try with_reducible rfl
  try simp only [Act.put, List.setIfInBounds_toArray, List.set_cons_zero, List.set_cons_succ]
  refine wpAnyH_take (i := 22) (oi := ⟨some 34, _, _, _, _, _⟩) (v := ?v116) rfl (by kernel_rfl) (by kernel_rfl) (by kernel_rfl) (fun _ _ _ h => h) (Or.inl ⟨by kernel_rfl, ?h116⟩) hHeld ?_
  case h116 => intro w hSw; (try dsimp only at hSw); go_simp; try with_reducible rfl
  try simp only [Act.put, List.setIfInBounds_toArray, List.set_cons_zero, List.set_cons_succ]
  refine wpAnyH_take (i := 23) (oi := ⟨some 35, _, _, _, _, _⟩) (v := ?v117) rfl (by kernel_rfl) (by kernel_rfl) (by kernel_rfl) (fun _ _ _ h => h) (Or.inl ⟨by kernel_rfl, ?h117⟩) hHeld ?_
  case h117 => intro w hSw; (try dsimp only at hSw); go_simp; try with_reducible rfl
  try simp only [Act.put, List.setIfInBounds_toArray, List.set_cons_zero, List.set_cons_succ]
  refine wpAnyH_take (i := 24) (oi := ⟨some 36, _, _, _, _, _⟩) (v := ?v118) rfl (by kernel_rfl) (by kernel_rfl) (by kernel_rfl) (fun _ _ _ h => h) (Or.inl ⟨by kernel_rfl, ?h118⟩) hHeld ?_
  case h118 => intro w hSw; (try dsimp only at hSw); go_simp; try with_reducible rfl
  try simp only [Act.put, List.setIfInBounds_toArray, List.set_cons_zero, List.set_cons_succ]
  refine wpAnyH_take (i := 25) (oi := ⟨some 37, _, _, _, _, _⟩) (v := ?v119) rfl (by kernel_rfl) (by kernel_rfl) (by kernel_rfl) (fun _ _ _ h => h) (Or.inl ⟨by kernel_rfl, ?h119⟩) hHeld ?_
  case h119 => intro w hSw; (try dsimp only at hSw); go_simp; try with_reducible rfl
  try simp only [Act.put, List.setIfInBounds_toArray, List.set_cons_zero, List.set_cons_succ]
  refine wpAnyH_take (i := 26) (oi := ⟨some 38, _, _, _, _, _⟩) (v := ?v120) rfl (by kernel_rfl) (by kernel_rfl) (by kernel_rfl) (fun _ _ _ h => h) (Or.inl ⟨by kernel_rfl, ?h120⟩) hHeld ?_
  case h120 => intro w hSw; (try dsimp only at hSw); go_simp; try with_reducible rfl
  try simp only [Act.put, List.setIfInBounds_toArray, List.set_cons_zero, List.set_cons_succ]
  refine wpAnyH_take (i := 27) (oi := ⟨some 39, _, _, _, _, _⟩) rfl (by kernel_rfl) (by kernel_rfl) (by kernel_rfl) (fun _ _ _ h => h) (Or.inr ⟨by kernel_rfl, rfl⟩) hHeld ?_
  try simp only [Act.put, List.setIfInBounds_toArray, List.set_cons_zero, List.set_cons_succ]
  refine wpAnyH_take (i := 28) (oi := ⟨some 40, _, _, _, _, _⟩) rfl (by kernel_rfl) (by kernel_rfl) (by kernel_rfl) (fun _ _ _ h => h) (Or.inr ⟨by kernel_rfl, rfl⟩) hHeld ?_
  try simp only [Act.put, List.setIfInBounds_toArray, List.set_cons_zero, List.set_cons_succ]
  refine wpAnyH_take (i := 29) (oi := ⟨some 41, _, _, _, _, _⟩) rfl (by kernel_rfl) (by kernel_rfl) (by kernel_rfl) (fun _ _ _ h => h) (Or.inr ⟨by kernel_rfl, rfl⟩) hHeld ?_
  try simp only [Act.put, List.setIfInBounds_toArray, List.set_cons_zero, List.set_cons_succ]
  refine wpAnyH_take (i := 30) (oi := ⟨some 42, _, _, _, _, _⟩) (v := ?v124) rfl (by kernel_rfl) (by kernel_rfl) (by kernel_rfl) (fun _ _ _ h => h) (Or.inl ⟨by kernel_rfl, ?h124⟩) hHeld ?_
  case h124 => intro w hSw; (try dsimp only at hSw); go_simp; try with_reducible rfl
  try simp only [Act.put, List.setIfInBounds_toArray, List.set_cons_zero, List.set_cons_succ]
  refine wpAnyH_done (by kernel_rfl) ?_ _
  have hWv := hHeld.2.2.2.2.2.2.2.2.2.2.2
  have hb3 := hWv.obj HB3.out
  obtain ⟨r0, r1, r2, rf⟩ := cells3x hb3
  obtain ⟨k0, k1, k2, -⟩ := hHeld
  have hs9 : Same w _ := hs0.trans hWv
  clear hWv hb3 hs0 hrm xf yf zf x0 x1 x2 y0 y1 z0 z1 z2 z3
  go_wp2
  refine bodyPost_ret (v := .tuple #[.agg #[.slice (some ⟨wb, wo, none⟩) n wc, .slice (some ⟨eb, eo, none⟩) n ec, .int .i64 cnt], .int .u64 0, .bool false]) (by simp [results, Try.results32, go_sem, r0, r1, r2]) rfl ⟨rfl, ?_⟩
  exact same_then hs9 (Nat.le_add_right _ 3) (sep3 _ (w.heap.size + 3) _ _ _)

set_option maxRecDepth 100000 in
set_option maxHeartbeats 1000000 in
theorem rdo_high {F : Nat → Prop} {w : World} {L : List Reg} {cnt n : Nat} {wb wo eb eo rn rc : Nat} {ra : Option Addr} {wc ec : Nat} (i j : Nat) (ce op x y : Int) (h : RM F w (.agg #[.slice (some ⟨wb, wo, none⟩) n wc, .slice (some ⟨eb, eo, none⟩) n ec, .int .i64 cnt]) L cnt) (hg : goodB L (i : Int) ce = true) (hi : i < n) (hcw0 : w.cell? ⟨wb, wo + i, none⟩ = some (.slice ra rn rc)) (h2 : decide ((j : Int) < 0) = false) (h3 : decide (rn ≤ j) = false) (h4 : decide (op < 0) = false) (h5 : decide (3 < op) = true) :
    Calls Try.prog 32 #[.agg #[.slice (some ⟨wb, wo, none⟩) n wc, .slice (some ⟨eb, eo, none⟩) n ec, .int .i64 cnt], .agg #[.int .i64 (i : Int), .int .u64 ce], .agg #[.int .i64 op, .int .i64 (j : Int), .int .u64 x, .int .u64 y]] w fun e w' => e = .returned (.tuple #[.agg #[.slice (some ⟨wb, wo, none⟩) n wc, .slice (some ⟨eb, eo, none⟩) n ec, .int .i64 cnt], .int .u64 0, .bool false]) ∧ Same w w' := by
  obtain ⟨W, hW, hs0, hsz, b0, b1, b2, b3⟩ := four_r w #[.slice (some ⟨wb, wo, none⟩) n wc, .slice (some ⟨eb, eo, none⟩) n ec, .int .i64 cnt] #[.int .i64 (i : Int), .int .u64 ce] #[.int .i64 op, .int .i64 (j : Int), .int .u64 x, .int .u64 y] #[.slice none 0 0, .slice none 0 0, .int .i64 0]
  have hrm := h.same hs0
  have hcw := hs0.cell hcw0
  have g0 : (0 : Int) ≤ (i : Int) := Int.natCast_nonneg _
  have g1 : (i : Int) < (n : Int) := by omega
  clear hcw0
  obtain ⟨x0, x1, x2, xf⟩ := cells3x b0
  obtain ⟨y0, y1, yf⟩ := cells2 b1
  obtain ⟨z0, z1, z2, z3, zf⟩ := cells4x b2
  have HW := Lib.hid hW
  have HB3 := Lib.hid b3
  clear hW h b0 b1 b2 b3
  go_enter Try.func32, Try.ntmps32
  go_wp2_with fail
  rw [← HW.out]
  refine wp_region_held_drew (S := (fun v => v.cell? ⟨w.heap.size, 0, none⟩ = some (.slice (some ⟨wb, wo, none⟩) n wc) ∧ v.cell? ⟨w.heap.size, 1, none⟩ = some (.slice (some ⟨eb, eo, none⟩) n ec) ∧ v.cell? ⟨w.heap.size, 2, none⟩ = some (.int .i64 cnt) ∧ v.cell? ⟨w.heap.size + 1, 0, none⟩ = some (.int .i64 (i : Int)) ∧ v.cell? ⟨w.heap.size + 1, 1, none⟩ = some (.int .u64 ce) ∧ v.cell? ⟨w.heap.size + 2, 0, none⟩ = some (.int .i64 op) ∧ v.cell? ⟨w.heap.size + 2, 1, none⟩ = some (.int .i64 (j : Int)) ∧ v.cell? ⟨w.heap.size + 2, 2, none⟩ = some (.int .u64 x) ∧ v.cell? ⟨w.heap.size + 2, 3, none⟩ = some (.int .u64 y) ∧ v.cell? ⟨wb, wo + i, none⟩ = some (.slice ra rn rc) ∧ RM F v (.agg #[.slice (some ⟨wb, wo, none⟩) n wc, .slice (some ⟨eb, eo, none⟩) n ec, .int .i64 cnt]) L cnt ∧ Same W v)) (by kernel_rfl) ?_ (fun hHeld => ?_)
  · exact ⟨(Sep.drew (fun _ => False) W).cell x0 (fun x => x), (Sep.drew (fun _ => False) W).cell x1 (fun x => x), (Sep.drew (fun _ => False) W).cell x2 (fun x => x), (Sep.drew (fun _ => False) W).cell y0 (fun x => x), (Sep.drew (fun _ => False) W).cell y1 (fun x => x), (Sep.drew (fun _ => False) W).cell z0 (fun x => x), (Sep.drew (fun _ => False) W).cell z1 (fun x => x), (Sep.drew (fun _ => False) W).cell z2 (fun x => x), (Sep.drew (fun _ => False) W).cell z3 (fun x => x), (Sep.drew (fun _ => False) W).cell hcw (fun x => x), hrm.same (Sep.drew _ _), Sep.drew _ _⟩
  change wpAnyH _ _ _ _ _ 31 _ _ _
  refine wpAnyH_take (i := 0) (oi := ⟨some 12, _, _, _, _, _⟩) (v := ?v125) rfl (by kernel_rfl) (by kernel_rfl) (by kernel_rfl) (fun _ _ _ h => h) (Or.inl ⟨by kernel_rfl, ?h125⟩) hHeld ?_
  case h125 => intro w hSw; (try dsimp only at hSw); go_simp; try with_reducible rfl
  try simp only [Act.put, List.setIfInBounds_toArray, List.set_cons_zero, List.set_cons_succ]
  refine wpAnyH_take (i := 1) (oi := ⟨some 13, _, _, _, _, _⟩) (v := ?v126) rfl (by kernel_rfl) (by kernel_rfl) (by kernel_rfl) (fun _ _ _ h => h) (Or.inl ⟨by kernel_rfl, ?h126⟩) hHeld ?_
  case h126 => intro w hSw; (try dsimp only at hSw); go_simp; try with_reducible rfl
  try simp only [Act.put, List.setIfInBounds_toArray, List.set_cons_zero, List.set_cons_succ]
  refine wpAnyH_ready (rs := [2]) (by kernel_rfl) (by simp) ?_
  refine AllReadyH.cons (o := ⟨some 14, _, _, _, _, _⟩) rfl (fun K hK => ?_) AllReadyH.nil
  rw [if_pos (by kernel_rfl)]
  go_simp
  refine (rgood hHeld.2.2.2.2.2.2.2.2.2.2.1 (i : Int) ce).mono ?_
  rintro e w2 ⟨rfl, hs⟩
  rw [hg]
  refine hK.out _ _ ?_ (fun hHeld => ?_)
  · exact ⟨Same.cell hs hHeld.1, Same.cell hs hHeld.2.1, Same.cell hs hHeld.2.2.1, Same.cell hs hHeld.2.2.2.1, Same.cell hs hHeld.2.2.2.2.1, Same.cell hs hHeld.2.2.2.2.2.1, Same.cell hs hHeld.2.2.2.2.2.2.1, Same.cell hs hHeld.2.2.2.2.2.2.2.1, Same.cell hs hHeld.2.2.2.2.2.2.2.2.1, Same.cell hs hHeld.2.2.2.2.2.2.2.2.2.1, RM.same hHeld.2.2.2.2.2.2.2.2.2.2.1 hs, Sep.trans hHeld.2.2.2.2.2.2.2.2.2.2.2 hs⟩
  clear hK K
  try simp only [Act.put, List.setIfInBounds_toArray, List.set_cons_zero, List.set_cons_succ]
  refine wpAnyH_take (i := 3) (oi := ⟨some 15, _, _, _, _, _⟩) (v := ?v128) rfl (by kernel_rfl) (by kernel_rfl) (by kernel_rfl) (fun _ _ _ h => h) (Or.inl ⟨by kernel_rfl, ?h128⟩) hHeld ?_
  case h128 => intro w hSw; (try dsimp only at hSw); go_simp; try with_reducible rfl
  try simp only [Act.put, List.setIfInBounds_toArray, List.set_cons_zero, List.set_cons_succ]
  refine wpAnyH_take (i := 4) (oi := ⟨some 16, _, _, _, _, _⟩) (v := ?v129) rfl (by kernel_rfl) (by kernel_rfl) (by kernel_rfl) (fun _ _ _ h => h) (Or.inl ⟨by kernel_rfl, ?h129⟩) hHeld ?_
  case h129 => intro w hSw; (try dsimp only at hSw); go_simp; try with_reducible rfl
  try simp only [Act.put, List.setIfInBounds_toArray, List.set_cons_zero, List.set_cons_succ]
  refine wpAnyH_take (i := 5) (oi := ⟨some 17, _, _, _, _, _⟩) (v := ?v130) rfl (by kernel_rfl) (by kernel_rfl) (by kernel_rfl) (fun _ _ _ h => h) (Or.inl ⟨by kernel_rfl, ?h130⟩) hHeld ?_
  case h130 => intro w hSw; (try dsimp only at hSw); go_simp; try with_reducible rfl
  try simp only [Act.put, List.setIfInBounds_toArray, List.set_cons_zero, List.set_cons_succ]
  refine wpAnyH_take (i := 6) (oi := ⟨some 18, _, _, _, _, _⟩) (v := ?v131) rfl (by kernel_rfl) (by kernel_rfl) (by kernel_rfl) (fun _ _ _ h => h) (Or.inl ⟨by kernel_rfl, ?h131⟩) hHeld ?_
  case h131 => intro w hSw; (try dsimp only at hSw); go_simp; try with_reducible rfl
  try simp only [Act.put, List.setIfInBounds_toArray, List.set_cons_zero, List.set_cons_succ]
  refine wpAnyH_take (i := 7) (oi := ⟨some 19, _, _, _, _, _⟩) (v := ?v132) rfl (by kernel_rfl) (by kernel_rfl) (by kernel_rfl) (fun _ _ _ h => h) (Or.inl ⟨by kernel_rfl, ?h132⟩) hHeld ?_
  case h132 => intro w hSw; (try dsimp only at hSw); go_simp; try with_reducible rfl
  try simp only [Act.put, List.setIfInBounds_toArray, List.set_cons_zero, List.set_cons_succ]
  refine wpAnyH_take (i := 8) (oi := ⟨some 20, _, _, _, _, _⟩) (v := ?v133) rfl (by kernel_rfl) (by kernel_rfl) (by kernel_rfl) (fun _ _ _ h => h) (Or.inl ⟨by kernel_rfl, ?h133⟩) hHeld ?_
  case h133 => intro w hSw; (try dsimp only at hSw); go_simp; try with_reducible rfl
  try simp only [Act.put, List.setIfInBounds_toArray, List.set_cons_zero, List.set_cons_succ]
  refine wpAnyH_take (i := 9) (oi := ⟨some 21, _, _, _, _, _⟩) (v := ?v134) rfl (by kernel_rfl) (by kernel_rfl) (by kernel_rfl) (fun _ _ _ h => h) (Or.inl ⟨by kernel_rfl, ?h134⟩) hHeld ?_
  case h134 => intro w hSw; (try dsimp only at hSw); go_simp; try with_reducible rfl
  try simp only [Act.put, List.setIfInBounds_toArray, List.set_cons_zero, List.set_cons_succ]
  refine wpAnyH_take (i := 10) (oi := ⟨some 22, _, _, _, _, _⟩) (v := ?v135) rfl (by kernel_rfl) (by kernel_rfl) (by kernel_rfl) (fun _ _ _ h => h) (Or.inl ⟨by kernel_rfl, ?h135⟩) hHeld ?_
  case h135 => intro w hSw; (try dsimp only at hSw); go_simp; try with_reducible rfl
  try simp only [Act.put, List.setIfInBounds_toArray, List.set_cons_zero, List.set_cons_succ]
  refine wpAnyH_take (i := 11) (oi := ⟨some 23, _, _, _, _, _⟩) (v := ?v136) rfl (by kernel_rfl) (by kernel_rfl) (by kernel_rfl) (fun _ _ _ h => h) (Or.inl ⟨by kernel_rfl, ?h136⟩) hHeld ?_
  case h136 => intro w hSw; (try dsimp only at hSw); go_simp; try with_reducible rfl
  try simp only [Act.put, List.setIfInBounds_toArray, List.set_cons_zero, List.set_cons_succ]
  refine wpAnyH_take (i := 12) (oi := ⟨some 24, _, _, _, _, _⟩) (v := ?v137) rfl (by kernel_rfl) (by kernel_rfl) (by kernel_rfl) (fun _ _ _ h => h) (Or.inl ⟨by kernel_rfl, ?h137⟩) hHeld ?_
  case h137 => intro w hSw; (try dsimp only at hSw); go_simp; try with_reducible rfl
  try simp only [Act.put, List.setIfInBounds_toArray, List.set_cons_zero, List.set_cons_succ]
  refine wpAnyH_take (i := 13) (oi := ⟨some 25, _, _, _, _, _⟩) (v := ?v138) rfl (by kernel_rfl) (by kernel_rfl) (by kernel_rfl) (fun _ _ _ h => h) (Or.inl ⟨by kernel_rfl, ?h138⟩) hHeld ?_
  case h138 => intro w hSw; (try dsimp only at hSw); go_simp; try with_reducible rfl
  try simp only [Act.put, List.setIfInBounds_toArray, List.set_cons_zero, List.set_cons_succ]
  refine wpAnyH_take (i := 14) (oi := ⟨some 26, _, _, _, _, _⟩) (v := ?v139) rfl (by kernel_rfl) (by kernel_rfl) (by kernel_rfl) (fun _ _ _ h => h) (Or.inl ⟨by kernel_rfl, ?h139⟩) hHeld ?_
  case h139 => intro w hSw; (try dsimp only at hSw); go_simp; try with_reducible rfl
  try simp only [Act.put, List.setIfInBounds_toArray, List.set_cons_zero, List.set_cons_succ]
  refine wpAnyH_take (i := 15) (oi := ⟨some 27, _, _, _, _, _⟩) (v := ?v140) rfl (by kernel_rfl) (by kernel_rfl) (by kernel_rfl) (fun _ _ _ h => h) (Or.inl ⟨by kernel_rfl, ?h140⟩) hHeld ?_
  case h140 => intro w hSw; (try dsimp only at hSw); go_simp; try with_reducible rfl
  try simp only [Act.put, List.setIfInBounds_toArray, List.set_cons_zero, List.set_cons_succ]
  refine wpAnyH_take (i := 16) (oi := ⟨some 28, _, _, _, _, _⟩) (v := ?v141) rfl (by kernel_rfl) (by kernel_rfl) (by kernel_rfl) (fun _ _ _ h => h) (Or.inl ⟨by kernel_rfl, ?h141⟩) hHeld ?_
  case h141 => intro w hSw; (try dsimp only at hSw); go_simp; try with_reducible rfl
  try simp only [Act.put, List.setIfInBounds_toArray, List.set_cons_zero, List.set_cons_succ]
  refine wpAnyH_take (i := 17) (oi := ⟨some 29, _, _, _, _, _⟩) (v := ?v142) rfl (by kernel_rfl) (by kernel_rfl) (by kernel_rfl) (fun _ _ _ h => h) (Or.inl ⟨by kernel_rfl, ?h142⟩) hHeld ?_
  case h142 => intro w hSw; (try dsimp only at hSw); go_simp; try with_reducible rfl
  try simp only [Act.put, List.setIfInBounds_toArray, List.set_cons_zero, List.set_cons_succ]
  refine wpAnyH_take (i := 18) (oi := ⟨some 30, _, _, _, _, _⟩) (v := ?v143) rfl (by kernel_rfl) (by kernel_rfl) (by kernel_rfl) (fun _ _ _ h => h) (Or.inl ⟨by kernel_rfl, ?h143⟩) hHeld ?_
  case h143 => intro w hSw; (try dsimp only at hSw); go_simp; try with_reducible rfl
  try simp only [Act.put, List.setIfInBounds_toArray, List.set_cons_zero, List.set_cons_succ]
  refine wpAnyH_take (i := 19) (oi := ⟨some 31, _, _, _, _, _⟩) (v := ?v144) rfl (by kernel_rfl) (by kernel_rfl) (by kernel_rfl) (fun _ _ _ h => h) (Or.inl ⟨by kernel_rfl, ?h144⟩) hHeld ?_
  case h144 => intro w hSw; (try dsimp only at hSw); go_simp; try with_reducible rfl
  try simp only [Act.put, List.setIfInBounds_toArray, List.set_cons_zero, List.set_cons_succ]
  refine wpAnyH_take (i := 20) (oi := ⟨some 32, _, _, _, _, _⟩) (v := ?v145) rfl (by kernel_rfl) (by kernel_rfl) (by kernel_rfl) (fun _ _ _ h => h) (Or.inl ⟨by kernel_rfl, ?h145⟩) hHeld ?_
  case h145 => intro w hSw; (try dsimp only at hSw); go_simp; try with_reducible rfl
  try simp only [Act.put, List.setIfInBounds_toArray, List.set_cons_zero, List.set_cons_succ]
  refine wpAnyH_take (i := 21) (oi := ⟨some 33, _, _, _, _, _⟩) (v := ?v146) rfl (by kernel_rfl) (by kernel_rfl) (by kernel_rfl) (fun _ _ _ h => h) (Or.inl ⟨by kernel_rfl, ?h146⟩) hHeld ?_
  case h146 => intro w hSw; (try dsimp only at hSw); go_simp; try with_reducible rfl
  try simp only [Act.put, List.setIfInBounds_toArray, List.set_cons_zero, List.set_cons_succ]
  refine wpAnyH_take (i := 22) (oi := ⟨some 34, _, _, _, _, _⟩) (v := ?v147) rfl (by kernel_rfl) (by kernel_rfl) (by kernel_rfl) (fun _ _ _ h => h) (Or.inl ⟨by kernel_rfl, ?h147⟩) hHeld ?_
  case h147 => intro w hSw; (try dsimp only at hSw); go_simp; try with_reducible rfl
  try simp only [Act.put, List.setIfInBounds_toArray, List.set_cons_zero, List.set_cons_succ]
  refine wpAnyH_take (i := 23) (oi := ⟨some 35, _, _, _, _, _⟩) (v := ?v148) rfl (by kernel_rfl) (by kernel_rfl) (by kernel_rfl) (fun _ _ _ h => h) (Or.inl ⟨by kernel_rfl, ?h148⟩) hHeld ?_
  case h148 => intro w hSw; (try dsimp only at hSw); go_simp; try with_reducible rfl
  try simp only [Act.put, List.setIfInBounds_toArray, List.set_cons_zero, List.set_cons_succ]
  refine wpAnyH_take (i := 24) (oi := ⟨some 36, _, _, _, _, _⟩) (v := ?v149) rfl (by kernel_rfl) (by kernel_rfl) (by kernel_rfl) (fun _ _ _ h => h) (Or.inl ⟨by kernel_rfl, ?h149⟩) hHeld ?_
  case h149 => intro w hSw; (try dsimp only at hSw); go_simp; try with_reducible rfl
  try simp only [Act.put, List.setIfInBounds_toArray, List.set_cons_zero, List.set_cons_succ]
  refine wpAnyH_take (i := 25) (oi := ⟨some 37, _, _, _, _, _⟩) (v := ?v150) rfl (by kernel_rfl) (by kernel_rfl) (by kernel_rfl) (fun _ _ _ h => h) (Or.inl ⟨by kernel_rfl, ?h150⟩) hHeld ?_
  case h150 => intro w hSw; (try dsimp only at hSw); go_simp; try with_reducible rfl
  try simp only [Act.put, List.setIfInBounds_toArray, List.set_cons_zero, List.set_cons_succ]
  refine wpAnyH_take (i := 26) (oi := ⟨some 38, _, _, _, _, _⟩) (v := ?v151) rfl (by kernel_rfl) (by kernel_rfl) (by kernel_rfl) (fun _ _ _ h => h) (Or.inl ⟨by kernel_rfl, ?h151⟩) hHeld ?_
  case h151 => intro w hSw; (try dsimp only at hSw); go_simp; try with_reducible rfl
  try simp only [Act.put, List.setIfInBounds_toArray, List.set_cons_zero, List.set_cons_succ]
  refine wpAnyH_take (i := 27) (oi := ⟨some 39, _, _, _, _, _⟩) (v := ?v152) rfl (by kernel_rfl) (by kernel_rfl) (by kernel_rfl) (fun _ _ _ h => h) (Or.inl ⟨by kernel_rfl, ?h152⟩) hHeld ?_
  case h152 => intro w hSw; (try dsimp only at hSw); go_simp; try with_reducible rfl
  try simp only [Act.put, List.setIfInBounds_toArray, List.set_cons_zero, List.set_cons_succ]
  refine wpAnyH_take (i := 28) (oi := ⟨some 40, _, _, _, _, _⟩) (v := ?v153) rfl (by kernel_rfl) (by kernel_rfl) (by kernel_rfl) (fun _ _ _ h => h) (Or.inl ⟨by kernel_rfl, ?h153⟩) hHeld ?_
  case h153 => intro w hSw; (try dsimp only at hSw); go_simp; try with_reducible rfl
  try simp only [Act.put, List.setIfInBounds_toArray, List.set_cons_zero, List.set_cons_succ]
  refine wpAnyH_take (i := 29) (oi := ⟨some 41, _, _, _, _, _⟩) (v := ?v154) rfl (by kernel_rfl) (by kernel_rfl) (by kernel_rfl) (fun _ _ _ h => h) (Or.inl ⟨by kernel_rfl, ?h154⟩) hHeld ?_
  case h154 => intro w hSw; (try dsimp only at hSw); go_simp; try with_reducible rfl
  try simp only [Act.put, List.setIfInBounds_toArray, List.set_cons_zero, List.set_cons_succ]
  refine wpAnyH_take (i := 30) (oi := ⟨some 42, _, _, _, _, _⟩) (v := ?v155) rfl (by kernel_rfl) (by kernel_rfl) (by kernel_rfl) (fun _ _ _ h => h) (Or.inl ⟨by kernel_rfl, ?h155⟩) hHeld ?_
  case h155 => intro w hSw; (try dsimp only at hSw); go_simp; try with_reducible rfl
  try simp only [Act.put, List.setIfInBounds_toArray, List.set_cons_zero, List.set_cons_succ]
  refine wpAnyH_done (by kernel_rfl) ?_ _
  have hWv := hHeld.2.2.2.2.2.2.2.2.2.2.2
  have hb3 := hWv.obj HB3.out
  obtain ⟨r0, r1, r2, rf⟩ := cells3x hb3
  obtain ⟨k0, k1, k2, -⟩ := hHeld
  have hs9 : Same w _ := hs0.trans hWv
  clear hWv hb3 hs0 hrm xf yf zf x0 x1 x2 y0 y1 z0 z1 z2 z3
  go_wp2
  refine bodyPost_ret (v := .tuple #[.agg #[.slice (some ⟨wb, wo, none⟩) n wc, .slice (some ⟨eb, eo, none⟩) n ec, .int .i64 cnt], .int .u64 0, .bool false]) (by simp [results, Try.results32, go_sem, r0, r1, r2]) rfl ⟨rfl, ?_⟩
  exact same_then hs9 (Nat.le_add_right _ 3) (sep3 _ (w.heap.size + 3) _ _ _)

theorem rdo_no {F : Nat → Prop} {w : World} {L : List Reg} {cnt : Nat} {v : Value} (h : RM F w v L cnt) (ci ce op at_ x y : Int) (hno : okB L ci ce op at_ = false) :
    Calls Try.prog 32 #[v, .agg #[.int .i64 ci, .int .u64 ce], .agg #[.int .i64 op, .int .i64 at_, .int .u64 x, .int .u64 y]] w fun e w' => e = .returned (.tuple #[v, .int .u64 0, .bool false]) ∧ Same w w' := by
  obtain ⟨wa, wc, ea, ec, rfl⟩ := h.form
  cases hg : goodB L ci ce with
  | false => exact rdo_bad ci ce op at_ x y h hg
  | true =>
    by_cases h2 : at_ < 0
    · exact rdo_neg ci ce op at_ x y h hg (decide_eq_true h2)
    · obtain ⟨i, rfl⟩ : ∃ i : Nat, ci = i := ⟨ci.toNat, by have := of_decide_eq_true hg; omega⟩
      obtain ⟨j, rfl⟩ : ∃ j : Nat, at_ = j := ⟨at_.toNat, by omega⟩
      have hi : i < L.length := by have := of_decide_eq_true hg; omega
      obtain ⟨wb, wo, eb, eo, ra, rc, rfl, rfl, _, hlw, hle, hcw, hce, hsl⟩ := h.at hi
      have hd : decide ((j : Int) < 0) = false := decide_eq_false h2
      by_cases h3 : (L.getD i default).ws.length ≤ j
      · exact rdo_far i j ce op x y h hg hi hcw hd (decide_eq_true h3)
      · by_cases h4 : op < 0
        · exact rdo_low i j ce op x y h hg hi hcw hd (decide_eq_false h3) (decide_eq_true h4)
        · by_cases h5 : 3 < op
          · exact rdo_high i j ce op x y h hg hi hcw hd (decide_eq_false h3) (decide_eq_false h4) (decide_eq_true h5)
          · exfalso
            unfold okB at hno
            rw [hg, sizeOf_at hi] at hno
            simp only [Bool.true_and, decide_eq_false_iff_not] at hno
            exact hno ⟨by omega, by omega, by omega, by omega⟩

end Go.Proofs.Ytiljledgoflogaa
