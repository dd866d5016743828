/- The worker's end: what a program that is over leaves. -/
import Derived.Test.YtiljledgoflogaaTa
namespace Go.Proofs.Ytiljledgoflogaa
open Go.RowKit
set_option linter.unusedSimpArgs false
set_option linter.unusedVariables false

theorem cells11 {w : World} {b : Nat} {x0 x1 x2 x3 x4 x5 x6 x7 x8 x9 x10 : Value} {T : TypeId} (h : w.heap[b]? = some (.cells #[x0, x1, x2, x3, x4, x5, x6, x7, x8, x9, x10] T)) :
    w.cell? ⟨b, 0, none⟩ = some x0 ∧ w.cell? ⟨b, 1, none⟩ = some x1 ∧ w.cell? ⟨b, 2, none⟩ = some x2 ∧ w.cell? ⟨b, 3, none⟩ = some x3 ∧ w.cell? ⟨b, 4, none⟩ = some x4 ∧ w.cell? ⟨b, 5, none⟩ = some x5 ∧ w.cell? ⟨b, 6, none⟩ = some x6 ∧
    w.cell? ⟨b, 7, none⟩ = some x7 ∧ w.cell? ⟨b, 8, none⟩ = some x8 ∧ w.cell? ⟨b, 9, none⟩ = some x9 ∧ w.cell? ⟨b, 10, none⟩ = some x10 ∧ (∀ j, w.frozen? ⟨b, j, none⟩ = false) := by
  refine ⟨?_, ?_, ?_, ?_, ?_, ?_, ?_, ?_, ?_, ?_, ?_, fun j => free_of_heap h⟩ <;> (rw [cell_of_heap h]; rfl)
theorem sep1 {S : Nat → Prop} (w : World) (b : Nat) (j : Nat) (x : Value) (h : S b) : Sep S w (w.setCell ⟨b, j, none⟩ x) := (Sep.refl S w).thenSet (.inl h) _
/-- The program's seven cells of a worker. -/
theorem sep7at (w : World) (b : Nat) (x0 x1 x2 x3 x4 x5 x6 : Value) : Sep (fun k => k = b) w (((((((w.setCell ⟨b, 4, none⟩ x0).setCell ⟨b, 5, none⟩ x1).setCell ⟨b, 6, none⟩ x2).setCell ⟨b, 7, none⟩ x3).setCell ⟨b, 8, none⟩ x4).setCell ⟨b, 9, none⟩ x5).setCell ⟨b, 10, none⟩ x6) :=
  (((((((Sep.refl (fun k => k = b) w).thenSet (.inl rfl) _).thenSet (.inl rfl) _).thenSet (.inl rfl) _).thenSet (.inl rfl) _).thenSet (.inl rfl) _).thenSet (.inl rfl) _).thenSet (.inl rfl) _
theorem heap7at {w : World} {b : Nat} {y0 y1 y2 y3 y4 y5 y6 y7 y8 y9 y10 x0 x1 x2 x3 x4 x5 x6 : Value} {T : TypeId} (h : w.heap[b]? = some (.cells #[y0, y1, y2, y3, y4, y5, y6, y7, y8, y9, y10] T)) :
    (((((((w.setCell ⟨b, 4, none⟩ x0).setCell ⟨b, 5, none⟩ x1).setCell ⟨b, 6, none⟩ x2).setCell ⟨b, 7, none⟩ x3).setCell ⟨b, 8, none⟩ x4).setCell ⟨b, 9, none⟩ x5).setCell ⟨b, 10, none⟩ x6).heap[b]? = some (.cells #[y0, y1, y2, y3, x0, x1, x2, x3, x4, x5, x6] T) := by
  have g1 := heap_set_same (j := 4) (v := x0) h
  have g2 := heap_set_same (j := 5) (v := x1) g1
  have g3 := heap_set_same (j := 6) (v := x2) g2
  have g4 := heap_set_same (j := 7) (v := x3) g3
  have g5 := heap_set_same (j := 8) (v := x4) g4
  have g6 := heap_set_same (j := 9) (v := x5) g5
  have g7 := heap_set_same (j := 10) (v := x6) g6
  rw [g7]
  simp
theorem heap3at {w : World} {b : Nat} {y0 y1 y2 y3 y4 y5 y6 y7 y8 y9 y10 x : Value} {T : TypeId} (h : w.heap[b]? = some (.cells #[y0, y1, y2, y3, y4, y5, y6, y7, y8, y9, y10] T)) :
    (w.setCell ⟨b, 3, none⟩ x).heap[b]? = some (.cells #[y0, y1, y2, x, y4, y5, y6, y7, y8, y9, y10] T) := by
  rw [heap_set_same h]
  rfl
theorem sep2 (w : World) (b : Nat) (x y : Value) : Sep (fun k => k = b) w ((w.setCell ⟨b, 0, none⟩ x).setCell ⟨b, 1, none⟩ y) :=
  ((Sep.refl (fun k => k = b) w).thenSet (.inl rfl) _).thenSet (.inl rfl) _

/-- The cells of a worker: the memory mp, the box bp, begin, whether it is busy, and the program. -/
def wcells (mp bp : Nat) (busy : Bool) (x0 x1 x2 x3 x4 x5 x6 : Value) : Obj := .cells #[.pointer (some ⟨mp, 0, none⟩), .pointer (some ⟨bp, 0, none⟩), .func (.func 42) #[] #[], .bool busy, x0, x1, x2, x3, x4, x5, x6] 162

def evt (k : Int) (r : Value) : Value := .agg #[.int .i64 k, r]

/-- What is written into a block that is new turns nothing old. -/
theorem sep_in {S : Nat → Prop} {w w1 w2 : World} (h : Sep S w w1) (h2 : Sep (fun k => k = w.heap.size) w1 w2) : Sep S w w2 :=
  ⟨h2.os.trans h.os, h2.tape.trans h.tape, h2.output.trans h.output, Nat.le_trans h.size h2.size, fun k hk hn => (h2.block k (Nat.lt_of_lt_of_le hk h.size) (fun e => by omega)).trans (h.block k hk hn)⟩

set_option maxRecDepth 100000 in
set_option maxHeartbeats 1000000 in
theorem end_over {w : World} {wp mp bp : Nat} {busy : Bool} (a : Option Addr) (n cp : Nat) (k : Int)
    (h : w.heap[wp]? = some (wcells mp bp busy (.bool true) (.slice a n cp) (.int .i64 0) (.int .i64 0) (.int .u64 0) (.int .u64 0) .nilFunc)) :
    Calls Try.prog 86 #[.pointer (some ⟨wp, 0, none⟩), .int .i64 k] w fun e w' => e = .returned (evt 2 (.slice a n cp)) ∧ w'.heap[wp]? = some (wcells mp bp false (.bool false) (.slice none 0 0) (.int .i64 0) (.int .i64 0) (.int .u64 0) (.int .u64 0) .nilFunc) ∧ Sep (fun q => q = wp) w w' := by
  have hlt := lt_of_block h
  have hs0 : Same w (w.alloc (.cells #[.int .i64 0, .slice none 0 0] 107)) := Sep.alloc _ _ _
  have h1 := hs0.obj h
  unfold wcells at h1
  obtain ⟨c0, c1, c2, c3, c4, c5, c6, c7, c8, c9, c10, cf⟩ := cells11 h1
  have hb : (w.alloc (.cells #[.int .i64 0, .slice none 0 0] 107)).heap[w.heap.size]? = some (.cells #[.int .i64 0, .slice none 0 0] 107) := heap_alloc_new _ _
  obtain ⟨W, hW⟩ : ∃ W, W = w.alloc (.cells #[.int .i64 0, .slice none 0 0] 107) := ⟨_, rfl⟩
  rw [← hW] at hs0 hb h1
  have H1 := Lib.hid h1
  have HW := Lib.hid hW
  have HB := Lib.hid hb
  have ne : wp ≠ w.heap.size := by omega
  clear h h1 hW hb
  go_enter Try.func86, Try.ntmps86
  go_wp2_with fail
  rw [← HW.out]
  refine (over_any true a n cp 0 0 0 0 .nilFunc _).mono ?_
  rintro e w1 ⟨rfl, hs1⟩
  have h2 := hs1.obj H1.out
  obtain ⟨d0, d1, d2, d3, d4, d5, d6, d7, d8, d9, d10, df⟩ := cells11 h2
  have H2 := Lib.hid h2
  have HB2 := Lib.hid (hs1.obj HB.out)
  have hs01 := hs0.trans hs1
  have b0 : w1.cell? ⟨w.heap.size, 0, none⟩ = some (.int .i64 0) := by rw [cell_of_heap HB2.out]; rfl
  have b1 : w1.cell? ⟨w.heap.size, 1, none⟩ = some (.slice none 0 0) := by rw [cell_of_heap HB2.out]; rfl
  have bf : ∀ j, w1.frozen? ⟨w.heap.size, j, none⟩ = false := fun j => free_of_heap HB2.out
  clear c0 c1 c2 c3 c4 c5 c6 c7 c8 c9 c10 cf h2 hs1 hs0 HB HB2 H1 HW
  go_wp2
  refine bodyPost_ret (v := evt 2 (.slice a n cp)) (by simp [results, Try.results86, go_sem, evt, b0, b1, bf, ne, ne.symm]) rfl ?_
  have s3 := sep1 (S := fun q => q = wp) w1 wp 3 (.bool false) rfl
  have h3 := heap3at (x := .bool false) H2.out
  have s7 := sep7at (w1.setCell ⟨wp, 3, none⟩ (.bool false)) wp (.bool false) (.slice none 0 0) (.int .i64 0) (.int .i64 0) (.int .u64 0) (.int .u64 0) .nilFunc
  have h7 := heap7at (x0 := .bool false) (x1 := .slice none 0 0) (x2 := .int .i64 0) (x3 := .int .i64 0) (x4 := .int .u64 0) (x5 := .int .u64 0) (x6 := .nilFunc) h3
  exact ⟨rfl, (sep2 _ w.heap.size _ _).obj h7 (fun e => ne e), sep_in (((Same.sep hs01 _).trans s3).trans s7) (sep2 _ w.heap.size _ _)⟩

set_option maxRecDepth 100000 in
set_option maxHeartbeats 1000000 in
theorem end_left {w : World} {wp mp bp : Nat} {busy : Bool} (op at_ x y k : Int) (nx : Value)
    (h : w.heap[wp]? = some (wcells mp bp busy (.bool false) (.slice none 0 0) (.int .i64 op) (.int .i64 at_) (.int .u64 x) (.int .u64 y) nx)) :
    Calls Try.prog 86 #[.pointer (some ⟨wp, 0, none⟩), .int .i64 k] w fun e w' => e = .returned (evt k (.slice none 0 0)) ∧ w'.heap[wp]? = some (wcells mp bp true (.bool false) (.slice none 0 0) (.int .i64 op) (.int .i64 at_) (.int .u64 x) (.int .u64 y) nx) ∧ Sep (fun q => q = wp) w w' := by
  have hlt := lt_of_block h
  have hs0 : Same w (w.alloc (.cells #[.int .i64 0, .slice none 0 0] 107)) := Sep.alloc _ _ _
  have h1 := hs0.obj h
  unfold wcells at h1
  obtain ⟨c0, c1, c2, c3, c4, c5, c6, c7, c8, c9, c10, cf⟩ := cells11 h1
  have hb : (w.alloc (.cells #[.int .i64 0, .slice none 0 0] 107)).heap[w.heap.size]? = some (.cells #[.int .i64 0, .slice none 0 0] 107) := heap_alloc_new _ _
  obtain ⟨W, hW⟩ : ∃ W, W = w.alloc (.cells #[.int .i64 0, .slice none 0 0] 107) := ⟨_, rfl⟩
  rw [← hW] at hs0 hb h1
  have H1 := Lib.hid h1
  have HW := Lib.hid hW
  have HB := Lib.hid hb
  have ne : wp ≠ w.heap.size := by omega
  clear h h1 hW hb
  go_enter Try.func86, Try.ntmps86
  go_wp2_with fail
  rw [← HW.out]
  refine (over_any false none 0 0 op at_ x y nx _).mono ?_
  rintro e w1 ⟨rfl, hs1⟩
  have h2 := hs1.obj H1.out
  obtain ⟨d0, d1, d2, d3, d4, d5, d6, d7, d8, d9, d10, df⟩ := cells11 h2
  have H2 := Lib.hid h2
  have HB2 := Lib.hid (hs1.obj HB.out)
  have hs01 := hs0.trans hs1
  have b0 : w1.cell? ⟨w.heap.size, 0, none⟩ = some (.int .i64 0) := by rw [cell_of_heap HB2.out]; rfl
  have b1 : w1.cell? ⟨w.heap.size, 1, none⟩ = some (.slice none 0 0) := by rw [cell_of_heap HB2.out]; rfl
  have bf : ∀ j, w1.frozen? ⟨w.heap.size, j, none⟩ = false := fun j => free_of_heap HB2.out
  clear c0 c1 c2 c3 c4 c5 c6 c7 c8 c9 c10 cf h2 hs1 hs0 HB HB2 H1 HW
  go_wp2
  refine bodyPost_ret (v := evt k (.slice none 0 0)) (by simp [results, Try.results86, go_sem, evt, b0, b1, bf, ne, ne.symm]) rfl ?_
  have s3 := sep1 (S := fun q => q = wp) w1 wp 3 (.bool true) rfl
  have h3 := heap3at (x := .bool true) H2.out
  exact ⟨rfl, (sep2 _ w.heap.size _ _).obj h3 (fun e => ne e), sep_in ((Same.sep hs01 _).trans s3) (sep2 _ w.heap.size _ _)⟩
end Go.Proofs.Ytiljledgoflogaa
