/- Memories of known sizes; awake. -/
import Derived.Test.YtiljledgoflogaaE
namespace Go.Proofs.Ytiljledgoflogaa
open Go.RowKit
set_option linter.unusedSimpArgs false

theorem sum_small (zs : List Int) (h : ∀ z ∈ zs, 0 ≤ z ∧ z ≤ 200) : ∀ k, 0 ≤ sumTo zs k ∧ sumTo zs k ≤ 200 * k := by
  intro k
  induction k with
  | zero => rw [sumTo_zero]; omega
  | succ k ih =>
    by_cases hk : k < zs.length
    · rw [sumTo_succ zs k hk]
      have := h (zs.getD k 0) (by simp [List.getD, hk])
      omega
    · unfold sumTo at *
      rw [List.take_of_length_le (by omega)] at *
      omega
theorem sizes_small (zs : List Int) (hl : zs.length ≤ 65) (h : ∀ z ∈ zs, 0 ≤ z ∧ z ≤ 200) : sizesOk zs := by
  refine ⟨hl, fun k hk => ?_⟩
  have h1 := h (zs.getD k 0) (by simp [List.getD, hk])
  have h2 := sum_small zs h k
  omega
theorem rowI_new (w : World) (zs : List Int) : RowI (w.alloc (.cells (zs.map (Value.int .i64)).toArray 3)) (some ⟨w.heap.size, 0, none⟩) zs := by
  refine .inr ⟨w.heap.size, 0, rfl, by simp, fun i hi => ?_⟩
  rw [cell_of_heap (heap_alloc_new _ _)]
  simp [hi]

/-- New at sizes that are written out: the slice has just been laid. -/
theorem new_lit (w : World) (zs : List Int) (c : Array Value) (n : Nat) (hc : c = (zs.map (Value.int .i64)).toArray) (hn : n = zs.length) (hl : zs.length ≤ 65) (h : ∀ z ∈ zs, 0 ≤ z ∧ z ≤ 200) :
    Calls Try.prog 21 #[.slice (some ⟨w.heap.size, 0, none⟩) n n] (w.alloc (.cells c 3)) fun e w' => ∃ p lo hi, e = .returned (.tuple #[.pointer (some ⟨p, 0, none⟩), .int .i64 0]) ∧ Mem lo hi w' p (zs.map fun z => ⟨List.replicate z.toNat 0, 1⟩) 0 ∧ Same w w' ∧ w.heap.size ≤ lo ∧ w'.heap.size = hi := by
  subst hc hn
  refine (new_ok _ _ zs _ (rowI_new w zs) (sizes_small zs hl h)).mono ?_
  rintro e w' ⟨p, rfl, hm, hs⟩
  exact ⟨p, _, _, rfl, hm, (Sep.alloc _ _ _).trans hs, by simp, rfl⟩

theorem below_in {B lo hi : Nat} {w a b : World} (h : Below B w a) (h' : In lo hi a b) (hl : B ≤ lo) (hB : B ≤ a.heap.size) : Below B w b := h.trans (h'.below hl hB)
theorem below_same {B : Nat} {w a b : World} (h : Below B w a) (h' : Same a b) (hB : B ≤ a.heap.size) : Below B w b := h.trans (h'.below.mono hB)

theorem awake_ok (w : World) : Calls Try.prog 20 #[] w fun e w' => e = .returned (.bool true) ∧ Below w.heap.size w w' := by
  go_enter Try.func20, Try.ntmps20
  go_wp2_with fail
  refine (new_lit w [2] _ 1 rfl rfl (by decide) (by decide)).mono ?_
  rintro e w1 ⟨p, lo, hi, rfl, hm, hs, hlo, hhi⟩
  have bel1 := below_same (Below.refl w.heap.size w) hs (Nat.le_refl _)
  go_wp2_with fail
  refine (cap_any hm 0).mono ?_
  rintro e w2 ⟨rfl, hs2⟩
  have hm2 := hm.same hs2
  have bel2 := below_same bel1 hs2 bel1.size
  rw [show capOf ((([2] : List Int)).map fun z => (⟨List.replicate z.toNat 0, 1⟩ : Reg)) 0 = .agg #[.int .i64 0, .int .u64 1] from rfl]
  go_wp2_with fail
  refine (do_yes hm2 0 1 1 1 7 0 (by omega) (by rfl)).mono ?_
  rintro e w3 ⟨rfl, hm3, hs3⟩
  have bel3 := below_in bel2 hs3 hlo bel2.size
  go_wp2_with fail
  refine (peek_any hm3 0 1).mono ?_
  rintro e w4 ⟨rfl, rfl⟩
  rw [show peekOf (doL ((([2] : List Int)).map fun z => (⟨List.replicate z.toNat 0, 1⟩ : Reg)) (Int.toNat 0) (Int.toNat 1) 1 7 0) 0 1 = 7 from rfl]
  go_wp2
  go_ret
  exact ⟨rfl, bel3⟩
end Go.Proofs.Ytiljledgoflogaa
