/- What the readings of the arguments tell: the cells of a slice of words, of accesses; an access by value. -/
import Derived.Test.YtiljledgoflogaaI
import Derived.ProofKit
import Derived.Deep.Slices
import Derived.Lib.SmallJoins
namespace Go.Proofs.Ytiljledgoflogaa
open Go.RowKit Go.Deep Go.ChangeShapes

section
variable {H : Type} {enc : TypeId × Value → H} {w : World} {fuel : Nat} {a : Option Addr} {len cap : Nat} {x : DataW H × List MemPlace}

theorem lt_of_cell {w : World} {b off : Nat} {v : Value} (h : w.cell? ⟨b, off, none⟩ = some v) : b < w.heap.size := World.block_lt_of_cell? w ⟨b, off, none⟩ h
/-- An address at which a cell lies is a bare one. -/
theorem bare_of_cell {w : World} {a : Addr} {v : Value} (h : w.cell? (a.add 0) = some v) : a.spot = none := by
  obtain ⟨b, o, s⟩ := a
  cases s with
  | none => rfl
  | some s =>
    exfalso
    simp [Addr.add, World.cell?] at h
    split at h <;> simp at h
theorem add_bare (b off i : Nat) : (⟨b, off, none⟩ : Addr).add i = ⟨b, off + i, none⟩ := by unfold Addr.add; split <;> simp_all

theorem open_rowU (hf : DataW.trod enc Try.prog w 0 (fun _ => true) true fuel 22 (Value.cells (.slice a len cap)).toList = some x) : ∃ l : List Int, l.length = len ∧ RowU w a l := by
  rcases open_ints Try.underlying22 Try.underlying23 (by kernel_rfl) hf with ⟨hcs, _⟩ | ⟨y, l, c, zs, hcs, _, hl, hm, hz, _, hcell, hwz⟩
  · simp [Value.cells] at hcs
    obtain ⟨rfl, rfl, rfl⟩ := hcs
    exact ⟨[], rfl, .inl rfl⟩
  · simp [Value.cells] at hcs
    obtain ⟨rfl, rfl, rfl⟩ := hcs
    refine ⟨zs.take len, by simp at hz; simp; omega, ?_⟩
    cases len with
    | zero => exact .inl (by simp)
    | succ n =>
      have hz' : zs.length = cap := by simpa using hz
      have h0 := hcell 0 (by omega)
      obtain ⟨b, off, s⟩ := y
      obtain rfl : s = none := bare_of_cell h0
      refine .inr ⟨b, off, rfl, ?_, fun i hi => ?_⟩
      · rw [add_bare] at h0; exact lt_of_cell h0
      · simp at hi
        have := hcell i (by omega)
        rw [add_bare] at this
        rw [this]
        have hi' : i < n + 1 := by omega
        simp [List.getD, hi']

theorem cells25 : Try.prog.cellsOf 25 = 4 := by kernel_rfl
theorem cells3 : Try.prog.cellsOf 3 = 1 := by kernel_rfl
theorem cells23 : Try.prog.cellsOf 23 = 1 := by kernel_rfl
set_option maxRecDepth 100000 in
theorem open_rowA (hf : DataW.trod enc Try.prog w 0 (fun _ => true) true fuel 41 (Value.cells (.slice a len cap)).toList = some x) : ∃ l : List Acc, l.length = len ∧ RowA w a l := by
  rcases open_slice Try.underlying41 hf with ⟨hcs, _⟩ | ⟨y, l, c, m, n, D, Pl, hcs, _, hl, hm, hz, _, hcell⟩
  · simp [Value.cells] at hcs
    obtain ⟨rfl, rfl, rfl⟩ := hcs
    exact ⟨[], rfl, .inl rfl⟩
  · simp [Value.cells] at hcs
    obtain ⟨rfl, rfl, rfl⟩ := hcs
    have hz' : m = cap := by simpa using hz
    have each : ∀ i, i < len → ∃ z : Acc, w.cell? (y.add (i * 4)) = some (.int .i64 z.op) ∧ w.cell? ((y.add (i * 4)).add 1) = some (.int .i64 z.at_) ∧ w.cell? ((y.add (i * 4)).add 2) = some (.int .u64 z.x) ∧ w.cell? ((y.add (i * 4)).add 3) = some (.int .u64 z.y) := by
      intro i hi
      obtain ⟨cs, h1, h2⟩ := hcell i (by omega)
      rw [cells25] at h1
      obtain ⟨_, hlen, hget⟩ := World.cells?_some h1
      obtain ⟨y0, y1, y2, y3, n', _, _, h3, h4, h5, h6⟩ := Go.Joins.trod_struct4 Try.underlying25 h2
      match cs, hlen with
      | [c0, c1, c2, c3], _ =>
        simp only [cells3, cells23, List.drop_zero, List.drop_succ_cons, List.take_succ_cons, List.take_zero] at h3 h4 h5 h6
        obtain ⟨v0, e0, _⟩ := DataW.trod_int Try.underlying3 h3
        obtain ⟨v1, e1, _⟩ := DataW.trod_int Try.underlying3 h4
        obtain ⟨v2, e2, _⟩ := DataW.trod_int Try.underlying23 h5
        obtain ⟨v3, e3, _⟩ := DataW.trod_int Try.underlying23 h6
        simp at e0 e1 e2 e3
        have g0 := hget 0 (by omega)
        have g1 := hget 1 (by omega)
        have g2 := hget 2 (by omega)
        have g3 := hget 3 (by omega)
        simp at g0 g1 g2 g3
        refine ⟨⟨v0, v1, v2, v3⟩, ?_, ?_, ?_, ?_⟩
        · rw [← e0, ← g0]; unfold Addr.add; simp
        · rw [← e1, ← g1]
        · rw [← e2, ← g2]
        · rw [← e3, ← g3]
    obtain ⟨V, hV⟩ := choose_lt each
    refine ⟨(List.range len).map V, by simp, ?_⟩
    cases len with
    | zero => exact .inl (by simp)
    | succ k =>
      have h0 : w.cell? (y.add 0) = some (.int .i64 (V 0).op) := by simpa using (hV 0 (by omega)).1
      obtain ⟨b, off, s⟩ := y
      obtain rfl : s = none := bare_of_cell h0
      refine .inr ⟨b, off, rfl, ?_, fun i hi => ?_⟩
      · rw [add_bare] at h0; exact lt_of_cell h0
      · simp at hi
        have := hV i (by omega)
        simp only [add_bare] at this
        rw [this.1, this.2.1, this.2.2.1, this.2.2.2]
        simp [List.getD, hi]
end
end Go.Proofs.Ytiljledgoflogaa
