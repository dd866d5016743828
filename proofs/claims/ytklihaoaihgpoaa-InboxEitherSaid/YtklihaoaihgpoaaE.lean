/- What the readings of the arguments tell: the cells of a slice of numbers, of texts, of calls. -/
import Derived.Test.YtklihaoaihgpoaaC
import Derived.Test.YtklihaoaihgpoaaD
import Derived.ProofKit
import Derived.SliceStrings
import Derived.Deep.Slices
namespace Go.Proofs.Ytklihaoaihgpoaa
open Go.RowKit Go.Deep Go.ChangeShapes

section
variable {H : Type} {enc : TypeId × Value → H} {w : World} {fuel : Nat} {a : Option Addr} {len cap : Nat} {x : DataW H × List MemPlace}

theorem lt_of_cell {w : World} {b off : Nat} {v : Value} (h : w.cell? ⟨b, off, none⟩ = some v) : b < w.heap.size := World.block_lt_of_cell? w ⟨b, off, none⟩ h
/-- An address at which a cell lies is a bare one. -/
theorem bare_of_cell {w : World} {a : Addr} {v : Value} (h : w.cell? (a.add 0) = some v) : a.spot = none := by
  obtain ⟨b, o, s⟩ := a
  cases s with
  | none => rfl
  | some s =>
    exfalso
    simp [Addr.add, World.cell?] at h
    split at h <;> simp at h
theorem add_bare (b off i : Nat) : (⟨b, off, none⟩ : Addr).add i = ⟨b, off + i, none⟩ := by unfold Addr.add; split <;> simp_all

theorem open_rowI (hf : DataW.trod enc Try.prog w 0 (fun _ => true) true fuel 37 (Value.cells (.slice a len cap)).toList = some x) : ∃ l : List Int, l.length = len ∧ RowI w a l := by
  rcases open_ints Try.underlying37 Try.underlying3 (by kernel_rfl) hf with ⟨hcs, _⟩ | ⟨y, l, c, zs, hcs, _, hl, hm, hz, _, hcell, hwz⟩
  · simp [Value.cells] at hcs
    obtain ⟨rfl, rfl, rfl⟩ := hcs
    exact ⟨[], rfl, .inl rfl⟩
  · simp [Value.cells] at hcs
    obtain ⟨rfl, rfl, rfl⟩ := hcs
    refine ⟨zs.take len, by simp at hz; simp; omega, ?_⟩
    cases len with
    | zero => exact .inl (by simp)
    | succ n =>
      have hz' : zs.length = cap := by simpa using hz
      have h0 := hcell 0 (by omega)
      obtain ⟨b, off, s⟩ := y
      obtain rfl : s = none := bare_of_cell h0
      refine .inr ⟨b, off, rfl, ?_, fun i hi => ?_⟩
      · rw [add_bare] at h0; exact lt_of_cell h0
      · simp at hi
        have := hcell i (by omega)
        rw [add_bare] at this
        rw [this]
        have hi' : i < n + 1 := by omega
        simp [List.getD, hi']

theorem open_rowS (hf : DataW.trod enc Try.prog w 0 (fun _ => true) true fuel 22 (Value.cells (.slice a len cap)).toList = some x) : ∃ l : List ByteArray, l.length = len ∧ RowS w a l := by
  rcases open_strings Try.underlying22 Try.underlying9 (by kernel_rfl) hf with ⟨hcs, _⟩ | ⟨y, l, c, zs, hcs, _, hl, hm, hz, _, hcell, hwz⟩
  · simp [Value.cells] at hcs
    obtain ⟨rfl, rfl, rfl⟩ := hcs
    exact ⟨[], rfl, .inl rfl⟩
  · simp [Value.cells] at hcs
    obtain ⟨rfl, rfl, rfl⟩ := hcs
    refine ⟨zs.take len, by simp at hz; simp; omega, ?_⟩
    cases len with
    | zero => exact .inl (by simp)
    | succ n =>
      have hz' : zs.length = cap := by simpa using hz
      have h0 := hcell 0 (by omega)
      obtain ⟨b, off, s⟩ := y
      obtain rfl : s = none := bare_of_cell h0
      refine .inr ⟨b, off, rfl, ?_, fun i hi => ?_⟩
      · rw [add_bare] at h0; exact lt_of_cell h0
      · simp at hi
        have := hcell i (by omega)
        rw [add_bare] at this
        rw [this]
        have hi' : i < n + 1 := by omega
        simp [List.getD, hi']

theorem cells39 : Try.prog.cellsOf 39 = 2 := by kernel_rfl
theorem cells3 : Try.prog.cellsOf 3 = 1 := by kernel_rfl
theorem cells4 : Try.prog.cellsOf 4 = 1 := by kernel_rfl
theorem open_rowC (hf : DataW.trod enc Try.prog w 0 (fun _ => true) true fuel 32 (Value.cells (.slice a len cap)).toList = some x) : ∃ l : List (Bool × Int), l.length = len ∧ RowC w a l := by
  rcases open_slice Try.underlying32 hf with ⟨hcs, _⟩ | ⟨y, l, c, m, n, D, Pl, hcs, _, hl, hm, hz, _, hcell⟩
  · simp [Value.cells] at hcs
    obtain ⟨rfl, rfl, rfl⟩ := hcs
    exact ⟨[], rfl, .inl rfl⟩
  · simp [Value.cells] at hcs
    obtain ⟨rfl, rfl, rfl⟩ := hcs
    have hz' : m = cap := by simpa using hz
    have each : ∀ i, i < len → ∃ z : Bool × Int, w.cell? (y.add (i * 2)) = some (.bool z.1) ∧ w.cell? ((y.add (i * 2)).add 1) = some (.int .i64 z.2) := by
      intro i hi
      obtain ⟨cs, h1, h2⟩ := hcell i (by omega)
      rw [cells39] at h1
      obtain ⟨_, hlen, hget⟩ := World.cells?_some h1
      obtain ⟨y0, y1, n', _, _, h3, h4⟩ := trod_struct2 Try.underlying39 h2
      match cs, hlen with
      | [c0, c1], _ =>
        simp only [cells3, cells4, List.drop_zero, List.drop_succ_cons, List.take_succ_cons, List.take_zero] at h3 h4
        obtain ⟨b, hb, _⟩ := DataW.trod_bool Try.underlying4 h3
        obtain ⟨v, hv, _⟩ := DataW.trod_int Try.underlying3 h4
        simp at hb hv
        have g0 := hget 0 (by omega)
        have g1 := hget 1 (by omega)
        simp at g0 g1
        refine ⟨(b, v), ?_, ?_⟩
        · rw [← hb, ← g0]; unfold Addr.add; simp
        · rw [← hv, ← g1]
    obtain ⟨V, hV⟩ := choose_lt each
    refine ⟨(List.range len).map V, by simp, ?_⟩
    cases len with
    | zero => exact .inl (by simp)
    | succ k =>
      have h0 : w.cell? (y.add 0) = some (.bool (V 0).1) := by simpa using (hV 0 (by omega)).1
      obtain ⟨b, off, s⟩ := y
      obtain rfl : s = none := bare_of_cell h0
      refine .inr ⟨b, off, rfl, ?_, fun i hi => ?_⟩
      · rw [add_bare] at h0; exact lt_of_cell h0
      · simp at hi
        have := hV i (by omega)
        simp only [add_bare] at this
        rw [this.1, this.2]
        simp [List.getD, hi]
end
end Go.Proofs.Ytklihaoaihgpoaa
