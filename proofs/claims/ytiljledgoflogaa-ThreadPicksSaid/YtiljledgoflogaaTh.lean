/- Lists of lists of accesses that came in; the walk of ThreadStale. -/
import Derived.Test.YtiljledgoflogaaTg
namespace Go.Proofs.Ytiljledgoflogaa
open Go.RowKit Go.Deep Go.ChangeShapes
set_option linter.unusedSimpArgs false
set_option linter.unusedVariables false

theorem cells41 : Try.prog.cellsOf 41 = 1 := by kernel_rfl

/-- Lists of accesses that came in, in a row. -/
def ArgR (w : World) (a : Option Addr) (ls : List (List Acc)) : Prop :=
  ls = [] ∨ ∃ b off, a = some ⟨b, off, none⟩ ∧ b < w.heap.size ∧ ∀ i, i < ls.length → ∃ va vc, w.cell? ⟨b, off + i, none⟩ = some (.slice va (ls.getD i []).length vc) ∧ ArgA w (.slice va (ls.getD i []).length vc) (ls.getD i [])

section
variable {H : Type} {enc : TypeId × Value → H} {w : World} {fuel : Nat} {a : Option Addr} {len cap : Nat} {x : DataW H × List MemPlace}
theorem open_rowsA (hf : DataW.trod enc Try.prog w 0 (fun _ => true) true fuel 110 (Value.cells (.slice a len cap)).toList = some x) : ∃ ls : List (List Acc), ls.length = len ∧ ArgR w a ls ∧ ∀ l ∈ ls, ∀ A ∈ l, AccW A := by
  rcases open_slice Try.underlying110 hf with ⟨hcs, _⟩ | ⟨y, l, c, m, n, D, Pl, hcs, _, hl, hm, hz, _, hcell⟩
  · simp [Value.cells] at hcs
    obtain ⟨rfl, rfl, rfl⟩ := hcs
    exact ⟨[], rfl, .inl rfl, fun A h => by cases h⟩
  · simp [Value.cells] at hcs
    obtain ⟨rfl, rfl, rfl⟩ := hcs
    have each : ∀ i, i < len → ∃ z : List Acc, (∃ va vc, w.cell? (y.add i) = some (.slice va z.length vc) ∧ ArgA w (.slice va z.length vc) z) ∧ ∀ A ∈ z, AccW A := by
      intro i hi
      obtain ⟨cs, h1, h2⟩ := hcell i (by have : m = cap := by simpa using hz
                                         omega)
      rw [cells41] at h1
      obtain ⟨_, hlen, hget⟩ := World.cells?_some h1
      match cs, hlen with
      | [c0], _ =>
        have g0 := hget 0 (by omega)
        simp only [Nat.mul_one, List.getElem?_cons_zero] at g0
        rw [show (y.add i).add 0 = y.add i from rfl] at g0
        have form : ∃ va vl vc, c0 = .slice va vl vc := by
          rcases open_slice Try.underlying41 h2 with ⟨hcs, _⟩ | ⟨y', l', c', _, _, _, _, hcs, _⟩
          · simp at hcs
            exact ⟨_, _, _, hcs⟩
          · simp at hcs
            exact ⟨_, _, _, hcs⟩
        obtain ⟨va, vl, vc, rfl⟩ := form
        obtain ⟨z, rfl, h3, h4⟩ := open_argW (a := va) (len := vl) (cap := vc) h2
        exact ⟨z, ⟨va, vc, g0, h3⟩, h4⟩
    obtain ⟨V, hV⟩ := choose_lt each
    refine ⟨(List.range len).map V, by simp, ?_, fun A hA => ?_⟩
    · cases len with
      | zero => exact .inl (by simp)
      | succ k =>
        obtain ⟨va, vc, h0, _⟩ := (hV 0 (by omega)).1
        obtain ⟨b, off, s⟩ := y
        obtain rfl : s = none := bare_of_cell h0
        refine .inr ⟨b, off, rfl, ?_, fun i hi => ?_⟩
        · rw [add_bare] at h0; exact lt_of_cell h0
        · simp at hi
          obtain ⟨va, vc, h1, h2⟩ := (hV i (by omega)).1
          rw [add_bare] at h1
          have e : ((List.range (k + 1)).map V).getD i [] = V i := by simp [List.getD, hi]
          rw [e]
          exact ⟨va, vc, h1, h2⟩
    · simp at hA
      obtain ⟨i, hi, rfl⟩ := hA
      exact (hV i hi).2
end
end Go.Proofs.Ytiljledgoflogaa
