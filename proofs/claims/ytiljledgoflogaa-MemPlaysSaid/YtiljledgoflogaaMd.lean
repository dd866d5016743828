/- Numbers that came in. -/
import Derived.Test.YtiljledgoflogaaMc
namespace Go.Proofs.Ytiljledgoflogaa
open Go.RowKit Go.Deep Go.ChangeShapes
section
variable {H : Type} {enc : TypeId × Value → H} {w : World} {fuel : Nat} {a : Option Addr} {len cap : Nat} {x : DataW H × List MemPlace}
theorem open_rowI (hf : DataW.trod enc Try.prog w 0 (fun _ => true) true fuel 31 (Value.cells (.slice a len cap)).toList = some x) : ∃ l : List Int, l.length = len ∧ RowI w a l := by
  rcases open_ints Try.underlying31 Try.underlying3 (by kernel_rfl) hf with ⟨hcs, _⟩ | ⟨y, l, c, zs, hcs, _, hl, hm, hz, _, hcell, hwz⟩
  · simp [Value.cells] at hcs
    obtain ⟨rfl, rfl, rfl⟩ := hcs
    exact ⟨[], rfl, .inl rfl⟩
  · simp [Value.cells] at hcs
    obtain ⟨rfl, rfl, rfl⟩ := hcs
    refine ⟨zs.take len, by simp at hz; simp; omega, ?_⟩
    cases len with
    | zero => exact .inl (by simp)
    | succ n =>
      have hz' : zs.length = cap := by simpa using hz
      have h0 := hcell 0 (by omega)
      obtain ⟨b, off, s⟩ := y
      obtain rfl : s = none := bare_of_cell h0
      refine .inr ⟨b, off, rfl, ?_, fun i hi => ?_⟩
      · rw [add_bare] at h0; exact lt_of_cell h0
      · simp at hi
        have := hcell i (by omega)
        rw [add_bare] at this
        rw [this]
        have hi' : i < n + 1 := by omega
        simp [List.getD, hi']
end
end Go.Proofs.Ytiljledgoflogaa
