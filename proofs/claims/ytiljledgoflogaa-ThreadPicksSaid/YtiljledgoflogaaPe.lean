/- Calls of a worker that came in; few. -/
import Derived.Test.YtiljledgoflogaaTm
import Derived.Deep.Strs
namespace Go.Proofs.Ytiljledgoflogaa
open Go.RowKit Go.Deep Go.ChangeShapes
set_option linter.unusedSimpArgs false
set_option linter.unusedVariables false

/-- A call of a worker. -/
structure PCall where
  kind : Int
  stale : Bool
  l : List Acc
instance : Inhabited PCall := ⟨⟨0, false, []⟩⟩
theorem cells120 : Try.prog.cellsOf 120 = 3 := by kernel_rfl

/-- Calls that came in, in a row. -/
def ArgP (w : World) (a : Option Addr) (ls : List PCall) : Prop :=
  ls = [] ∨ ∃ b off, a = some ⟨b, off, none⟩ ∧ b < w.heap.size ∧ ∀ i, i < ls.length → w.cell? ⟨b, off + i * 3, none⟩ = some (.int .i64 (ls.getD i default).kind) ∧ w.cell? ⟨b, off + i * 3 + 1, none⟩ = some (.bool (ls.getD i default).stale) ∧
    ∃ va vc, w.cell? ⟨b, off + i * 3 + 2, none⟩ = some (.slice va (ls.getD i default).l.length vc) ∧ ArgA w (.slice va (ls.getD i default).l.length vc) (ls.getD i default).l

section
variable {H : Type} {enc : TypeId × Value → H} {w : World} {fuel : Nat} {a : Option Addr} {len cap : Nat} {x : DataW H × List MemPlace}
set_option maxRecDepth 100000 in
theorem open_rowP (hf : DataW.trod enc Try.prog w 0 (fun _ => true) true fuel 115 (Value.cells (.slice a len cap)).toList = some x) : ∃ ls : List PCall, ls.length = len ∧ ArgP w a ls ∧ ∀ c ∈ ls, ∀ A ∈ c.l, AccW A := by
  rcases open_slice Try.underlying115 hf with ⟨hcs, _⟩ | ⟨y, l, c, m, n, D, Pl, hcs, _, hl, hm, hz, _, hcell⟩
  · simp [Value.cells] at hcs
    obtain ⟨rfl, rfl, rfl⟩ := hcs
    exact ⟨[], rfl, .inl rfl, fun A h => by cases h⟩
  · simp [Value.cells] at hcs
    obtain ⟨rfl, rfl, rfl⟩ := hcs
    have each : ∀ i, i < len → ∃ z : PCall, (w.cell? (y.add (i * 3)) = some (.int .i64 z.kind) ∧ w.cell? ((y.add (i * 3)).add 1) = some (.bool z.stale) ∧ ∃ va vc, w.cell? ((y.add (i * 3)).add 2) = some (.slice va z.l.length vc) ∧ ArgA w (.slice va z.l.length vc) z.l) ∧ ∀ A ∈ z.l, AccW A := by
      intro i hi
      obtain ⟨cs, h1, h2⟩ := hcell i (by have : m = cap := by simpa using hz
                                         omega)
      rw [cells120] at h1
      obtain ⟨_, hlen, hget⟩ := World.cells?_some h1
      obtain ⟨y0, y1, y2, n', _, _, h3, h4, h5⟩ := Go.Deep.trod_struct3 Try.underlying120 h2
      match cs, hlen with
      | [c0, c1, c2], _ =>
        simp only [cells3, cells4, cells41, List.drop_zero, List.drop_succ_cons, List.take_succ_cons, List.take_zero] at h3 h4 h5
        obtain ⟨v0, e0, _, w0⟩ := DataW.trod_int Try.underlying3 h3
        obtain ⟨v1, e1, _⟩ := DataW.trod_bool Try.underlying4 h4
        have form : ∃ va vl vc, c2 = .slice va vl vc := by
          rcases open_slice Try.underlying41 h5 with ⟨hcs, _⟩ | ⟨y', l', c', _, _, _, _, hcs, _⟩
          · simp at hcs
            exact ⟨_, _, _, hcs⟩
          · simp at hcs
            exact ⟨_, _, _, hcs⟩
        obtain ⟨va, vl, vc, rfl⟩ := form
        obtain ⟨z, rfl, h6, h7⟩ := open_argW (a := va) (len := vl) (cap := vc) h5
        simp at e0 e1
        have g0 := hget 0 (by omega)
        have g1 := hget 1 (by omega)
        have g2 := hget 2 (by omega)
        simp at g0 g1 g2
        refine ⟨⟨v0, v1, z⟩, ⟨?_, ?_, va, vc, ?_, h6⟩, h7⟩
        · rw [← e0, ← g0]; unfold Addr.add; simp
        · rw [← e1, ← g1]
        · exact g2
    obtain ⟨V, hV⟩ := choose_lt each
    refine ⟨(List.range len).map V, by simp, ?_, fun A hA => ?_⟩
    · cases len with
      | zero => exact .inl (by simp)
      | succ k =>
        have h0 : w.cell? (y.add 0) = some (.int .i64 (V 0).kind) := by simpa using (hV 0 (by omega)).1.1
        obtain ⟨b, off, s⟩ := y
        obtain rfl : s = none := bare_of_cell h0
        refine .inr ⟨b, off, rfl, ?_, fun i hi => ?_⟩
        · rw [add_bare] at h0; exact lt_of_cell h0
        · simp at hi
          obtain ⟨⟨h1, h2, va, vc, h3, h4⟩, _⟩ := hV i (by omega)
          simp only [add_bare] at h1 h2 h3
          have e : ((List.range (k + 1)).map V).getD i default = V i := by simp [List.getD, hi]
          rw [e]
          exact ⟨h1, h2, va, vc, h3, h4⟩
    · simp at hA
      obtain ⟨i, hi, rfl⟩ := hA
      exact (hV i hi).2
end

/-- What few answers. -/
def FewR (ls : List PCall) (w : World) (e : Ending) (w' : World) : Prop := ∃ r : Bool, e = .returned (.bool r) ∧ w = w' ∧ (r = true → ls.length ≤ 80 ∧ ∀ j, j < ls.length → (ls.getD j default).l.length ≤ 10)
/-- few's loop. -/
def FewL (ls : List PCall) (n : Nat) (w : World) (i : Value) (wr : World) : Prop := w = wr ∧ ∃ k : Nat, k ≤ n ∧ k ≤ 100 ∧ i = .int .i64 k ∧ ∀ j, j < k → (ls.getD j default).l.length ≤ 10

set_option maxRecDepth 100000 in
theorem few5_any (a0 : Option Addr) (c0 : Nat) (ls : List PCall) (w : World) (q0 : ArgP w a0 ls) : Calls Try.prog 56 #[.slice a0 ls.length c0] w (FewR ls w) := by
  obtain ⟨n, hn⟩ : ∃ n, n = ls.length := ⟨_, rfl⟩
  have Q0 := Lib.hid q0
  rw [← hn]
  have HN := Lib.hid hn
  clear q0 hn
  go_enter Try.func56, Try.ntmps56
  go_wp2
  go_loopw [3] (fun i wr => FewL ls n w i wr) (fun i _ => n - (intOf i).toNat)
  case atStart => exact ⟨rfl, 0, by omega, by omega, rfl, fun j hj => by omega⟩
  case round =>
    obtain ⟨rfl, k, hk, hk2, rfl, hten⟩ := hrel
    have HTEN := Lib.hid hten
    clear hten
    by_cases hlt : k < n
    · by_cases h100 : k < 100
      · have hkl : k < ls.length := by rw [← HN.out]; exact hlt
        rcases Q0.out with rfl | ⟨b, off, rfl, hb, h1⟩
        · simp at hkl
        obtain ⟨_, _, va, vc, hc, _⟩ := h1 k hkl
        obtain ⟨rn, hrn⟩ : ∃ rn, rn = (ls.getD k default).l.length := ⟨_, rfl⟩
        rw [← hrn] at hc
        have HRN := Lib.hid hrn
        clear h1 hrn hkl
        by_cases h10 : rn ≤ 10
        · go_wp2
          go_roundw
          case rel => exact ⟨rfl, k + 1, by omega, by omega, by go_num, fun j hj => by
            rcases Nat.lt_succ_iff_lt_or_eq.mp hj with h | rfl
            · exact HTEN.out j h
            · rw [← HRN.out]; exact h10⟩
          case measure => simp [intOf]; omega
        · go_wp2
          go_ret
          exact ⟨false, rfl, rfl, fun h => by cases h⟩
      · have h80 : ¬ (n : Int) ≤ 80 := by omega
        go_wp2
        go_ret
        exact ⟨false, rfl, rfl, fun h => by cases h⟩
    · obtain rfl : k = n := by omega
      by_cases h80 : k ≤ 80
      · go_wp2
        go_ret
        exact ⟨true, by first | rfl | (simp; omega), rfl, fun _ => ⟨by rw [← HN.out]; exact h80, fun j hj => HTEN.out j (by rw [HN.out]; exact hj)⟩⟩
      · go_wp2
        go_ret
        exact ⟨false, by first | rfl | (simp; omega), rfl, fun h => by cases h⟩
end Go.Proofs.Ytiljledgoflogaa
