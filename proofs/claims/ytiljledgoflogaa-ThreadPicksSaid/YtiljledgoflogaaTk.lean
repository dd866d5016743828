/- Small numbers and Booleans that came in; workers that add to one word. -/
import Derived.Test.YtiljledgoflogaaTj
namespace Go.Proofs.Ytiljledgoflogaa
open Go.RowKit Go.Deep Go.ChangeShapes
set_option linter.unusedSimpArgs false
set_option linter.unusedVariables false

/-- Small numbers that came in, in a row. -/
def RowN (w : World) (a : Option Addr) (l : List Nat) : Prop := l = [] ∨ ∃ b off, a = some ⟨b, off, none⟩ ∧ b < w.heap.size ∧ ∀ i, i < l.length → w.cell? ⟨b, off + i, none⟩ = some (.int .u8 (l.getD i 0 : Nat))
/-- Booleans that came in, in a row. -/
def RowL (w : World) (a : Option Addr) (l : List Bool) : Prop := l = [] ∨ ∃ b off, a = some ⟨b, off, none⟩ ∧ b < w.heap.size ∧ ∀ i, i < l.length → w.cell? ⟨b, off + i, none⟩ = some (.bool (l.getD i false))

theorem cells4 : Try.prog.cellsOf 4 = 1 := by kernel_rfl
section
variable {H : Type} {enc : TypeId × Value → H} {w : World} {fuel : Nat} {a : Option Addr} {len cap : Nat} {x : DataW H × List MemPlace}
theorem open_rowN (hf : DataW.trod enc Try.prog w 0 (fun _ => true) true fuel 112 (Value.cells (.slice a len cap)).toList = some x) : ∃ l : List Nat, l.length = len ∧ RowN w a l ∧ ∀ n ∈ l, n ≤ 255 := by
  rcases open_ints Try.underlying112 Try.underlying5 (by kernel_rfl) hf with ⟨hcs, _⟩ | ⟨y, l, c, zs, hcs, _, hl, hm, hz, _, hcell, hwz⟩
  · simp [Value.cells] at hcs
    obtain ⟨rfl, rfl, rfl⟩ := hcs
    exact ⟨[], rfl, .inl rfl, fun _ h => by cases h⟩
  · simp [Value.cells] at hcs
    obtain ⟨rfl, rfl, rfl⟩ := hcs
    have hz' : zs.length = cap := by simpa using hz
    refine ⟨(zs.take len).map Int.toNat, by simp; omega, ?_, fun n hn => ?_⟩
    · cases len with
      | zero => exact .inl (by simp)
      | succ n =>
        have h0 := hcell 0 (by omega)
        obtain ⟨b, off, s⟩ := y
        obtain rfl : s = none := bare_of_cell h0
        refine .inr ⟨b, off, rfl, ?_, fun i hi => ?_⟩
        · rw [add_bare] at h0; exact lt_of_cell h0
        · simp at hi
          have h1 := hcell i (by omega)
          rw [add_bare] at h1
          rw [h1]
          have hi' : i < n + 1 := by omega
          have hi2 : i < zs.length := by omega
          have hb := bounds_u8 (hwz zs[i] (List.getElem_mem hi2))
          simp [List.getD, hi', hi2]
          omega
    · rw [List.mem_map] at hn
      obtain ⟨z, hz1, rfl⟩ := hn
      have hb := bounds_u8 (hwz z (List.mem_of_mem_take hz1))
      omega
theorem open_rowL (hf : DataW.trod enc Try.prog w 0 (fun _ => true) true fuel 113 (Value.cells (.slice a len cap)).toList = some x) : ∃ l : List Bool, l.length = len ∧ RowL w a l := by
  rcases open_slice Try.underlying113 hf with ⟨hcs, _⟩ | ⟨y, l, c, m, n, D, Pl, hcs, _, hl, hm, hz, _, hcell⟩
  · simp [Value.cells] at hcs
    obtain ⟨rfl, rfl, rfl⟩ := hcs
    exact ⟨[], rfl, .inl rfl⟩
  · simp [Value.cells] at hcs
    obtain ⟨rfl, rfl, rfl⟩ := hcs
    have each : ∀ i, i < len → ∃ z : Bool, w.cell? (y.add i) = some (.bool z) := by
      intro i hi
      obtain ⟨cs, h1, h2⟩ := hcell i (by have : m = cap := by simpa using hz
                                         omega)
      rw [cells4] at h1
      obtain ⟨_, hlen, hget⟩ := World.cells?_some h1
      obtain ⟨z, rfl, _⟩ := DataW.trod_bool Try.underlying4 h2
      have g0 := hget 0 (by omega)
      simp only [Nat.mul_one, List.getElem?_cons_zero] at g0
      rw [show (y.add i).add 0 = y.add i from rfl] at g0
      exact ⟨z, g0⟩
    obtain ⟨V, hV⟩ := choose_lt each
    refine ⟨(List.range len).map V, by simp, ?_⟩
    cases len with
    | zero => exact .inl (by simp)
    | succ k =>
      have h0 := hV 0 (by omega)
      obtain ⟨b, off, s⟩ := y
      obtain rfl : s = none := bare_of_cell h0
      refine .inr ⟨b, off, rfl, ?_, fun i hi => ?_⟩
      · rw [add_bare] at h0; exact lt_of_cell h0
      · simp at hi
        have h1 := hV i (by omega)
        rw [add_bare] at h1
        rw [h1]
        simp [List.getD, hi]
end

/-- An access that reads word 0, or adds a small number to it. -/
def GoodA (A : Acc) : Prop := A.at_ = 0 ∧ (A.op = 3 ∨ A.op = 0) ∧ ∃ n : Nat, A.x = n ∧ n ≤ 255
/-- What lists of accesses add. -/
def addsA (l : List Acc) : Nat := (l.map fun A => if A.op = 3 then A.x.toNat else 0).sum
def addsB (ls : List (List Acc)) : Nat := (ls.map addsA).sum
def addsJ (J : Job) : Nat := (match J.cur with | none => 0 | some (l, _) => addsA l) + addsB J.box
/-- The accesses that are left. -/
def leftB (ls : List (List Acc)) : Nat := (ls.map List.length).sum
def leftJ (J : Job) : Nat := (match J.cur with | none => 0 | some (l, _) => l.length) + leftB J.box
def GoodJ (J : Job) : Prop := (∀ l ∈ J.box, l ≠ [] ∧ l.length ≤ 2 ∧ ∀ A ∈ l, GoodA A) ∧ ∀ l t, J.cur = some (l, t) → l ≠ [] ∧ t.length + l.length ≤ 2 ∧ ∀ A ∈ l, GoodA A

theorem one_word (v : Nat) (A : Acc) (hA : GoodA A) (hv : v ≤ 1000000) : okB [⟨[v], 1⟩] 0 1 A.op A.at_ = true ∧ doL [⟨[v], 1⟩] (Int.toNat 0) A.at_.toNat A.op A.x A.y = [⟨[((v + (if A.op = 3 then A.x.toNat else 0) : Nat) : Int)], 1⟩] := by
  obtain ⟨h1, h2, n, h3, h4⟩ := hA
  refine ⟨?_, ?_⟩
  · rcases h2 with h | h <;> simp [okB, goodB, sizeOf, h1, h]
  · rcases h2 with h | h
    · have e : IntKind.u64.wrap ((v : Int) + n) = (v : Int) + n := by
        simp [IntKind.wrap, IntKind.bits, IntKind.signed]
        omega
      simp [doL, h1, h, nextW, h3, e]
    · simp [doL, h1, h, nextW]

section
variable {F : Nat → Prop} {w : World} {lo hi wp mp bp c cap cnt v : Nat} {J : Job}
/-- A pick of a worker that adds to one word. -/
theorem pick2 (h : Wk F w wp mp bp c cap J) (hm : Mem lo hi w mp [⟨[(v : Int)], 1⟩] cnt) (hg : GoodJ J) (hv : v ≤ 1000000) (hcnt : cnt < 1000000000)
    (hF : ∀ b, w.heap.size ≤ b → F b) (hFw : ∀ b, F b → b ≠ wp ∧ b ≠ c) (hFd : ∀ b, F b → ¬ (lo ≤ b ∧ b < hi)) (hwp : ¬ (lo ≤ wp ∧ wp < hi)) (hbp : ¬ (lo ≤ bp ∧ bp < hi)) (hcc : ¬ (lo ≤ c ∧ c < hi)) :
    Calls Try.prog 54 #[.pointer (some ⟨wp, 0, none⟩), .agg #[.int .i64 0, .int .u64 1]] w fun e w' => ∃ (r : Value) (J' : Job) (v' cnt' : Nat), e = .returned r ∧ Wk F w' wp mp bp c cap J' ∧ Mem lo hi w' mp [⟨[(v' : Int)], 1⟩] cnt' ∧ GoodJ J' ∧
      v' + addsJ J' = v + addsJ J ∧ cnt' + leftJ J' = cnt + leftJ J ∧ leftJ J' ≤ leftJ J - 1 ∧ Sep (fun k => (lo ≤ k ∧ k < hi) ∨ k = wp ∨ k = c) w w' := by
  have go : ∀ (B : List (List Acc)) (A : Acc) (l : List Acc) (told : List Int), (J = ⟨B, some (A :: l, told)⟩ ∨ (J = ⟨(A :: l) :: B, none⟩ ∧ told = [])) → (∀ l ∈ B, l ≠ [] ∧ l.length ≤ 2 ∧ ∀ A ∈ l, GoodA A) → told.length + (A :: l).length ≤ 2 → (∀ A' ∈ A :: l, GoodA A') →
      addsJ J = addsA (A :: l) + addsB B → leftJ J = (A :: l).length + leftB B →
      Calls Try.prog 54 #[.pointer (some ⟨wp, 0, none⟩), .agg #[.int .i64 0, .int .u64 1]] w fun e w' => ∃ (r : Value) (J' : Job) (v' cnt' : Nat), e = .returned r ∧ Wk F w' wp mp bp c cap J' ∧ Mem lo hi w' mp [⟨[(v' : Int)], 1⟩] cnt' ∧ GoodJ J' ∧
        v' + addsJ J' = v + addsJ J ∧ cnt' + leftJ J' = cnt + leftJ J ∧ leftJ J' ≤ leftJ J - 1 ∧ Sep (fun k => (lo ≤ k ∧ k < hi) ∨ k = wp ∨ k = c) w w' := by
    intro B A l told hJ hB hl hA ha hr
    obtain ⟨hok, hdo⟩ := one_word v A (hA A (by simp)) hv
    simp only [List.length_cons] at hl
    refine (pick_go h hJ hm 0 1 hcnt (by omega) (by omega) hF hFw hFd hwp hbp hcc).mono ?_
    rintro e w' ⟨hs, ⟨hx, _⟩ | ⟨_, hm', ⟨rfl, ra, rc, rfl, _, hw⟩ | ⟨hl0, rfl, hw⟩⟩⟩
    · rw [hok] at hx; cases hx
    · rw [hdo] at hm'
      refine ⟨_, _, _, _, rfl, hw, hm', ⟨hB, fun l t h => by cases h⟩, ?_, ?_, ?_, hs⟩
      · rw [ha]; simp [addsJ, addsA]; omega
      · rw [hr]; simp [leftJ]; omega
      · rw [hr]; simp [leftJ]
    · rw [hdo] at hm'
      refine ⟨_, _, _, _, rfl, hw, hm', ⟨hB, fun l' t h => ?_⟩, ?_, ?_, ?_, hs⟩
      · simp at h
        obtain ⟨rfl, rfl⟩ := h
        exact ⟨hl0, by simp; omega, fun A' h' => hA A' (by simp [h'])⟩
      · rw [ha]; simp [addsJ, addsA]; omega
      · rw [hr]; simp [leftJ]; omega
      · rw [hr]; simp [leftJ]
  obtain ⟨B, cur⟩ := J
  cases cur with
  | some lt =>
    obtain ⟨l, told⟩ := lt
    obtain ⟨g1, g2⟩ := hg
    obtain ⟨k1, k2, k3⟩ := g2 l told rfl
    cases l with
    | nil => exact absurd rfl k1
    | cons A l => exact go B A l told (.inl rfl) g1 k2 k3 rfl rfl
  | none =>
    obtain ⟨g1, g2⟩ := hg
    cases B with
    | nil =>
      refine (pick_idle h 0 1).mono ?_
      rintro e w' ⟨rfl, hs⟩
      exact ⟨_, _, v, cnt, rfl, h.same hs, hm.same hs, ⟨g1, g2⟩, rfl, rfl, by simp [leftJ, leftB], Same.sep hs _⟩
    | cons l B =>
      obtain ⟨k1, k2, k3⟩ := g1 l (by simp)
      cases l with
      | nil => exact absurd rfl k1
      | cons A l => exact go B A l [] (.inr ⟨rfl, rfl⟩) (fun l hl => g1 l (by simp [hl])) (by simpa using k2) k3 (by simp [addsJ, addsB]) (by simp [leftJ, leftB])
end
end Go.Proofs.Ytiljledgoflogaa
