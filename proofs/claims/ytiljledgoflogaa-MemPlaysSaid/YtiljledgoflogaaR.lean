/- The reference's Same at equal lists; what a list of accesses does, told part by part. -/
import Derived.Test.YtiljledgoflogaaQ
namespace Go.Proofs.Ytiljledgoflogaa
open Go.RowKit
set_option linter.unusedSimpArgs false
set_option linter.unusedVariables false

theorem SlcU.get {F : Nat → Prop} {w : World} {a : Option Addr} {n c : Nat} {l : List Int} (h : SlcU F w (.slice a n c) l) (hl : n = l.length) (j : Nat) (hj : j < n) : ∃ b off, a = some ⟨b, off, none⟩ ∧ b < w.heap.size ∧ w.cell? ⟨b, off + j, none⟩ = some (.int .u64 (l.getD j 0)) := by
  obtain ⟨_, ⟨h1, h2⟩ | ⟨b, off, cap, h1, _, hlt, _, _, hc⟩⟩ := h
  · omega
  · obtain ⟨rfl, _⟩ : a = some ⟨b, off, none⟩ ∧ _ := by
      simp only [Value.slice.injEq] at h1
      exact h1
    exact ⟨b, off, rfl, hlt, hc j _ (by simp [wds, ← hl, hj, List.getD])⟩

set_option maxRecDepth 100000 in
theorem same_yes {F G : Nat → Prop} {w : World} {u v : Value} {l : List Int} (hu : SlcU F w u l) (hv : SlcU G w v l) (hl : l.length ≤ 1000000) : Calls Try.prog 47 #[u, v] w fun e w' => e = .returned (.bool true) ∧ Same w w' := by
  obtain ⟨ua, uc, rfl⟩ := hu.form
  obtain ⟨va, vc, rfl⟩ := hv.form
  obtain ⟨n, hn⟩ : ∃ n, n = l.length := ⟨_, rfl⟩
  rw [← hn] at hu hv hl ⊢
  have HU := Lib.hid hu
  have HV := Lib.hid hv
  have HN := Lib.hid hn
  clear hu hv hn
  go_enter Try.func47, Try.ntmps47
  go_wp2
  go_loopw [5] (fun i wr => ∃ j : Nat, j ≤ n ∧ i = .int .i64 j ∧ Same w wr) (fun i _ => n - (intOf i).toNat)
  case atStart => exact ⟨0, by omega, rfl, Sep.refl _ _⟩
  case round =>
    obtain ⟨j, hj, rfl, hs⟩ := hrel
    by_cases hlt : j < n
    · obtain ⟨b, off, rfl, hb, hc⟩ := HU.out.get HN.out j hlt
      obtain ⟨b', off', rfl, hb', hc'⟩ := HV.out.get HN.out j hlt
      have g := Same.cell hs hc
      have g' := Same.cell hs hc'
      obtain ⟨z, hz⟩ : ∃ z, z = l.getD j 0 := ⟨_, rfl⟩
      rw [← hz] at g g'
      have hj0 : (0 : Int) ≤ (j : Int) := Int.natCast_nonneg _
      have hj1 : (j : Int) < (n : Int) := by omega
      clear hc hc' hz
      go_wp2
      go_quiet (fail)
      go_wp2
      go_roundw
      case rel => exact ⟨j + 1, by omega, by go_num, by first | exact hs | exact hs.trans (Sep.drewN _ _ _) | exact hs.trans (Sep.drew _ _)⟩
      case measure => simp [intOf]; omega
    · go_wp2
      go_ret
      exact ⟨rfl, hs⟩

theorem runs_big {ci ce : Int} {L : List Reg} {l : List Acc} {m k : Nat} (hm : l.length ≤ m) (hk : l.length ≤ k) : runs ci ce L l m = runs ci ce L l k := by
  induction l generalizing L m k with
  | nil => rw [runs_nil, runs_nil]
  | cons A l ih =>
    obtain ⟨m, rfl⟩ : ∃ m', m = m' + 1 := ⟨m - 1, by simp at hm; omega⟩
    obtain ⟨k, rfl⟩ : ∃ k', k = k' + 1 := ⟨k - 1, by simp at hk; omega⟩
    simp at hm hk
    cases h : okB L ci ce A.op A.at_ with
    | false => rw [runs_no h, runs_no h]
    | true => rw [runs_yes h, runs_yes h, ih hm hk]
theorem runs_len {ci ce : Int} {L : List Reg} {l : List Acc} {m : Nat} : (runs ci ce L l m).2.1.length + (runs ci ce L l m).2.2.length = l.length ∧ (runs ci ce L l m).2.1.length ≤ m := by
  induction l generalizing L m with
  | nil => rw [runs_nil]; exact ⟨rfl, Nat.zero_le _⟩
  | cons A l ih =>
    cases m with
    | zero => rw [runs_zero]; simp
    | succ m =>
      cases h : okB L ci ce A.op A.at_ with
      | false => rw [runs_no h]; simp
      | true =>
        rw [runs_yes h]
        have := @ih (doL L ci.toNat A.at_.toNat A.op A.x A.y) m
        simp only [List.length_cons]
        omega
/-- One region, at epoch 1. -/
def OneUp (L : List Reg) : Prop := L.length = 1 ∧ (L.getD 0 default).ep = 1
theorem OneUp.doL {L : List Reg} (h : OneUp L) (i j : Nat) (op x y : Int) : OneUp (doL L i j op x y) := by
  obtain ⟨X, rfl⟩ : ∃ X, L = [X] := by
    obtain ⟨h1, _⟩ := h
    match L, h1 with
    | [X], _ => exact ⟨X, rfl⟩
  cases i with
  | zero => exact h
  | succ i => exact h
theorem OneUp.cap {L : List Reg} (h : OneUp L) : capOf L 0 = .agg #[.int .i64 0, .int .u64 1] := by
  have := capOf_at (L := L) (i := 0) (by rw [h.1]; decide)
  rw [h.2] at this
  exact this
end Go.Proofs.Ytiljledgoflogaa
