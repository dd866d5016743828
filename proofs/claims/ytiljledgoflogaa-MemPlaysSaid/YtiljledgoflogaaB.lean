/- Contracts of the functions of package mem that only read: region, Size, Cap, Good, Peek, Count, Regions. -/
import Derived.Test.YtiljledgoflogaaA
namespace Go.Proofs.Ytiljledgoflogaa
open Go.RowKit

section
variable {lo hi p cnt : Nat} {w : World} {L : List Reg}

theorem region_no (h : Mem lo hi w p L cnt) (i : Int) (hi : i < 0 ∨ (L.length : Int) ≤ i) : Calls Try.prog 59 #[.pointer (some ⟨p, 0, none⟩), .int .i64 i] w fun e w' => e = .returned (.pointer none) ∧ w = w' := by
  obtain ⟨av, cap, h0, _, _⟩ := h.head
  clear h
  by_cases hz : i < 0
  · clear hi
    go_enter Try.func59, Try.ntmps59
    go_wp2
    go_ret
    exact ⟨rfl, rfl⟩
  · have hl : (L.length : Int) ≤ i := by omega
    clear hi
    go_enter Try.func59, Try.ntmps59
    go_wp2
    go_ret
    exact ⟨rfl, rfl⟩

theorem region_at {i ab cap r : Nat} (z : Int) (hz : z = i) (hi : i < L.length) (h0 : w.cell? ⟨p, 0, none⟩ = some (.slice (some ⟨ab, 0, none⟩) L.length cap)) (h1 : w.cell? ⟨ab, i, none⟩ = some (.pointer (some ⟨r, 0, none⟩))) :
    Calls Try.prog 59 #[.pointer (some ⟨p, 0, none⟩), .int .i64 z] w fun e w' => e = .returned (.pointer (some ⟨r, 0, none⟩)) ∧ w = w' := by
  subst hz
  go_enter Try.func59, Try.ntmps59
  go_wp2
  go_ret
  exact ⟨rfl, rfl⟩

/-- How many words a region has; none: 0. -/
def sizeOf (L : List Reg) (i : Int) : Nat := if 0 ≤ i ∧ i < L.length then (L.getD i.toNat default).ws.length else 0
theorem sizeOf_no {i : Int} (hi : i < 0 ∨ (L.length : Int) ≤ i) : sizeOf L i = 0 := if_neg (by omega)
theorem sizeOf_at {i : Nat} (hi : i < L.length) : sizeOf L i = (L.getD i default).ws.length := by
  unfold sizeOf
  rw [if_pos (by omega)]
  rfl

theorem size_any (h : Mem lo hi w p L cnt) (i : Int) : Calls Try.prog 60 #[.pointer (some ⟨p, 0, none⟩), .int .i64 i] w fun e w' => e = .returned (.int .i64 (sizeOf L i)) ∧ w = w' := by
  by_cases hi : i < 0 ∨ (L.length : Int) ≤ i
  · rw [sizeOf_no hi]
    go_enter Try.func60, Try.ntmps60
    go_wp2_with fail
    refine (region_no h i hi).mono ?_
    rintro e w' ⟨rfl, rfl⟩
    go_wp2
    go_ret
    exact ⟨rfl, rfl⟩
  · obtain ⟨k, rfl⟩ : ∃ k : Nat, i = k := ⟨i.toNat, by omega⟩
    have hk : k < L.length := by omega
    clear hi
    obtain ⟨ab, cap, r, d, X, A⟩ := h.at hk
    rw [sizeOf_at hk, A.is]
    have h2 := A.words
    go_enter Try.func60, Try.ntmps60
    go_wp2_with fail
    refine (region_at k rfl hk A.head A.ptr).mono ?_
    rintro e w' ⟨rfl, rfl⟩
    go_wp2
    go_ret
    exact ⟨rfl, rfl⟩

/-- The capability that is told. -/
def capOf (L : List Reg) (i : Int) : Value := if 0 ≤ i ∧ i < L.length then .agg #[.int .i64 i, .int .u64 (L.getD i.toNat default).ep] else .agg #[.int .i64 0, .int .u64 0]
theorem capOf_no {i : Int} (hi : i < 0 ∨ (L.length : Int) ≤ i) : capOf L i = .agg #[.int .i64 0, .int .u64 0] := if_neg (by omega)
theorem capOf_at {i : Nat} (hi : i < L.length) : capOf L i = .agg #[.int .i64 i, .int .u64 (L.getD i default).ep] := by
  unfold capOf
  rw [if_pos (by omega)]
  rfl

theorem cap_any (h : Mem lo hi w p L cnt) (i : Int) : Calls Try.prog 22 #[.pointer (some ⟨p, 0, none⟩), .int .i64 i] w fun e w' => e = .returned (capOf L i) ∧ Same w w' := by
  by_cases hi : i < 0 ∨ (L.length : Int) ≤ i
  · rw [capOf_no hi]
    go_enter Try.func22, Try.ntmps22
    go_wp2_with fail
    refine (region_no (h.same (Sep.alloc _ _ _)) i hi).mono ?_
    rintro e w' ⟨rfl, rfl⟩
    go_wp2
    exact bodyPost_ret (v := .agg #[.int .i64 0, .int .u64 0]) (by simp [results, Try.results22, go_sem]) rfl ⟨rfl, Sep.alloc _ _ _⟩
  · obtain ⟨k, rfl⟩ : ∃ k : Nat, i = k := ⟨i.toNat, by omega⟩
    have hk : k < L.length := by omega
    clear hi
    obtain ⟨ab, cap, r, d, X, A⟩ := (h.same (Sep.alloc _ w (.cells #[.int .i64 0, .int .u64 0] 33))).at hk
    rw [capOf_at hk, A.is]
    have h2 := A.epoch
    go_enter Try.func22, Try.ntmps22
    go_wp2_with fail
    refine (region_at k rfl hk A.head A.ptr).mono ?_
    rintro e w' ⟨rfl, rfl⟩
    go_wp2
    exact bodyPost_ret (v := .agg #[.int .i64 k, .int .u64 X.ep]) (by simp [results, Try.results22, go_sem]) rfl ⟨rfl, Sep.alloc _ _ _⟩

/-- Is a capability good? -/
def goodB (L : List Reg) (i e : Int) : Bool := decide (0 ≤ i ∧ i < L.length ∧ ((L.getD i.toNat default).ep : Int) = e)

theorem good_any (h : Mem lo hi w p L cnt) (i e : Int) : Calls Try.prog 26 #[.pointer (some ⟨p, 0, none⟩), .agg #[.int .i64 i, .int .u64 e]] w fun en w' => en = .returned (.bool (goodB L i e)) ∧ Same w w' := by
  by_cases hi : i < 0 ∨ (L.length : Int) ≤ i
  · rw [show goodB L i e = false from decide_eq_false (by omega)]
    go_enter Try.func26, Try.ntmps26
    go_wp2_with fail
    refine (region_no (h.same (Sep.alloc _ _ _)) i hi).mono ?_
    rintro e w' ⟨rfl, rfl⟩
    go_wp2
    go_quiet (fail)
    go_wp2
    go_ret
    exact ⟨rfl, (Sep.alloc _ _ _).trans (Sep.drewN _ _ _)⟩
  · obtain ⟨k, rfl⟩ : ∃ k : Nat, i = k := ⟨i.toNat, by omega⟩
    have hk : k < L.length := by omega
    clear hi
    obtain ⟨ab, cap, r, d, X, A⟩ := (h.same (Sep.alloc _ w (.cells #[.int .i64 k, .int .u64 e] 33))).at hk
    have hB : goodB L k e = decide ((X.ep : Int) = e) := by
      unfold goodB
      rw [← A.is]
      simp [hk]
    rw [hB]
    clear hB
    have h2 := A.epoch
    go_enter Try.func26, Try.ntmps26
    go_wp2_with fail
    refine (region_at k rfl hk A.head A.ptr).mono ?_
    rintro e w' ⟨rfl, rfl⟩
    go_wp2
    go_quiet (fail)
    go_wp2
    go_ret
    exact ⟨rfl, (Sep.alloc _ _ _).trans (Sep.drewN _ _ _)⟩

/-- A word as it is; 0 of none. -/
def peekOf (L : List Reg) (i at_ : Int) : Int := if 0 ≤ i ∧ i < L.length ∧ 0 ≤ at_ then ((L.getD i.toNat default).ws).getD at_.toNat 0 else 0

theorem peek_any (h : Mem lo hi w p L cnt) (i at_ : Int) : Calls Try.prog 24 #[.pointer (some ⟨p, 0, none⟩), .int .i64 i, .int .i64 at_] w fun e w' => e = .returned (.int .u64 (peekOf L i at_)) ∧ w = w' := by
  by_cases ha : at_ < 0
  · rw [show peekOf L i at_ = 0 from if_neg (by omega)]
    go_enter Try.func24, Try.ntmps24
    go_wp2
    go_ret
    exact ⟨rfl, rfl⟩
  · by_cases hs : (sizeOf L i : Int) ≤ at_
    · have hp : peekOf L i at_ = 0 := by
        unfold peekOf
        split
        · rename_i hc
          have hz : sizeOf L i = (L.getD i.toNat default).ws.length := if_pos (by omega)
          rw [hz] at hs
          simp only [List.getD]
          rw [List.getElem?_eq_none (by simp only [List.getD] at hs; omega)]
          rfl
        · rfl
      rw [hp]
      clear hp
      go_enter Try.func24, Try.ntmps24
      go_wp2_with fail
      refine (size_any h i).mono ?_
      rintro e w' ⟨rfl, rfl⟩
      go_wp2
      go_ret
      exact ⟨rfl, rfl⟩
    · have hi : 0 ≤ i ∧ i < L.length := by
        unfold sizeOf at hs
        split at hs <;> omega
      obtain ⟨k, rfl⟩ : ∃ k : Nat, i = k := ⟨i.toNat, by omega⟩
      obtain ⟨j, rfl⟩ : ∃ k : Nat, at_ = k := ⟨at_.toNat, by omega⟩
      have hk : k < L.length := by omega
      clear hi ha
      obtain ⟨ab, cap, r, d, X, A⟩ := h.at hk
      have hj : j < X.ws.length := by rw [sizeOf_at hk, A.is] at hs; omega
      have hp : peekOf L k j = X.ws.getD j 0 := by
        unfold peekOf
        rw [if_pos (by omega), ← A.is]
        rfl
      rw [hp]
      clear hp
      obtain ⟨x, hx⟩ : ∃ x, x = X.ws.getD j 0 := ⟨_, rfl⟩
      have h1 := A.head
      have h2 := A.ptr
      have h3 := A.words
      have h4 := A.word j hj
      rw [← hx] at h4 ⊢
      clear hx
      go_enter Try.func24, Try.ntmps24
      go_wp2_with fail
      refine (size_any h k).mono ?_
      rintro e w' ⟨rfl, rfl⟩
      go_wp2
      go_ret
      exact ⟨rfl, rfl⟩

theorem count_any (h : Mem lo hi w p L cnt) : Calls Try.prog 27 #[.pointer (some ⟨p, 0, none⟩)] w fun e w' => e = .returned (.int .i64 cnt) ∧ w = w' := by
  obtain ⟨av, cap, _, h1, _⟩ := h.head
  go_enter Try.func27, Try.ntmps27
  go_wp2
  go_ret
  exact ⟨rfl, rfl⟩

theorem regions_any (h : Mem lo hi w p L cnt) : Calls Try.prog 62 #[.pointer (some ⟨p, 0, none⟩)] w fun e w' => e = .returned (.int .i64 L.length) ∧ w = w' := by
  obtain ⟨av, cap, h0, _, _⟩ := h.head
  go_enter Try.func62, Try.ntmps62
  go_wp2
  go_ret
  exact ⟨rfl, rfl⟩
end
end Go.Proofs.Ytiljledgoflogaa
