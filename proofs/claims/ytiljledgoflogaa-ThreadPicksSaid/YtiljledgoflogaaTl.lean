/- The walk of ThreadTwo. -/
import Derived.Test.YtiljledgoflogaaTk
namespace Go.Proofs.Ytiljledgoflogaa
open Go.RowKit
set_option linter.unusedSimpArgs false
set_option linter.unusedVariables false

/-- One memory of one word, two workers. -/
structure St2 (lo hi mid hq mp xp xb xc yp yb yc : Nat) (w0 w : World) (v cnt : Nat) (Jx Jy : Job) : Prop where
  wx : Wk (FF lo hq) w xp mp xb xc 20 Jx
  wy : Wk (FF lo hq) w yp mp yb yc 20 Jy
  mem : Mem lo hi w mp [⟨[(v : Int)], 1⟩] cnt
  inn : In lo hq w0 w
  le : hq ≤ w.heap.size
  ar : w0.heap.size ≤ lo ∧ lo < hi ∧ hi ≤ xp ∧ xp < mid ∧ hi ≤ xb ∧ xb < mid ∧ hi ≤ xc ∧ xc < mid ∧ mid ≤ yp ∧ yp < hq ∧ mid ≤ yb ∧ yb < hq ∧ mid ≤ yc ∧ yc < hq

section
variable {lo hi mid hq mp xp xb xc yp yb yc : Nat} {w0 w w' : World} {v cnt : Nat} {Jx Jy : Job}
theorem St2.same (h : St2 lo hi mid hq mp xp xb xc yp yb yc w0 w v cnt Jx Jy) (hs : Same w w') : St2 lo hi mid hq mp xp xb xc yp yb yc w0 w' v cnt Jx Jy :=
  ⟨h.wx.same hs, h.wy.same hs, h.mem.same hs, h.inn.trans (Same.sep hs _), Nat.le_trans h.le hs.size, h.ar⟩
theorem St2.givex (h : St2 lo hi mid hq mp xp xb xc yp yb yc w0 w v cnt Jx Jy) {a0 : Option Addr} {n0 c0 : Nat} {l : List Acc} (hv : ArgF (FF lo hq) w (.slice a0 n0 c0) l) (hr : Jx.box.length < 20) : Calls Try.prog 52 #[.pointer (some ⟨xp, 0, none⟩), .slice a0 n0 c0] w fun e w' => e = .returned (.int .i64 0) ∧ St2 lo hi mid hq mp xp xb xc yp yb yc w0 w' v cnt ⟨Jx.box ++ [l], Jx.cur⟩ Jy := by
  have ar := h.ar
  refine (give_room h.wx hv (by omega) hr).mono ?_
  rintro e w' ⟨rfl, h1, h2⟩
  exact ⟨rfl, h1, h.wy.stay h2 (fun b _ _ => by omega) (by omega) (by omega) (by omega), h.mem.stay h2 (fun b _ _ _ => by omega), h.inn.trans (h2.mono fun _ _ _ => by omega), Nat.le_trans h.le h2.size, ar⟩
theorem St2.givey (h : St2 lo hi mid hq mp xp xb xc yp yb yc w0 w v cnt Jx Jy) {a0 : Option Addr} {n0 c0 : Nat} {l : List Acc} (hv : ArgF (FF lo hq) w (.slice a0 n0 c0) l) (hr : Jy.box.length < 20) : Calls Try.prog 52 #[.pointer (some ⟨yp, 0, none⟩), .slice a0 n0 c0] w fun e w' => e = .returned (.int .i64 0) ∧ St2 lo hi mid hq mp xp xb xc yp yb yc w0 w' v cnt Jx ⟨Jy.box ++ [l], Jy.cur⟩ := by
  have ar := h.ar
  refine (give_room h.wy hv (by omega) hr).mono ?_
  rintro e w' ⟨rfl, h1, h2⟩
  exact ⟨rfl, h.wx.stay h2 (fun b _ _ => by omega) (by omega) (by omega) (by omega), h1, h.mem.stay h2 (fun b _ _ _ => by omega), h.inn.trans (h2.mono fun _ _ _ => by omega), Nat.le_trans h.le h2.size, ar⟩
theorem St2.pickx (h : St2 lo hi mid hq mp xp xb xc yp yb yc w0 w v cnt Jx Jy) (hg : GoodJ Jx) (hv : v ≤ 1000000) (hc : cnt < 1000000000) : Calls Try.prog 54 #[.pointer (some ⟨xp, 0, none⟩), .agg #[.int .i64 0, .int .u64 1]] w fun e w' => ∃ (r : Value) (J' : Job) (v' cnt' : Nat), e = .returned r ∧ St2 lo hi mid hq mp xp xb xc yp yb yc w0 w' v' cnt' J' Jy ∧
    GoodJ J' ∧ v' + addsJ J' = v + addsJ Jx ∧ cnt' + leftJ J' = cnt + leftJ Jx ∧ leftJ J' ≤ leftJ Jx - 1 := by
  have ar := h.ar
  have le := h.le
  refine (pick2 h.wx h.mem hg hv hc (fun b hb => by omega) (fun b hb => by omega) (fun b hb => by omega) (by omega) (by omega) (by omega)).mono ?_
  rintro e w' ⟨r, J', v', cnt', rfl, h1, h2, h3, h4, h5, h6, h7⟩
  exact ⟨r, J', v', cnt', rfl, ⟨h1, h.wy.stay h7 (fun b _ _ => by omega) (by omega) (by omega) (by omega), h2, h.inn.trans (h7.mono fun _ _ _ => by omega), Nat.le_trans h.le h7.size, ar⟩, h3, h4, h5, h6⟩
theorem St2.picky (h : St2 lo hi mid hq mp xp xb xc yp yb yc w0 w v cnt Jx Jy) (hg : GoodJ Jy) (hv : v ≤ 1000000) (hc : cnt < 1000000000) : Calls Try.prog 54 #[.pointer (some ⟨yp, 0, none⟩), .agg #[.int .i64 0, .int .u64 1]] w fun e w' => ∃ (r : Value) (J' : Job) (v' cnt' : Nat), e = .returned r ∧ St2 lo hi mid hq mp xp xb xc yp yb yc w0 w' v' cnt' Jx J' ∧
    GoodJ J' ∧ v' + addsJ J' = v + addsJ Jy ∧ cnt' + leftJ J' = cnt + leftJ Jy ∧ leftJ J' ≤ leftJ Jy - 1 := by
  have ar := h.ar
  have le := h.le
  refine (pick2 h.wy h.mem hg hv hc (fun b hb => by omega) (fun b hb => by omega) (fun b hb => by omega) (by omega) (by omega) (by omega)).mono ?_
  rintro e w' ⟨r, J', v', cnt', rfl, h1, h2, h3, h4, h5, h6, h7⟩
  exact ⟨r, J', v', cnt', rfl, ⟨h.wx.stay h7 (fun b _ _ => by omega) (by omega) (by omega) (by omega), h1, h2, h.inn.trans (h7.mono fun _ _ _ => by omega), Nat.le_trans h.le h7.size, ar⟩, h3, h4, h5, h6⟩
end

abbrev lx (n : Nat) : List Acc := [⟨3, 0, n, 0⟩, ⟨0, 0, 0, 0⟩]
abbrev ly (n : Nat) : List Acc := [⟨3, 0, n, 0⟩]
theorem lx_new {F : Nat → Prop} (w : World) (n : Nat) (hF : F w.heap.size) : ArgF F (w.alloc (.cells #[.int .i64 3, .int .i64 0, .int .u64 n, .int .u64 0, .int .i64 0, .int .i64 0, .int .u64 0, .int .u64 0] 25)) (.slice (some ⟨w.heap.size, 0, none⟩) 2 2) (lx n) := by
  refine .inl ⟨rfl, .inr ⟨w.heap.size, 0, 2, rfl, hF, by simp, Nat.le_refl _, by decide, fun j u hj => ?_⟩⟩
  rw [cell_of_heap (heap_alloc_new _ _), Nat.zero_add]
  rw [← hj]
  simp [accs, accCells]
theorem ly_new {F : Nat → Prop} (w : World) (n : Nat) (hF : F w.heap.size) : ArgF F (w.alloc (.cells #[.int .i64 3, .int .i64 0, .int .u64 n, .int .u64 0] 25)) (.slice (some ⟨w.heap.size, 0, none⟩) 1 1) (ly n) := by
  refine .inl ⟨rfl, .inr ⟨w.heap.size, 0, 1, rfl, hF, by simp, Nat.le_refl _, by decide, fun j u hj => ?_⟩⟩
  rw [cell_of_heap (heap_alloc_new _ _), Nat.zero_add]
  rw [← hj]
  simp [accs, accCells]
theorem GoodJ.give {J : Job} {l : List Acc} (h : GoodJ J) (hl : l ≠ []) (h2 : l.length ≤ 2) (hA : ∀ A ∈ l, GoodA A) : GoodJ ⟨J.box ++ [l], J.cur⟩ := by
  refine ⟨fun k hk => ?_, h.2⟩
  simp at hk
  rcases hk with hk | rfl
  · exact h.1 k hk
  · exact ⟨hl, h2, hA⟩
theorem adds_give (J : Job) (l : List Acc) : addsJ ⟨J.box ++ [l], J.cur⟩ = addsJ J + addsA l := by
  simp [addsJ, addsB]; omega
theorem left_give (J : Job) (l : List Acc) : leftJ ⟨J.box ++ [l], J.cur⟩ = leftJ J + l.length := by
  simp [leftJ, leftB]; omega
theorem good_lx (n : Nat) (h : n ≤ 255) : ∀ A ∈ lx n, GoodA A := by
  intro A hA
  simp at hA
  rcases hA with rfl | rfl
  · exact ⟨rfl, .inl rfl, n, rfl, h⟩
  · exact ⟨rfl, .inr rfl, 0, rfl, by omega⟩
theorem good_ly (n : Nat) (h : n ≤ 255) : ∀ A ∈ ly n, GoodA A := by
  intro A hA
  simp at hA
  subst hA
  exact ⟨rfl, .inl rfl, n, rfl, h⟩
theorem GoodJ.done {J : Job} (h : GoodJ J) (h0 : leftJ J = 0) : J = ⟨[], none⟩ := by
  obtain ⟨B, cur⟩ := J
  obtain ⟨h1, h2⟩ := h
  simp [leftJ] at h0
  obtain ⟨ha, hb⟩ := h0
  cases B with
  | cons l B =>
    have := h1 l (by simp)
    simp [leftB] at hb
    exact absurd hb.1 this.1
  | nil =>
    cases cur with
    | none => rfl
    | some lt =>
      have := h2 lt.1 lt.2 rfl
      simp at ha
      exact absurd ha this.1
end Go.Proofs.Ytiljledgoflogaa
