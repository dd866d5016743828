/- Contract of Do of package mem, where the access is done. -/
import Derived.Test.YtiljledgoflogaaC
namespace Go.Proofs.Ytiljledgoflogaa
open Go.RowKit
set_option linter.unusedSimpArgs false

/-- What a word becomes. -/
def nextW (op was x y : Int) : Int := if op = 1 then x else if op = 2 then (if was = x then y else was) else if op = 3 then IntKind.u64.wrap (was + x) else was
/-- The regions behind an access. -/
def doL (L : List Reg) (i j : Nat) (op x y : Int) : List Reg := L.set i ⟨(L.getD i default).ws.set j (nextW op ((L.getD i default).ws.getD j 0) x y), (L.getD i default).ep⟩

theorem set_self {α : Type} [Inhabited α] (L : List α) (i : Nat) (x : α) (h : i < L.length) (hx : L.getD i default = x) : L.set i x = L := by
  apply List.ext_getElem?
  intro k
  rw [List.getElem?_set]
  split
  · subst_vars
    simp [h]
  · rfl
theorem doL_same {L : List Reg} {i j : Nat} {op x y : Int} {X : Reg} (hL : i < L.length) (hX : L.getD i default = X) (hn : nextW op (X.ws.getD j 0) x y = X.ws.getD j 0) : doL L i j op x y = L := by
  unfold doL
  rw [hX, hn]
  clear hn
  have h2 : X.ws.set j (X.ws.getD j 0) = X.ws := by
    apply List.ext_getElem?
    intro k
    rw [List.getElem?_set]
    split
    · subst_vars
      split
      · rename_i hk
        rw [List.getElem?_eq_getElem hk, List.getD, List.getElem?_eq_getElem hk]
        rfl
      · rename_i hk; rw [List.getElem?_eq_none (by omega)]
    · rfl
  rw [h2]
  exact set_self L i X hL hX

section
variable {lo hi p cnt : Nat} {w : World} {L : List Reg}
set_option maxRecDepth 100000 in
set_option maxHeartbeats 2000000 in
theorem do_load (h : Mem lo hi w p L cnt) (i j : Nat) (ce op x y : Int) (hL : i < L.length) (X : Reg) (hX : L.getD i default = X) (hj : j < X.ws.length) (hc : cnt < 1000000000) (hg : goodB L i ce = true) (h2 : decide ((j : Int) < 0) = false) (h3 : decide (sizeOf L i ≤ j) = false) (h4 : decide (op < 0) = false) (h5 : decide (3 < op) = false) (ho : op = 0) : Calls Try.prog 23 #[.pointer (some ⟨p, 0, none⟩), .agg #[.int .i64 i, .int .u64 ce], .agg #[.int .i64 op, .int .i64 j, .int .u64 x, .int .u64 y]] w fun e w' =>
    e = .returned (.tuple #[.int .u64 (X.ws.getD j 0), .bool true]) ∧ Mem lo hi w' p (doL L i j op x y) (cnt + 1) ∧ In lo hi w w' := by
  subst ho
  obtain ⟨W, hW, hS0⟩ := start_do h i ce 0 j x y
  have hle := h.le
  clear h h4 h5
  have HW := Lib.hid hW
  have HX := Lib.hid hX
  have HD : Hid (doL L i j 0 x y = L.set i ⟨X.ws.set j (nextW 0 (X.ws.getD j 0) x y), X.ep⟩) := by unfold doL Hid; rw [hX]
  clear hW hX
  obtain ⟨was, hwas⟩ : ∃ was, X.ws.getD j 0 = was := ⟨_, rfl⟩
  rw [hwas]
  have HWAS := Lib.hid hwas
  clear hwas
  go_enter Try.func23, Try.ntmps23
  go_wp2_with fail
  rw [← HW.out]
  refine wp_region_held_drew (S := (fun v => v.cell? ⟨w.heap.size, 0, none⟩ = some (.int .i64 i) ∧ v.cell? ⟨w.heap.size, 1, none⟩ = some (.int .u64 ce) ∧ v.cell? ⟨w.heap.size + 1, 0, none⟩ = some (.int .i64 0) ∧ v.cell? ⟨w.heap.size + 1, 1, none⟩ = some (.int .i64 j) ∧ v.cell? ⟨w.heap.size + 1, 2, none⟩ = some (.int .u64 x) ∧ v.cell? ⟨w.heap.size + 1, 3, none⟩ = some (.int .u64 y) ∧ Mem lo hi v p L cnt ∧ Same w v)) (by kernel_rfl) ?_ (fun hHeld => ?_)
  · exact keep_do hS0 (Sep.drew _ _)
  change wpAnyH _ _ _ _ _ 28 _ _ _
  refine wpAnyH_take (i := 0) (oi := ⟨some 10, _, _, _, _, _⟩) (v := ?v0) rfl (by kernel_rfl) (by kernel_rfl) (by kernel_rfl) (fun _ _ _ h => h) (Or.inl ⟨by kernel_rfl, ?h0⟩) hHeld ?_
  case h0 => intro w hSw; (try dsimp only at hSw); go_simp; try with_reducible rfl
  try simp only [Act.put, List.setIfInBounds_toArray, List.set_cons_zero, List.set_cons_succ]
  refine wpAnyH_take (i := 1) (oi := ⟨some 11, _, _, _, _, _⟩) (v := ?v1) rfl (by kernel_rfl) (by kernel_rfl) (by kernel_rfl) (fun _ _ _ h => h) (Or.inl ⟨by kernel_rfl, ?h1⟩) hHeld ?_
  case h1 => intro w hSw; (try dsimp only at hSw); go_simp; try with_reducible rfl
  try simp only [Act.put, List.setIfInBounds_toArray, List.set_cons_zero, List.set_cons_succ]
  refine wpAnyH_ready (rs := [2]) (by kernel_rfl) (by simp) ?_
  refine AllReadyH.cons (o := ⟨some 12, _, _, _, _, _⟩) rfl (fun K hK => ?_) AllReadyH.nil
  rw [if_pos (by kernel_rfl)]
  go_simp
  refine (good_any hHeld.2.2.2.2.2.2.1 i ce).mono ?_
  rintro e w2 ⟨rfl, hs⟩
  rw [hg]
  refine hK.out _ _ ?_ (fun hHeld => ?_)
  · exact keep_do hHeld hs
  clear hK K
  try simp only [Act.put, List.setIfInBounds_toArray, List.set_cons_zero, List.set_cons_succ]
  refine wpAnyH_take (i := 3) (oi := ⟨some 13, _, _, _, _, _⟩) (v := ?v3) rfl (by kernel_rfl) (by kernel_rfl) (by kernel_rfl) (fun _ _ _ h => h) (Or.inl ⟨by kernel_rfl, ?h3⟩) hHeld ?_
  case h3 => intro w hSw; (try dsimp only at hSw); go_simp; try with_reducible rfl
  try simp only [Act.put, List.setIfInBounds_toArray, List.set_cons_zero, List.set_cons_succ]
  refine wpAnyH_take (i := 4) (oi := ⟨some 14, _, _, _, _, _⟩) (v := ?v4) rfl (by kernel_rfl) (by kernel_rfl) (by kernel_rfl) (fun _ _ _ h => h) (Or.inl ⟨by kernel_rfl, ?h4⟩) hHeld ?_
  case h4 => intro w hSw; (try dsimp only at hSw); go_simp; try with_reducible rfl
  try simp only [Act.put, List.setIfInBounds_toArray, List.set_cons_zero, List.set_cons_succ]
  refine wpAnyH_take (i := 5) (oi := ⟨some 15, _, _, _, _, _⟩) (v := ?v5) rfl (by kernel_rfl) (by kernel_rfl) (by kernel_rfl) (fun _ _ _ h => h) (Or.inl ⟨by kernel_rfl, ?h5⟩) hHeld ?_
  case h5 => intro w hSw; (try dsimp only at hSw); go_simp; try with_reducible rfl
  try simp only [Act.put, List.setIfInBounds_toArray, List.set_cons_zero, List.set_cons_succ]
  refine wpAnyH_take (i := 6) (oi := ⟨some 16, _, _, _, _, _⟩) (v := ?v6) rfl (by kernel_rfl) (by kernel_rfl) (by kernel_rfl) (fun _ _ _ h => h) (Or.inl ⟨by kernel_rfl, ?h6⟩) hHeld ?_
  case h6 => intro w hSw; (try dsimp only at hSw); go_simp; try with_reducible rfl
  try simp only [Act.put, List.setIfInBounds_toArray, List.set_cons_zero, List.set_cons_succ]
  refine wpAnyH_take (i := 7) (oi := ⟨some 17, _, _, _, _, _⟩) (v := ?v7) rfl (by kernel_rfl) (by kernel_rfl) (by kernel_rfl) (fun _ _ _ h => h) (Or.inl ⟨by kernel_rfl, ?h7⟩) hHeld ?_
  case h7 => intro w hSw; (try dsimp only at hSw); go_simp; try with_reducible rfl
  try simp only [Act.put, List.setIfInBounds_toArray, List.set_cons_zero, List.set_cons_succ]
  refine wpAnyH_take (i := 8) (oi := ⟨some 18, _, _, _, _, _⟩) (v := ?v8) rfl (by kernel_rfl) (by kernel_rfl) (by kernel_rfl) (fun _ _ _ h => h) (Or.inl ⟨by kernel_rfl, ?h8⟩) hHeld ?_
  case h8 => intro w hSw; (try dsimp only at hSw); go_simp; try with_reducible rfl
  try simp only [Act.put, List.setIfInBounds_toArray, List.set_cons_zero, List.set_cons_succ]
  refine wpAnyH_take (i := 9) (oi := ⟨some 19, _, _, _, _, _⟩) (v := ?v9) rfl (by kernel_rfl) (by kernel_rfl) (by kernel_rfl) (fun _ _ _ h => h) (Or.inl ⟨by kernel_rfl, ?h9⟩) hHeld ?_
  case h9 => intro w hSw; (try dsimp only at hSw); go_simp; try with_reducible rfl
  try simp only [Act.put, List.setIfInBounds_toArray, List.set_cons_zero, List.set_cons_succ]
  refine wpAnyH_take (i := 10) (oi := ⟨some 20, _, _, _, _, _⟩) (v := ?v10) rfl (by kernel_rfl) (by kernel_rfl) (by kernel_rfl) (fun _ _ _ h => h) (Or.inl ⟨by kernel_rfl, ?h10⟩) hHeld ?_
  case h10 => intro w hSw; (try dsimp only at hSw); go_simp; try with_reducible rfl
  try simp only [Act.put, List.setIfInBounds_toArray, List.set_cons_zero, List.set_cons_succ]
  refine wpAnyH_take (i := 11) (oi := ⟨some 21, _, _, _, _, _⟩) (v := ?v11) rfl (by kernel_rfl) (by kernel_rfl) (by kernel_rfl) (fun _ _ _ h => h) (Or.inl ⟨by kernel_rfl, ?h11⟩) hHeld ?_
  case h11 => intro w hSw; (try dsimp only at hSw); go_simp; try with_reducible rfl
  try simp only [Act.put, List.setIfInBounds_toArray, List.set_cons_zero, List.set_cons_succ]
  refine wpAnyH_take (i := 12) (oi := ⟨some 22, _, _, _, _, _⟩) (v := ?v12) rfl (by kernel_rfl) (by kernel_rfl) (by kernel_rfl) (fun _ _ _ h => h) (Or.inl ⟨by kernel_rfl, ?h12⟩) hHeld ?_
  case h12 => intro w hSw; (try dsimp only at hSw); go_simp; try with_reducible rfl
  try simp only [Act.put, List.setIfInBounds_toArray, List.set_cons_zero, List.set_cons_succ]
  refine wpAnyH_take (i := 13) (oi := ⟨some 23, _, _, _, _, _⟩) (v := ?v13) rfl (by kernel_rfl) (by kernel_rfl) (by kernel_rfl) (fun _ _ _ h => h) (Or.inl ⟨by kernel_rfl, ?h13⟩) hHeld ?_
  case h13 => intro w hSw; (try dsimp only at hSw); go_simp; try with_reducible rfl
  try simp only [Act.put, List.setIfInBounds_toArray, List.set_cons_zero, List.set_cons_succ]
  refine wpAnyH_take (i := 14) (oi := ⟨some 24, _, _, _, _, _⟩) (v := ?v14) rfl (by kernel_rfl) (by kernel_rfl) (by kernel_rfl) (fun _ _ _ h => h) (Or.inl ⟨by kernel_rfl, ?h14⟩) hHeld ?_
  case h14 => intro w hSw; (try dsimp only at hSw); go_simp; try with_reducible rfl
  try simp only [Act.put, List.setIfInBounds_toArray, List.set_cons_zero, List.set_cons_succ]
  refine wpAnyH_ready (rs := [15]) (by kernel_rfl) (by simp) ?_
  refine AllReadyH.cons (o := ⟨some 25, _, _, _, _, _⟩) rfl (fun K hK => ?_) AllReadyH.nil
  rw [if_pos (by kernel_rfl)]
  go_simp
  refine (size_any hHeld.2.2.2.2.2.2.1 i).mono ?_
  rintro e w2 ⟨rfl, rfl⟩
  refine hK.out _ _ ?_ (fun hHeld => ?_)
  · exact hHeld
  clear hK K
  try simp only [Act.put, List.setIfInBounds_toArray, List.set_cons_zero, List.set_cons_succ]
  refine wpAnyH_take (i := 16) (oi := ⟨some 26, _, _, _, _, _⟩) (v := ?v16) rfl (by kernel_rfl) (by kernel_rfl) (by kernel_rfl) (fun _ _ _ h => h) (Or.inl ⟨by kernel_rfl, ?h16⟩) hHeld ?_
  case h16 => intro w hSw; (try dsimp only at hSw); go_simp; try with_reducible rfl
  try simp only [Act.put, List.setIfInBounds_toArray, List.set_cons_zero, List.set_cons_succ]
  refine wpAnyH_take (i := 17) (oi := ⟨some 27, _, _, _, _, _⟩) (v := ?v17) rfl (by kernel_rfl) (by kernel_rfl) (by kernel_rfl) (fun _ _ _ h => h) (Or.inl ⟨by kernel_rfl, ?h17⟩) hHeld ?_
  case h17 => intro w hSw; (try dsimp only at hSw); go_simp; try with_reducible rfl
  try simp only [Act.put, List.setIfInBounds_toArray, List.set_cons_zero, List.set_cons_succ]
  refine wpAnyH_take (i := 18) (oi := ⟨some 28, _, _, _, _, _⟩) (v := ?v18) rfl (by kernel_rfl) (by kernel_rfl) (by kernel_rfl) (fun _ _ _ h => h) (Or.inl ⟨by kernel_rfl, ?h18⟩) hHeld ?_
  case h18 => intro w hSw; (try dsimp only at hSw); go_simp; try with_reducible rfl
  try simp only [Act.put, List.setIfInBounds_toArray, List.set_cons_zero, List.set_cons_succ]
  refine wpAnyH_take (i := 19) (oi := ⟨some 29, _, _, _, _, _⟩) (v := ?v19) rfl (by kernel_rfl) (by kernel_rfl) (by kernel_rfl) (fun _ _ _ h => h) (Or.inl ⟨by kernel_rfl, ?h19⟩) hHeld ?_
  case h19 => intro w hSw; (try dsimp only at hSw); go_simp; try with_reducible rfl
  try simp only [Act.put, List.setIfInBounds_toArray, List.set_cons_zero, List.set_cons_succ]
  refine wpAnyH_take (i := 20) (oi := ⟨some 30, _, _, _, _, _⟩) (v := ?v20) rfl (by kernel_rfl) (by kernel_rfl) (by kernel_rfl) (fun _ _ _ h => h) (Or.inl ⟨by kernel_rfl, ?h20⟩) hHeld ?_
  case h20 => intro w hSw; (try dsimp only at hSw); go_simp; try with_reducible rfl
  try simp only [Act.put, List.setIfInBounds_toArray, List.set_cons_zero, List.set_cons_succ]
  refine wpAnyH_take (i := 21) (oi := ⟨some 31, _, _, _, _, _⟩) (v := ?v21) rfl (by kernel_rfl) (by kernel_rfl) (by kernel_rfl) (fun _ _ _ h => h) (Or.inl ⟨by kernel_rfl, ?h21⟩) hHeld ?_
  case h21 => intro w hSw; (try dsimp only at hSw); go_simp; try with_reducible rfl
  try simp only [Act.put, List.setIfInBounds_toArray, List.set_cons_zero, List.set_cons_succ]
  refine wpAnyH_take (i := 22) (oi := ⟨some 32, _, _, _, _, _⟩) (v := ?v22) rfl (by kernel_rfl) (by kernel_rfl) (by kernel_rfl) (fun _ _ _ h => h) (Or.inl ⟨by kernel_rfl, ?h22⟩) hHeld ?_
  case h22 => intro w hSw; (try dsimp only at hSw); go_simp; try with_reducible rfl
  try simp only [Act.put, List.setIfInBounds_toArray, List.set_cons_zero, List.set_cons_succ]
  refine wpAnyH_take (i := 23) (oi := ⟨some 33, _, _, _, _, _⟩) (v := ?v23) rfl (by kernel_rfl) (by kernel_rfl) (by kernel_rfl) (fun _ _ _ h => h) (Or.inl ⟨by kernel_rfl, ?h23⟩) hHeld ?_
  case h23 => intro w hSw; (try dsimp only at hSw); go_simp; try with_reducible rfl
  try simp only [Act.put, List.setIfInBounds_toArray, List.set_cons_zero, List.set_cons_succ]
  refine wpAnyH_take (i := 24) (oi := ⟨some 34, _, _, _, _, _⟩) (v := ?v24) rfl (by kernel_rfl) (by kernel_rfl) (by kernel_rfl) (fun _ _ _ h => h) (Or.inl ⟨by kernel_rfl, ?h24⟩) hHeld ?_
  case h24 => intro w hSw; (try dsimp only at hSw); go_simp; try with_reducible rfl
  try simp only [Act.put, List.setIfInBounds_toArray, List.set_cons_zero, List.set_cons_succ]
  refine wpAnyH_take (i := 25) (oi := ⟨some 35, _, _, _, _, _⟩) (v := ?v25) rfl (by kernel_rfl) (by kernel_rfl) (by kernel_rfl) (fun _ _ _ h => h) (Or.inl ⟨by kernel_rfl, ?h25⟩) hHeld ?_
  case h25 => intro w hSw; (try dsimp only at hSw); go_simp; try with_reducible rfl
  try simp only [Act.put, List.setIfInBounds_toArray, List.set_cons_zero, List.set_cons_succ]
  refine wpAnyH_take (i := 26) (oi := ⟨some 36, _, _, _, _, _⟩) (v := ?v26) rfl (by kernel_rfl) (by kernel_rfl) (by kernel_rfl) (fun _ _ _ h => h) (Or.inl ⟨by kernel_rfl, ?h26⟩) hHeld ?_
  case h26 => intro w hSw; (try dsimp only at hSw); go_simp; try with_reducible rfl
  try simp only [Act.put, List.setIfInBounds_toArray, List.set_cons_zero, List.set_cons_succ]
  refine wpAnyH_take (i := 27) (oi := ⟨some 37, _, _, _, _, _⟩) (v := ?v27) rfl (by kernel_rfl) (by kernel_rfl) (by kernel_rfl) (fun _ _ _ h => h) (Or.inl ⟨by kernel_rfl, ?h27⟩) hHeld ?_
  case h27 => intro w hSw; (try dsimp only at hSw); go_simp; try with_reducible rfl
  try simp only [Act.put, List.setIfInBounds_toArray, List.set_cons_zero, List.set_cons_succ]
  refine wpAnyH_done (by kernel_rfl) ?_ _
  obtain ⟨e1, e2, e3, e4, e5, e6, hM, hsame⟩ := id hHeld
  clear hHeld
  obtain ⟨_, _, -, b1, b2⟩ := hM.head
  obtain ⟨ab, cap, av, R, D, hMD⟩ := id hM
  have A := hMD.at hL HX.out
  have a1 := A.head
  have a2 := A.ptr
  have a3 := A.words
  have a4 := A.word j hj
  rw [HWAS.out] at a4
  have a5 := A.freeD j
  have apd := A.pd
  have ain := A.inD
  have alo := hM.lop
  clear A
  clear hS0 hM
  have hi0 : (0 : Int) ≤ (i : Int) := Int.natCast_nonneg _
  have hi1 : (i : Int) < (L.length : Int) := by omega
  have hj0 : (0 : Int) ≤ (j : Int) := Int.natCast_nonneg _
  have hj1 : (j : Int) < (X.ws.length : Int) := by omega
  go_wp2_with fail
  go_region
  go_wp2
  go_ret2
  refine ⟨rfl, ?_, ?_⟩
  · rw [doL_same hL HX.out (by rfl)]
    exact (Mem.count ⟨_, _, _, _, _, hMD⟩).same (Sep.drew _ _)
  · exact ((hsame.sep _).trans (Sep.drew _ w2)).thenSet (.inl alo) _
set_option maxRecDepth 100000 in
set_option maxHeartbeats 2000000 in
theorem do_store (h : Mem lo hi w p L cnt) (i j : Nat) (ce op x y : Int) (hL : i < L.length) (X : Reg) (hX : L.getD i default = X) (hj : j < X.ws.length) (hc : cnt < 1000000000) (hg : goodB L i ce = true) (h2 : decide ((j : Int) < 0) = false) (h3 : decide (sizeOf L i ≤ j) = false) (h4 : decide (op < 0) = false) (h5 : decide (3 < op) = false) (ho : op = 1) : Calls Try.prog 23 #[.pointer (some ⟨p, 0, none⟩), .agg #[.int .i64 i, .int .u64 ce], .agg #[.int .i64 op, .int .i64 j, .int .u64 x, .int .u64 y]] w fun e w' =>
    e = .returned (.tuple #[.int .u64 (X.ws.getD j 0), .bool true]) ∧ Mem lo hi w' p (doL L i j op x y) (cnt + 1) ∧ In lo hi w w' := by
  subst ho
  obtain ⟨W, hW, hS0⟩ := start_do h i ce 1 j x y
  have hle := h.le
  clear h h4 h5
  have HW := Lib.hid hW
  have HX := Lib.hid hX
  have HD : Hid (doL L i j 1 x y = L.set i ⟨X.ws.set j (nextW 1 (X.ws.getD j 0) x y), X.ep⟩) := by unfold doL Hid; rw [hX]
  clear hW hX
  obtain ⟨was, hwas⟩ : ∃ was, X.ws.getD j 0 = was := ⟨_, rfl⟩
  rw [hwas]
  have HWAS := Lib.hid hwas
  clear hwas
  go_enter Try.func23, Try.ntmps23
  go_wp2_with fail
  rw [← HW.out]
  refine wp_region_held_drew (S := (fun v => v.cell? ⟨w.heap.size, 0, none⟩ = some (.int .i64 i) ∧ v.cell? ⟨w.heap.size, 1, none⟩ = some (.int .u64 ce) ∧ v.cell? ⟨w.heap.size + 1, 0, none⟩ = some (.int .i64 1) ∧ v.cell? ⟨w.heap.size + 1, 1, none⟩ = some (.int .i64 j) ∧ v.cell? ⟨w.heap.size + 1, 2, none⟩ = some (.int .u64 x) ∧ v.cell? ⟨w.heap.size + 1, 3, none⟩ = some (.int .u64 y) ∧ Mem lo hi v p L cnt ∧ Same w v)) (by kernel_rfl) ?_ (fun hHeld => ?_)
  · exact keep_do hS0 (Sep.drew _ _)
  change wpAnyH _ _ _ _ _ 28 _ _ _
  refine wpAnyH_take (i := 0) (oi := ⟨some 10, _, _, _, _, _⟩) (v := ?v0) rfl (by kernel_rfl) (by kernel_rfl) (by kernel_rfl) (fun _ _ _ h => h) (Or.inl ⟨by kernel_rfl, ?h0⟩) hHeld ?_
  case h0 => intro w hSw; (try dsimp only at hSw); go_simp; try with_reducible rfl
  try simp only [Act.put, List.setIfInBounds_toArray, List.set_cons_zero, List.set_cons_succ]
  refine wpAnyH_take (i := 1) (oi := ⟨some 11, _, _, _, _, _⟩) (v := ?v1) rfl (by kernel_rfl) (by kernel_rfl) (by kernel_rfl) (fun _ _ _ h => h) (Or.inl ⟨by kernel_rfl, ?h1⟩) hHeld ?_
  case h1 => intro w hSw; (try dsimp only at hSw); go_simp; try with_reducible rfl
  try simp only [Act.put, List.setIfInBounds_toArray, List.set_cons_zero, List.set_cons_succ]
  refine wpAnyH_ready (rs := [2]) (by kernel_rfl) (by simp) ?_
  refine AllReadyH.cons (o := ⟨some 12, _, _, _, _, _⟩) rfl (fun K hK => ?_) AllReadyH.nil
  rw [if_pos (by kernel_rfl)]
  go_simp
  refine (good_any hHeld.2.2.2.2.2.2.1 i ce).mono ?_
  rintro e w2 ⟨rfl, hs⟩
  rw [hg]
  refine hK.out _ _ ?_ (fun hHeld => ?_)
  · exact keep_do hHeld hs
  clear hK K
  try simp only [Act.put, List.setIfInBounds_toArray, List.set_cons_zero, List.set_cons_succ]
  refine wpAnyH_take (i := 3) (oi := ⟨some 13, _, _, _, _, _⟩) (v := ?v3) rfl (by kernel_rfl) (by kernel_rfl) (by kernel_rfl) (fun _ _ _ h => h) (Or.inl ⟨by kernel_rfl, ?h3⟩) hHeld ?_
  case h3 => intro w hSw; (try dsimp only at hSw); go_simp; try with_reducible rfl
  try simp only [Act.put, List.setIfInBounds_toArray, List.set_cons_zero, List.set_cons_succ]
  refine wpAnyH_take (i := 4) (oi := ⟨some 14, _, _, _, _, _⟩) (v := ?v4) rfl (by kernel_rfl) (by kernel_rfl) (by kernel_rfl) (fun _ _ _ h => h) (Or.inl ⟨by kernel_rfl, ?h4⟩) hHeld ?_
  case h4 => intro w hSw; (try dsimp only at hSw); go_simp; try with_reducible rfl
  try simp only [Act.put, List.setIfInBounds_toArray, List.set_cons_zero, List.set_cons_succ]
  refine wpAnyH_take (i := 5) (oi := ⟨some 15, _, _, _, _, _⟩) (v := ?v5) rfl (by kernel_rfl) (by kernel_rfl) (by kernel_rfl) (fun _ _ _ h => h) (Or.inl ⟨by kernel_rfl, ?h5⟩) hHeld ?_
  case h5 => intro w hSw; (try dsimp only at hSw); go_simp; try with_reducible rfl
  try simp only [Act.put, List.setIfInBounds_toArray, List.set_cons_zero, List.set_cons_succ]
  refine wpAnyH_take (i := 6) (oi := ⟨some 16, _, _, _, _, _⟩) (v := ?v6) rfl (by kernel_rfl) (by kernel_rfl) (by kernel_rfl) (fun _ _ _ h => h) (Or.inl ⟨by kernel_rfl, ?h6⟩) hHeld ?_
  case h6 => intro w hSw; (try dsimp only at hSw); go_simp; try with_reducible rfl
  try simp only [Act.put, List.setIfInBounds_toArray, List.set_cons_zero, List.set_cons_succ]
  refine wpAnyH_take (i := 7) (oi := ⟨some 17, _, _, _, _, _⟩) (v := ?v7) rfl (by kernel_rfl) (by kernel_rfl) (by kernel_rfl) (fun _ _ _ h => h) (Or.inl ⟨by kernel_rfl, ?h7⟩) hHeld ?_
  case h7 => intro w hSw; (try dsimp only at hSw); go_simp; try with_reducible rfl
  try simp only [Act.put, List.setIfInBounds_toArray, List.set_cons_zero, List.set_cons_succ]
  refine wpAnyH_take (i := 8) (oi := ⟨some 18, _, _, _, _, _⟩) (v := ?v8) rfl (by kernel_rfl) (by kernel_rfl) (by kernel_rfl) (fun _ _ _ h => h) (Or.inl ⟨by kernel_rfl, ?h8⟩) hHeld ?_
  case h8 => intro w hSw; (try dsimp only at hSw); go_simp; try with_reducible rfl
  try simp only [Act.put, List.setIfInBounds_toArray, List.set_cons_zero, List.set_cons_succ]
  refine wpAnyH_take (i := 9) (oi := ⟨some 19, _, _, _, _, _⟩) (v := ?v9) rfl (by kernel_rfl) (by kernel_rfl) (by kernel_rfl) (fun _ _ _ h => h) (Or.inl ⟨by kernel_rfl, ?h9⟩) hHeld ?_
  case h9 => intro w hSw; (try dsimp only at hSw); go_simp; try with_reducible rfl
  try simp only [Act.put, List.setIfInBounds_toArray, List.set_cons_zero, List.set_cons_succ]
  refine wpAnyH_take (i := 10) (oi := ⟨some 20, _, _, _, _, _⟩) (v := ?v10) rfl (by kernel_rfl) (by kernel_rfl) (by kernel_rfl) (fun _ _ _ h => h) (Or.inl ⟨by kernel_rfl, ?h10⟩) hHeld ?_
  case h10 => intro w hSw; (try dsimp only at hSw); go_simp; try with_reducible rfl
  try simp only [Act.put, List.setIfInBounds_toArray, List.set_cons_zero, List.set_cons_succ]
  refine wpAnyH_take (i := 11) (oi := ⟨some 21, _, _, _, _, _⟩) (v := ?v11) rfl (by kernel_rfl) (by kernel_rfl) (by kernel_rfl) (fun _ _ _ h => h) (Or.inl ⟨by kernel_rfl, ?h11⟩) hHeld ?_
  case h11 => intro w hSw; (try dsimp only at hSw); go_simp; try with_reducible rfl
  try simp only [Act.put, List.setIfInBounds_toArray, List.set_cons_zero, List.set_cons_succ]
  refine wpAnyH_take (i := 12) (oi := ⟨some 22, _, _, _, _, _⟩) (v := ?v12) rfl (by kernel_rfl) (by kernel_rfl) (by kernel_rfl) (fun _ _ _ h => h) (Or.inl ⟨by kernel_rfl, ?h12⟩) hHeld ?_
  case h12 => intro w hSw; (try dsimp only at hSw); go_simp; try with_reducible rfl
  try simp only [Act.put, List.setIfInBounds_toArray, List.set_cons_zero, List.set_cons_succ]
  refine wpAnyH_take (i := 13) (oi := ⟨some 23, _, _, _, _, _⟩) (v := ?v13) rfl (by kernel_rfl) (by kernel_rfl) (by kernel_rfl) (fun _ _ _ h => h) (Or.inl ⟨by kernel_rfl, ?h13⟩) hHeld ?_
  case h13 => intro w hSw; (try dsimp only at hSw); go_simp; try with_reducible rfl
  try simp only [Act.put, List.setIfInBounds_toArray, List.set_cons_zero, List.set_cons_succ]
  refine wpAnyH_take (i := 14) (oi := ⟨some 24, _, _, _, _, _⟩) (v := ?v14) rfl (by kernel_rfl) (by kernel_rfl) (by kernel_rfl) (fun _ _ _ h => h) (Or.inl ⟨by kernel_rfl, ?h14⟩) hHeld ?_
  case h14 => intro w hSw; (try dsimp only at hSw); go_simp; try with_reducible rfl
  try simp only [Act.put, List.setIfInBounds_toArray, List.set_cons_zero, List.set_cons_succ]
  refine wpAnyH_ready (rs := [15]) (by kernel_rfl) (by simp) ?_
  refine AllReadyH.cons (o := ⟨some 25, _, _, _, _, _⟩) rfl (fun K hK => ?_) AllReadyH.nil
  rw [if_pos (by kernel_rfl)]
  go_simp
  refine (size_any hHeld.2.2.2.2.2.2.1 i).mono ?_
  rintro e w2 ⟨rfl, rfl⟩
  refine hK.out _ _ ?_ (fun hHeld => ?_)
  · exact hHeld
  clear hK K
  try simp only [Act.put, List.setIfInBounds_toArray, List.set_cons_zero, List.set_cons_succ]
  refine wpAnyH_take (i := 16) (oi := ⟨some 26, _, _, _, _, _⟩) (v := ?v16) rfl (by kernel_rfl) (by kernel_rfl) (by kernel_rfl) (fun _ _ _ h => h) (Or.inl ⟨by kernel_rfl, ?h16⟩) hHeld ?_
  case h16 => intro w hSw; (try dsimp only at hSw); go_simp; try with_reducible rfl
  try simp only [Act.put, List.setIfInBounds_toArray, List.set_cons_zero, List.set_cons_succ]
  refine wpAnyH_take (i := 17) (oi := ⟨some 27, _, _, _, _, _⟩) (v := ?v17) rfl (by kernel_rfl) (by kernel_rfl) (by kernel_rfl) (fun _ _ _ h => h) (Or.inl ⟨by kernel_rfl, ?h17⟩) hHeld ?_
  case h17 => intro w hSw; (try dsimp only at hSw); go_simp; try with_reducible rfl
  try simp only [Act.put, List.setIfInBounds_toArray, List.set_cons_zero, List.set_cons_succ]
  refine wpAnyH_take (i := 18) (oi := ⟨some 28, _, _, _, _, _⟩) (v := ?v18) rfl (by kernel_rfl) (by kernel_rfl) (by kernel_rfl) (fun _ _ _ h => h) (Or.inl ⟨by kernel_rfl, ?h18⟩) hHeld ?_
  case h18 => intro w hSw; (try dsimp only at hSw); go_simp; try with_reducible rfl
  try simp only [Act.put, List.setIfInBounds_toArray, List.set_cons_zero, List.set_cons_succ]
  refine wpAnyH_take (i := 19) (oi := ⟨some 29, _, _, _, _, _⟩) (v := ?v19) rfl (by kernel_rfl) (by kernel_rfl) (by kernel_rfl) (fun _ _ _ h => h) (Or.inl ⟨by kernel_rfl, ?h19⟩) hHeld ?_
  case h19 => intro w hSw; (try dsimp only at hSw); go_simp; try with_reducible rfl
  try simp only [Act.put, List.setIfInBounds_toArray, List.set_cons_zero, List.set_cons_succ]
  refine wpAnyH_take (i := 20) (oi := ⟨some 30, _, _, _, _, _⟩) (v := ?v20) rfl (by kernel_rfl) (by kernel_rfl) (by kernel_rfl) (fun _ _ _ h => h) (Or.inl ⟨by kernel_rfl, ?h20⟩) hHeld ?_
  case h20 => intro w hSw; (try dsimp only at hSw); go_simp; try with_reducible rfl
  try simp only [Act.put, List.setIfInBounds_toArray, List.set_cons_zero, List.set_cons_succ]
  refine wpAnyH_take (i := 21) (oi := ⟨some 31, _, _, _, _, _⟩) (v := ?v21) rfl (by kernel_rfl) (by kernel_rfl) (by kernel_rfl) (fun _ _ _ h => h) (Or.inl ⟨by kernel_rfl, ?h21⟩) hHeld ?_
  case h21 => intro w hSw; (try dsimp only at hSw); go_simp; try with_reducible rfl
  try simp only [Act.put, List.setIfInBounds_toArray, List.set_cons_zero, List.set_cons_succ]
  refine wpAnyH_take (i := 22) (oi := ⟨some 32, _, _, _, _, _⟩) (v := ?v22) rfl (by kernel_rfl) (by kernel_rfl) (by kernel_rfl) (fun _ _ _ h => h) (Or.inl ⟨by kernel_rfl, ?h22⟩) hHeld ?_
  case h22 => intro w hSw; (try dsimp only at hSw); go_simp; try with_reducible rfl
  try simp only [Act.put, List.setIfInBounds_toArray, List.set_cons_zero, List.set_cons_succ]
  refine wpAnyH_take (i := 23) (oi := ⟨some 33, _, _, _, _, _⟩) (v := ?v23) rfl (by kernel_rfl) (by kernel_rfl) (by kernel_rfl) (fun _ _ _ h => h) (Or.inl ⟨by kernel_rfl, ?h23⟩) hHeld ?_
  case h23 => intro w hSw; (try dsimp only at hSw); go_simp; try with_reducible rfl
  try simp only [Act.put, List.setIfInBounds_toArray, List.set_cons_zero, List.set_cons_succ]
  refine wpAnyH_take (i := 24) (oi := ⟨some 34, _, _, _, _, _⟩) (v := ?v24) rfl (by kernel_rfl) (by kernel_rfl) (by kernel_rfl) (fun _ _ _ h => h) (Or.inl ⟨by kernel_rfl, ?h24⟩) hHeld ?_
  case h24 => intro w hSw; (try dsimp only at hSw); go_simp; try with_reducible rfl
  try simp only [Act.put, List.setIfInBounds_toArray, List.set_cons_zero, List.set_cons_succ]
  refine wpAnyH_take (i := 25) (oi := ⟨some 35, _, _, _, _, _⟩) (v := ?v25) rfl (by kernel_rfl) (by kernel_rfl) (by kernel_rfl) (fun _ _ _ h => h) (Or.inl ⟨by kernel_rfl, ?h25⟩) hHeld ?_
  case h25 => intro w hSw; (try dsimp only at hSw); go_simp; try with_reducible rfl
  try simp only [Act.put, List.setIfInBounds_toArray, List.set_cons_zero, List.set_cons_succ]
  refine wpAnyH_take (i := 26) (oi := ⟨some 36, _, _, _, _, _⟩) (v := ?v26) rfl (by kernel_rfl) (by kernel_rfl) (by kernel_rfl) (fun _ _ _ h => h) (Or.inl ⟨by kernel_rfl, ?h26⟩) hHeld ?_
  case h26 => intro w hSw; (try dsimp only at hSw); go_simp; try with_reducible rfl
  try simp only [Act.put, List.setIfInBounds_toArray, List.set_cons_zero, List.set_cons_succ]
  refine wpAnyH_take (i := 27) (oi := ⟨some 37, _, _, _, _, _⟩) (v := ?v27) rfl (by kernel_rfl) (by kernel_rfl) (by kernel_rfl) (fun _ _ _ h => h) (Or.inl ⟨by kernel_rfl, ?h27⟩) hHeld ?_
  case h27 => intro w hSw; (try dsimp only at hSw); go_simp; try with_reducible rfl
  try simp only [Act.put, List.setIfInBounds_toArray, List.set_cons_zero, List.set_cons_succ]
  refine wpAnyH_done (by kernel_rfl) ?_ _
  obtain ⟨e1, e2, e3, e4, e5, e6, hM, hsame⟩ := id hHeld
  clear hHeld
  obtain ⟨_, _, -, b1, b2⟩ := hM.head
  obtain ⟨ab, cap, av, R, D, hMD⟩ := id hM
  have A := hMD.at hL HX.out
  have a1 := A.head
  have a2 := A.ptr
  have a3 := A.words
  have a4 := A.word j hj
  rw [HWAS.out] at a4
  have a5 := A.freeD j
  have apd := A.pd
  have ain := A.inD
  have alo := hM.lop
  clear A
  clear hS0 hM
  have hi0 : (0 : Int) ≤ (i : Int) := Int.natCast_nonneg _
  have hi1 : (i : Int) < (L.length : Int) := by omega
  have hj0 : (0 : Int) ≤ (j : Int) := Int.natCast_nonneg _
  have hj1 : (j : Int) < (X.ws.length : Int) := by omega
  go_wp2_with fail
  go_region
  go_wp2
  go_ret2
  refine ⟨rfl, ?_, ?_⟩
  · rw [HD.out, HWAS.out, show nextW 1 was x y = x from rfl]
    first
      | exact Mem.count (((hMD.same (Sep.drew _ w2)).at hL HX.out).setD j _)
      | exact (Mem.count ((hMD.at hL HX.out).setD j _)).same (Sep.drew _ _)
      | exact (Mem.count ((hMD.at hL HX.out).setD j _)).same ((Sep.drew _ _).trans (Sep.drew _ _))
  · first
      | exact (((hsame.sep _).trans (Sep.drew _ w2)).thenSet (.inl ain) _).thenSet (.inl alo) _
      | exact (((hsame.sep _).thenSet (.inl ain) _).thenSet (.inl alo) _).trans (Sep.drew _ _)
      | exact (((hsame.sep _).thenSet (.inl ain) _).thenSet (.inl alo) _).trans ((Sep.drew _ _).trans (Sep.drew _ _))
set_option maxRecDepth 100000 in
set_option maxHeartbeats 2000000 in
theorem do_swap (h : Mem lo hi w p L cnt) (i j : Nat) (ce op x y : Int) (hL : i < L.length) (X : Reg) (hX : L.getD i default = X) (hj : j < X.ws.length) (hc : cnt < 1000000000) (hg : goodB L i ce = true) (h2 : decide ((j : Int) < 0) = false) (h3 : decide (sizeOf L i ≤ j) = false) (h4 : decide (op < 0) = false) (h5 : decide (3 < op) = false) (ho : op = 2) (hwx : X.ws.getD j 0 = x) : Calls Try.prog 23 #[.pointer (some ⟨p, 0, none⟩), .agg #[.int .i64 i, .int .u64 ce], .agg #[.int .i64 op, .int .i64 j, .int .u64 x, .int .u64 y]] w fun e w' =>
    e = .returned (.tuple #[.int .u64 (X.ws.getD j 0), .bool true]) ∧ Mem lo hi w' p (doL L i j op x y) (cnt + 1) ∧ In lo hi w w' := by
  subst ho
  obtain ⟨W, hW, hS0⟩ := start_do h i ce 2 j x y
  have hle := h.le
  clear h h4 h5
  have HW := Lib.hid hW
  have HX := Lib.hid hX
  have HD : Hid (doL L i j 2 x y = L.set i ⟨X.ws.set j (nextW 2 (X.ws.getD j 0) x y), X.ep⟩) := by unfold doL Hid; rw [hX]
  clear hW hX
  obtain ⟨was, hwas⟩ : ∃ was, X.ws.getD j 0 = was := ⟨_, rfl⟩
  rw [hwas]
  have HWAS := Lib.hid hwas
  clear hwas
  go_enter Try.func23, Try.ntmps23
  go_wp2_with fail
  rw [← HW.out]
  refine wp_region_held_drew (S := (fun v => v.cell? ⟨w.heap.size, 0, none⟩ = some (.int .i64 i) ∧ v.cell? ⟨w.heap.size, 1, none⟩ = some (.int .u64 ce) ∧ v.cell? ⟨w.heap.size + 1, 0, none⟩ = some (.int .i64 2) ∧ v.cell? ⟨w.heap.size + 1, 1, none⟩ = some (.int .i64 j) ∧ v.cell? ⟨w.heap.size + 1, 2, none⟩ = some (.int .u64 x) ∧ v.cell? ⟨w.heap.size + 1, 3, none⟩ = some (.int .u64 y) ∧ Mem lo hi v p L cnt ∧ Same w v)) (by kernel_rfl) ?_ (fun hHeld => ?_)
  · exact keep_do hS0 (Sep.drew _ _)
  change wpAnyH _ _ _ _ _ 28 _ _ _
  refine wpAnyH_take (i := 0) (oi := ⟨some 10, _, _, _, _, _⟩) (v := ?v0) rfl (by kernel_rfl) (by kernel_rfl) (by kernel_rfl) (fun _ _ _ h => h) (Or.inl ⟨by kernel_rfl, ?h0⟩) hHeld ?_
  case h0 => intro w hSw; (try dsimp only at hSw); go_simp; try with_reducible rfl
  try simp only [Act.put, List.setIfInBounds_toArray, List.set_cons_zero, List.set_cons_succ]
  refine wpAnyH_take (i := 1) (oi := ⟨some 11, _, _, _, _, _⟩) (v := ?v1) rfl (by kernel_rfl) (by kernel_rfl) (by kernel_rfl) (fun _ _ _ h => h) (Or.inl ⟨by kernel_rfl, ?h1⟩) hHeld ?_
  case h1 => intro w hSw; (try dsimp only at hSw); go_simp; try with_reducible rfl
  try simp only [Act.put, List.setIfInBounds_toArray, List.set_cons_zero, List.set_cons_succ]
  refine wpAnyH_ready (rs := [2]) (by kernel_rfl) (by simp) ?_
  refine AllReadyH.cons (o := ⟨some 12, _, _, _, _, _⟩) rfl (fun K hK => ?_) AllReadyH.nil
  rw [if_pos (by kernel_rfl)]
  go_simp
  refine (good_any hHeld.2.2.2.2.2.2.1 i ce).mono ?_
  rintro e w2 ⟨rfl, hs⟩
  rw [hg]
  refine hK.out _ _ ?_ (fun hHeld => ?_)
  · exact keep_do hHeld hs
  clear hK K
  try simp only [Act.put, List.setIfInBounds_toArray, List.set_cons_zero, List.set_cons_succ]
  refine wpAnyH_take (i := 3) (oi := ⟨some 13, _, _, _, _, _⟩) (v := ?v3) rfl (by kernel_rfl) (by kernel_rfl) (by kernel_rfl) (fun _ _ _ h => h) (Or.inl ⟨by kernel_rfl, ?h3⟩) hHeld ?_
  case h3 => intro w hSw; (try dsimp only at hSw); go_simp; try with_reducible rfl
  try simp only [Act.put, List.setIfInBounds_toArray, List.set_cons_zero, List.set_cons_succ]
  refine wpAnyH_take (i := 4) (oi := ⟨some 14, _, _, _, _, _⟩) (v := ?v4) rfl (by kernel_rfl) (by kernel_rfl) (by kernel_rfl) (fun _ _ _ h => h) (Or.inl ⟨by kernel_rfl, ?h4⟩) hHeld ?_
  case h4 => intro w hSw; (try dsimp only at hSw); go_simp; try with_reducible rfl
  try simp only [Act.put, List.setIfInBounds_toArray, List.set_cons_zero, List.set_cons_succ]
  refine wpAnyH_take (i := 5) (oi := ⟨some 15, _, _, _, _, _⟩) (v := ?v5) rfl (by kernel_rfl) (by kernel_rfl) (by kernel_rfl) (fun _ _ _ h => h) (Or.inl ⟨by kernel_rfl, ?h5⟩) hHeld ?_
  case h5 => intro w hSw; (try dsimp only at hSw); go_simp; try with_reducible rfl
  try simp only [Act.put, List.setIfInBounds_toArray, List.set_cons_zero, List.set_cons_succ]
  refine wpAnyH_take (i := 6) (oi := ⟨some 16, _, _, _, _, _⟩) (v := ?v6) rfl (by kernel_rfl) (by kernel_rfl) (by kernel_rfl) (fun _ _ _ h => h) (Or.inl ⟨by kernel_rfl, ?h6⟩) hHeld ?_
  case h6 => intro w hSw; (try dsimp only at hSw); go_simp; try with_reducible rfl
  try simp only [Act.put, List.setIfInBounds_toArray, List.set_cons_zero, List.set_cons_succ]
  refine wpAnyH_take (i := 7) (oi := ⟨some 17, _, _, _, _, _⟩) (v := ?v7) rfl (by kernel_rfl) (by kernel_rfl) (by kernel_rfl) (fun _ _ _ h => h) (Or.inl ⟨by kernel_rfl, ?h7⟩) hHeld ?_
  case h7 => intro w hSw; (try dsimp only at hSw); go_simp; try with_reducible rfl
  try simp only [Act.put, List.setIfInBounds_toArray, List.set_cons_zero, List.set_cons_succ]
  refine wpAnyH_take (i := 8) (oi := ⟨some 18, _, _, _, _, _⟩) (v := ?v8) rfl (by kernel_rfl) (by kernel_rfl) (by kernel_rfl) (fun _ _ _ h => h) (Or.inl ⟨by kernel_rfl, ?h8⟩) hHeld ?_
  case h8 => intro w hSw; (try dsimp only at hSw); go_simp; try with_reducible rfl
  try simp only [Act.put, List.setIfInBounds_toArray, List.set_cons_zero, List.set_cons_succ]
  refine wpAnyH_take (i := 9) (oi := ⟨some 19, _, _, _, _, _⟩) (v := ?v9) rfl (by kernel_rfl) (by kernel_rfl) (by kernel_rfl) (fun _ _ _ h => h) (Or.inl ⟨by kernel_rfl, ?h9⟩) hHeld ?_
  case h9 => intro w hSw; (try dsimp only at hSw); go_simp; try with_reducible rfl
  try simp only [Act.put, List.setIfInBounds_toArray, List.set_cons_zero, List.set_cons_succ]
  refine wpAnyH_take (i := 10) (oi := ⟨some 20, _, _, _, _, _⟩) (v := ?v10) rfl (by kernel_rfl) (by kernel_rfl) (by kernel_rfl) (fun _ _ _ h => h) (Or.inl ⟨by kernel_rfl, ?h10⟩) hHeld ?_
  case h10 => intro w hSw; (try dsimp only at hSw); go_simp; try with_reducible rfl
  try simp only [Act.put, List.setIfInBounds_toArray, List.set_cons_zero, List.set_cons_succ]
  refine wpAnyH_take (i := 11) (oi := ⟨some 21, _, _, _, _, _⟩) (v := ?v11) rfl (by kernel_rfl) (by kernel_rfl) (by kernel_rfl) (fun _ _ _ h => h) (Or.inl ⟨by kernel_rfl, ?h11⟩) hHeld ?_
  case h11 => intro w hSw; (try dsimp only at hSw); go_simp; try with_reducible rfl
  try simp only [Act.put, List.setIfInBounds_toArray, List.set_cons_zero, List.set_cons_succ]
  refine wpAnyH_take (i := 12) (oi := ⟨some 22, _, _, _, _, _⟩) (v := ?v12) rfl (by kernel_rfl) (by kernel_rfl) (by kernel_rfl) (fun _ _ _ h => h) (Or.inl ⟨by kernel_rfl, ?h12⟩) hHeld ?_
  case h12 => intro w hSw; (try dsimp only at hSw); go_simp; try with_reducible rfl
  try simp only [Act.put, List.setIfInBounds_toArray, List.set_cons_zero, List.set_cons_succ]
  refine wpAnyH_take (i := 13) (oi := ⟨some 23, _, _, _, _, _⟩) (v := ?v13) rfl (by kernel_rfl) (by kernel_rfl) (by kernel_rfl) (fun _ _ _ h => h) (Or.inl ⟨by kernel_rfl, ?h13⟩) hHeld ?_
  case h13 => intro w hSw; (try dsimp only at hSw); go_simp; try with_reducible rfl
  try simp only [Act.put, List.setIfInBounds_toArray, List.set_cons_zero, List.set_cons_succ]
  refine wpAnyH_take (i := 14) (oi := ⟨some 24, _, _, _, _, _⟩) (v := ?v14) rfl (by kernel_rfl) (by kernel_rfl) (by kernel_rfl) (fun _ _ _ h => h) (Or.inl ⟨by kernel_rfl, ?h14⟩) hHeld ?_
  case h14 => intro w hSw; (try dsimp only at hSw); go_simp; try with_reducible rfl
  try simp only [Act.put, List.setIfInBounds_toArray, List.set_cons_zero, List.set_cons_succ]
  refine wpAnyH_ready (rs := [15]) (by kernel_rfl) (by simp) ?_
  refine AllReadyH.cons (o := ⟨some 25, _, _, _, _, _⟩) rfl (fun K hK => ?_) AllReadyH.nil
  rw [if_pos (by kernel_rfl)]
  go_simp
  refine (size_any hHeld.2.2.2.2.2.2.1 i).mono ?_
  rintro e w2 ⟨rfl, rfl⟩
  refine hK.out _ _ ?_ (fun hHeld => ?_)
  · exact hHeld
  clear hK K
  try simp only [Act.put, List.setIfInBounds_toArray, List.set_cons_zero, List.set_cons_succ]
  refine wpAnyH_take (i := 16) (oi := ⟨some 26, _, _, _, _, _⟩) (v := ?v16) rfl (by kernel_rfl) (by kernel_rfl) (by kernel_rfl) (fun _ _ _ h => h) (Or.inl ⟨by kernel_rfl, ?h16⟩) hHeld ?_
  case h16 => intro w hSw; (try dsimp only at hSw); go_simp; try with_reducible rfl
  try simp only [Act.put, List.setIfInBounds_toArray, List.set_cons_zero, List.set_cons_succ]
  refine wpAnyH_take (i := 17) (oi := ⟨some 27, _, _, _, _, _⟩) (v := ?v17) rfl (by kernel_rfl) (by kernel_rfl) (by kernel_rfl) (fun _ _ _ h => h) (Or.inl ⟨by kernel_rfl, ?h17⟩) hHeld ?_
  case h17 => intro w hSw; (try dsimp only at hSw); go_simp; try with_reducible rfl
  try simp only [Act.put, List.setIfInBounds_toArray, List.set_cons_zero, List.set_cons_succ]
  refine wpAnyH_take (i := 18) (oi := ⟨some 28, _, _, _, _, _⟩) (v := ?v18) rfl (by kernel_rfl) (by kernel_rfl) (by kernel_rfl) (fun _ _ _ h => h) (Or.inl ⟨by kernel_rfl, ?h18⟩) hHeld ?_
  case h18 => intro w hSw; (try dsimp only at hSw); go_simp; try with_reducible rfl
  try simp only [Act.put, List.setIfInBounds_toArray, List.set_cons_zero, List.set_cons_succ]
  refine wpAnyH_take (i := 19) (oi := ⟨some 29, _, _, _, _, _⟩) (v := ?v19) rfl (by kernel_rfl) (by kernel_rfl) (by kernel_rfl) (fun _ _ _ h => h) (Or.inl ⟨by kernel_rfl, ?h19⟩) hHeld ?_
  case h19 => intro w hSw; (try dsimp only at hSw); go_simp; try with_reducible rfl
  try simp only [Act.put, List.setIfInBounds_toArray, List.set_cons_zero, List.set_cons_succ]
  refine wpAnyH_take (i := 20) (oi := ⟨some 30, _, _, _, _, _⟩) (v := ?v20) rfl (by kernel_rfl) (by kernel_rfl) (by kernel_rfl) (fun _ _ _ h => h) (Or.inl ⟨by kernel_rfl, ?h20⟩) hHeld ?_
  case h20 => intro w hSw; (try dsimp only at hSw); go_simp; try with_reducible rfl
  try simp only [Act.put, List.setIfInBounds_toArray, List.set_cons_zero, List.set_cons_succ]
  refine wpAnyH_take (i := 21) (oi := ⟨some 31, _, _, _, _, _⟩) (v := ?v21) rfl (by kernel_rfl) (by kernel_rfl) (by kernel_rfl) (fun _ _ _ h => h) (Or.inl ⟨by kernel_rfl, ?h21⟩) hHeld ?_
  case h21 => intro w hSw; (try dsimp only at hSw); go_simp; try with_reducible rfl
  try simp only [Act.put, List.setIfInBounds_toArray, List.set_cons_zero, List.set_cons_succ]
  refine wpAnyH_take (i := 22) (oi := ⟨some 32, _, _, _, _, _⟩) (v := ?v22) rfl (by kernel_rfl) (by kernel_rfl) (by kernel_rfl) (fun _ _ _ h => h) (Or.inl ⟨by kernel_rfl, ?h22⟩) hHeld ?_
  case h22 => intro w hSw; (try dsimp only at hSw); go_simp; try with_reducible rfl
  try simp only [Act.put, List.setIfInBounds_toArray, List.set_cons_zero, List.set_cons_succ]
  refine wpAnyH_take (i := 23) (oi := ⟨some 33, _, _, _, _, _⟩) (v := ?v23) rfl (by kernel_rfl) (by kernel_rfl) (by kernel_rfl) (fun _ _ _ h => h) (Or.inl ⟨by kernel_rfl, ?h23⟩) hHeld ?_
  case h23 => intro w hSw; (try dsimp only at hSw); go_simp; try with_reducible rfl
  try simp only [Act.put, List.setIfInBounds_toArray, List.set_cons_zero, List.set_cons_succ]
  refine wpAnyH_take (i := 24) (oi := ⟨some 34, _, _, _, _, _⟩) (v := ?v24) rfl (by kernel_rfl) (by kernel_rfl) (by kernel_rfl) (fun _ _ _ h => h) (Or.inl ⟨by kernel_rfl, ?h24⟩) hHeld ?_
  case h24 => intro w hSw; (try dsimp only at hSw); go_simp; try with_reducible rfl
  try simp only [Act.put, List.setIfInBounds_toArray, List.set_cons_zero, List.set_cons_succ]
  refine wpAnyH_take (i := 25) (oi := ⟨some 35, _, _, _, _, _⟩) (v := ?v25) rfl (by kernel_rfl) (by kernel_rfl) (by kernel_rfl) (fun _ _ _ h => h) (Or.inl ⟨by kernel_rfl, ?h25⟩) hHeld ?_
  case h25 => intro w hSw; (try dsimp only at hSw); go_simp; try with_reducible rfl
  try simp only [Act.put, List.setIfInBounds_toArray, List.set_cons_zero, List.set_cons_succ]
  refine wpAnyH_take (i := 26) (oi := ⟨some 36, _, _, _, _, _⟩) (v := ?v26) rfl (by kernel_rfl) (by kernel_rfl) (by kernel_rfl) (fun _ _ _ h => h) (Or.inl ⟨by kernel_rfl, ?h26⟩) hHeld ?_
  case h26 => intro w hSw; (try dsimp only at hSw); go_simp; try with_reducible rfl
  try simp only [Act.put, List.setIfInBounds_toArray, List.set_cons_zero, List.set_cons_succ]
  refine wpAnyH_take (i := 27) (oi := ⟨some 37, _, _, _, _, _⟩) (v := ?v27) rfl (by kernel_rfl) (by kernel_rfl) (by kernel_rfl) (fun _ _ _ h => h) (Or.inl ⟨by kernel_rfl, ?h27⟩) hHeld ?_
  case h27 => intro w hSw; (try dsimp only at hSw); go_simp; try with_reducible rfl
  try simp only [Act.put, List.setIfInBounds_toArray, List.set_cons_zero, List.set_cons_succ]
  refine wpAnyH_done (by kernel_rfl) ?_ _
  obtain ⟨e1, e2, e3, e4, e5, e6, hM, hsame⟩ := id hHeld
  clear hHeld
  obtain ⟨_, _, -, b1, b2⟩ := hM.head
  obtain ⟨ab, cap, av, R, D, hMD⟩ := id hM
  have A := hMD.at hL HX.out
  have a1 := A.head
  have a2 := A.ptr
  have a3 := A.words
  have a4 := A.word j hj
  rw [HWAS.out] at a4
  have a5 := A.freeD j
  have apd := A.pd
  have ain := A.inD
  have alo := hM.lop
  clear A
  clear hS0 hM
  obtain rfl : was = x := HWAS.out.symm.trans hwx
  clear hwx
  have hi0 : (0 : Int) ≤ (i : Int) := Int.natCast_nonneg _
  have hi1 : (i : Int) < (L.length : Int) := by omega
  have hj0 : (0 : Int) ≤ (j : Int) := Int.natCast_nonneg _
  have hj1 : (j : Int) < (X.ws.length : Int) := by omega
  go_wp2_with fail
  go_region
  go_wp2
  go_ret2
  refine ⟨rfl, ?_, ?_⟩
  · rw [HD.out, HWAS.out, show nextW 2 was was y = y from if_pos rfl]
    first
      | exact Mem.count (((hMD.same (Sep.drew _ w2)).at hL HX.out).setD j _)
      | exact (Mem.count ((hMD.at hL HX.out).setD j _)).same (Sep.drew _ _)
      | exact (Mem.count ((hMD.at hL HX.out).setD j _)).same ((Sep.drew _ _).trans (Sep.drew _ _))
  · first
      | exact (((hsame.sep _).trans (Sep.drew _ w2)).thenSet (.inl ain) _).thenSet (.inl alo) _
      | exact (((hsame.sep _).thenSet (.inl ain) _).thenSet (.inl alo) _).trans (Sep.drew _ _)
      | exact (((hsame.sep _).thenSet (.inl ain) _).thenSet (.inl alo) _).trans ((Sep.drew _ _).trans (Sep.drew _ _))
set_option maxRecDepth 100000 in
set_option maxHeartbeats 2000000 in
theorem do_stay (h : Mem lo hi w p L cnt) (i j : Nat) (ce op x y : Int) (hL : i < L.length) (X : Reg) (hX : L.getD i default = X) (hj : j < X.ws.length) (hc : cnt < 1000000000) (hg : goodB L i ce = true) (h2 : decide ((j : Int) < 0) = false) (h3 : decide (sizeOf L i ≤ j) = false) (h4 : decide (op < 0) = false) (h5 : decide (3 < op) = false) (ho : op = 2) (hwx : X.ws.getD j 0 ≠ x) : Calls Try.prog 23 #[.pointer (some ⟨p, 0, none⟩), .agg #[.int .i64 i, .int .u64 ce], .agg #[.int .i64 op, .int .i64 j, .int .u64 x, .int .u64 y]] w fun e w' =>
    e = .returned (.tuple #[.int .u64 (X.ws.getD j 0), .bool true]) ∧ Mem lo hi w' p (doL L i j op x y) (cnt + 1) ∧ In lo hi w w' := by
  subst ho
  obtain ⟨W, hW, hS0⟩ := start_do h i ce 2 j x y
  have hle := h.le
  clear h h4 h5
  have HW := Lib.hid hW
  have HX := Lib.hid hX
  have HD : Hid (doL L i j 2 x y = L.set i ⟨X.ws.set j (nextW 2 (X.ws.getD j 0) x y), X.ep⟩) := by unfold doL Hid; rw [hX]
  clear hW hX
  obtain ⟨was, hwas⟩ : ∃ was, X.ws.getD j 0 = was := ⟨_, rfl⟩
  rw [hwas]
  have HWAS := Lib.hid hwas
  clear hwas
  go_enter Try.func23, Try.ntmps23
  go_wp2_with fail
  rw [← HW.out]
  refine wp_region_held_drew (S := (fun v => v.cell? ⟨w.heap.size, 0, none⟩ = some (.int .i64 i) ∧ v.cell? ⟨w.heap.size, 1, none⟩ = some (.int .u64 ce) ∧ v.cell? ⟨w.heap.size + 1, 0, none⟩ = some (.int .i64 2) ∧ v.cell? ⟨w.heap.size + 1, 1, none⟩ = some (.int .i64 j) ∧ v.cell? ⟨w.heap.size + 1, 2, none⟩ = some (.int .u64 x) ∧ v.cell? ⟨w.heap.size + 1, 3, none⟩ = some (.int .u64 y) ∧ Mem lo hi v p L cnt ∧ Same w v)) (by kernel_rfl) ?_ (fun hHeld => ?_)
  · exact keep_do hS0 (Sep.drew _ _)
  change wpAnyH _ _ _ _ _ 28 _ _ _
  refine wpAnyH_take (i := 0) (oi := ⟨some 10, _, _, _, _, _⟩) (v := ?v0) rfl (by kernel_rfl) (by kernel_rfl) (by kernel_rfl) (fun _ _ _ h => h) (Or.inl ⟨by kernel_rfl, ?h0⟩) hHeld ?_
  case h0 => intro w hSw; (try dsimp only at hSw); go_simp; try with_reducible rfl
  try simp only [Act.put, List.setIfInBounds_toArray, List.set_cons_zero, List.set_cons_succ]
  refine wpAnyH_take (i := 1) (oi := ⟨some 11, _, _, _, _, _⟩) (v := ?v1) rfl (by kernel_rfl) (by kernel_rfl) (by kernel_rfl) (fun _ _ _ h => h) (Or.inl ⟨by kernel_rfl, ?h1⟩) hHeld ?_
  case h1 => intro w hSw; (try dsimp only at hSw); go_simp; try with_reducible rfl
  try simp only [Act.put, List.setIfInBounds_toArray, List.set_cons_zero, List.set_cons_succ]
  refine wpAnyH_ready (rs := [2]) (by kernel_rfl) (by simp) ?_
  refine AllReadyH.cons (o := ⟨some 12, _, _, _, _, _⟩) rfl (fun K hK => ?_) AllReadyH.nil
  rw [if_pos (by kernel_rfl)]
  go_simp
  refine (good_any hHeld.2.2.2.2.2.2.1 i ce).mono ?_
  rintro e w2 ⟨rfl, hs⟩
  rw [hg]
  refine hK.out _ _ ?_ (fun hHeld => ?_)
  · exact keep_do hHeld hs
  clear hK K
  try simp only [Act.put, List.setIfInBounds_toArray, List.set_cons_zero, List.set_cons_succ]
  refine wpAnyH_take (i := 3) (oi := ⟨some 13, _, _, _, _, _⟩) (v := ?v3) rfl (by kernel_rfl) (by kernel_rfl) (by kernel_rfl) (fun _ _ _ h => h) (Or.inl ⟨by kernel_rfl, ?h3⟩) hHeld ?_
  case h3 => intro w hSw; (try dsimp only at hSw); go_simp; try with_reducible rfl
  try simp only [Act.put, List.setIfInBounds_toArray, List.set_cons_zero, List.set_cons_succ]
  refine wpAnyH_take (i := 4) (oi := ⟨some 14, _, _, _, _, _⟩) (v := ?v4) rfl (by kernel_rfl) (by kernel_rfl) (by kernel_rfl) (fun _ _ _ h => h) (Or.inl ⟨by kernel_rfl, ?h4⟩) hHeld ?_
  case h4 => intro w hSw; (try dsimp only at hSw); go_simp; try with_reducible rfl
  try simp only [Act.put, List.setIfInBounds_toArray, List.set_cons_zero, List.set_cons_succ]
  refine wpAnyH_take (i := 5) (oi := ⟨some 15, _, _, _, _, _⟩) (v := ?v5) rfl (by kernel_rfl) (by kernel_rfl) (by kernel_rfl) (fun _ _ _ h => h) (Or.inl ⟨by kernel_rfl, ?h5⟩) hHeld ?_
  case h5 => intro w hSw; (try dsimp only at hSw); go_simp; try with_reducible rfl
  try simp only [Act.put, List.setIfInBounds_toArray, List.set_cons_zero, List.set_cons_succ]
  refine wpAnyH_take (i := 6) (oi := ⟨some 16, _, _, _, _, _⟩) (v := ?v6) rfl (by kernel_rfl) (by kernel_rfl) (by kernel_rfl) (fun _ _ _ h => h) (Or.inl ⟨by kernel_rfl, ?h6⟩) hHeld ?_
  case h6 => intro w hSw; (try dsimp only at hSw); go_simp; try with_reducible rfl
  try simp only [Act.put, List.setIfInBounds_toArray, List.set_cons_zero, List.set_cons_succ]
  refine wpAnyH_take (i := 7) (oi := ⟨some 17, _, _, _, _, _⟩) (v := ?v7) rfl (by kernel_rfl) (by kernel_rfl) (by kernel_rfl) (fun _ _ _ h => h) (Or.inl ⟨by kernel_rfl, ?h7⟩) hHeld ?_
  case h7 => intro w hSw; (try dsimp only at hSw); go_simp; try with_reducible rfl
  try simp only [Act.put, List.setIfInBounds_toArray, List.set_cons_zero, List.set_cons_succ]
  refine wpAnyH_take (i := 8) (oi := ⟨some 18, _, _, _, _, _⟩) (v := ?v8) rfl (by kernel_rfl) (by kernel_rfl) (by kernel_rfl) (fun _ _ _ h => h) (Or.inl ⟨by kernel_rfl, ?h8⟩) hHeld ?_
  case h8 => intro w hSw; (try dsimp only at hSw); go_simp; try with_reducible rfl
  try simp only [Act.put, List.setIfInBounds_toArray, List.set_cons_zero, List.set_cons_succ]
  refine wpAnyH_take (i := 9) (oi := ⟨some 19, _, _, _, _, _⟩) (v := ?v9) rfl (by kernel_rfl) (by kernel_rfl) (by kernel_rfl) (fun _ _ _ h => h) (Or.inl ⟨by kernel_rfl, ?h9⟩) hHeld ?_
  case h9 => intro w hSw; (try dsimp only at hSw); go_simp; try with_reducible rfl
  try simp only [Act.put, List.setIfInBounds_toArray, List.set_cons_zero, List.set_cons_succ]
  refine wpAnyH_take (i := 10) (oi := ⟨some 20, _, _, _, _, _⟩) (v := ?v10) rfl (by kernel_rfl) (by kernel_rfl) (by kernel_rfl) (fun _ _ _ h => h) (Or.inl ⟨by kernel_rfl, ?h10⟩) hHeld ?_
  case h10 => intro w hSw; (try dsimp only at hSw); go_simp; try with_reducible rfl
  try simp only [Act.put, List.setIfInBounds_toArray, List.set_cons_zero, List.set_cons_succ]
  refine wpAnyH_take (i := 11) (oi := ⟨some 21, _, _, _, _, _⟩) (v := ?v11) rfl (by kernel_rfl) (by kernel_rfl) (by kernel_rfl) (fun _ _ _ h => h) (Or.inl ⟨by kernel_rfl, ?h11⟩) hHeld ?_
  case h11 => intro w hSw; (try dsimp only at hSw); go_simp; try with_reducible rfl
  try simp only [Act.put, List.setIfInBounds_toArray, List.set_cons_zero, List.set_cons_succ]
  refine wpAnyH_take (i := 12) (oi := ⟨some 22, _, _, _, _, _⟩) (v := ?v12) rfl (by kernel_rfl) (by kernel_rfl) (by kernel_rfl) (fun _ _ _ h => h) (Or.inl ⟨by kernel_rfl, ?h12⟩) hHeld ?_
  case h12 => intro w hSw; (try dsimp only at hSw); go_simp; try with_reducible rfl
  try simp only [Act.put, List.setIfInBounds_toArray, List.set_cons_zero, List.set_cons_succ]
  refine wpAnyH_take (i := 13) (oi := ⟨some 23, _, _, _, _, _⟩) (v := ?v13) rfl (by kernel_rfl) (by kernel_rfl) (by kernel_rfl) (fun _ _ _ h => h) (Or.inl ⟨by kernel_rfl, ?h13⟩) hHeld ?_
  case h13 => intro w hSw; (try dsimp only at hSw); go_simp; try with_reducible rfl
  try simp only [Act.put, List.setIfInBounds_toArray, List.set_cons_zero, List.set_cons_succ]
  refine wpAnyH_take (i := 14) (oi := ⟨some 24, _, _, _, _, _⟩) (v := ?v14) rfl (by kernel_rfl) (by kernel_rfl) (by kernel_rfl) (fun _ _ _ h => h) (Or.inl ⟨by kernel_rfl, ?h14⟩) hHeld ?_
  case h14 => intro w hSw; (try dsimp only at hSw); go_simp; try with_reducible rfl
  try simp only [Act.put, List.setIfInBounds_toArray, List.set_cons_zero, List.set_cons_succ]
  refine wpAnyH_ready (rs := [15]) (by kernel_rfl) (by simp) ?_
  refine AllReadyH.cons (o := ⟨some 25, _, _, _, _, _⟩) rfl (fun K hK => ?_) AllReadyH.nil
  rw [if_pos (by kernel_rfl)]
  go_simp
  refine (size_any hHeld.2.2.2.2.2.2.1 i).mono ?_
  rintro e w2 ⟨rfl, rfl⟩
  refine hK.out _ _ ?_ (fun hHeld => ?_)
  · exact hHeld
  clear hK K
  try simp only [Act.put, List.setIfInBounds_toArray, List.set_cons_zero, List.set_cons_succ]
  refine wpAnyH_take (i := 16) (oi := ⟨some 26, _, _, _, _, _⟩) (v := ?v16) rfl (by kernel_rfl) (by kernel_rfl) (by kernel_rfl) (fun _ _ _ h => h) (Or.inl ⟨by kernel_rfl, ?h16⟩) hHeld ?_
  case h16 => intro w hSw; (try dsimp only at hSw); go_simp; try with_reducible rfl
  try simp only [Act.put, List.setIfInBounds_toArray, List.set_cons_zero, List.set_cons_succ]
  refine wpAnyH_take (i := 17) (oi := ⟨some 27, _, _, _, _, _⟩) (v := ?v17) rfl (by kernel_rfl) (by kernel_rfl) (by kernel_rfl) (fun _ _ _ h => h) (Or.inl ⟨by kernel_rfl, ?h17⟩) hHeld ?_
  case h17 => intro w hSw; (try dsimp only at hSw); go_simp; try with_reducible rfl
  try simp only [Act.put, List.setIfInBounds_toArray, List.set_cons_zero, List.set_cons_succ]
  refine wpAnyH_take (i := 18) (oi := ⟨some 28, _, _, _, _, _⟩) (v := ?v18) rfl (by kernel_rfl) (by kernel_rfl) (by kernel_rfl) (fun _ _ _ h => h) (Or.inl ⟨by kernel_rfl, ?h18⟩) hHeld ?_
  case h18 => intro w hSw; (try dsimp only at hSw); go_simp; try with_reducible rfl
  try simp only [Act.put, List.setIfInBounds_toArray, List.set_cons_zero, List.set_cons_succ]
  refine wpAnyH_take (i := 19) (oi := ⟨some 29, _, _, _, _, _⟩) (v := ?v19) rfl (by kernel_rfl) (by kernel_rfl) (by kernel_rfl) (fun _ _ _ h => h) (Or.inl ⟨by kernel_rfl, ?h19⟩) hHeld ?_
  case h19 => intro w hSw; (try dsimp only at hSw); go_simp; try with_reducible rfl
  try simp only [Act.put, List.setIfInBounds_toArray, List.set_cons_zero, List.set_cons_succ]
  refine wpAnyH_take (i := 20) (oi := ⟨some 30, _, _, _, _, _⟩) (v := ?v20) rfl (by kernel_rfl) (by kernel_rfl) (by kernel_rfl) (fun _ _ _ h => h) (Or.inl ⟨by kernel_rfl, ?h20⟩) hHeld ?_
  case h20 => intro w hSw; (try dsimp only at hSw); go_simp; try with_reducible rfl
  try simp only [Act.put, List.setIfInBounds_toArray, List.set_cons_zero, List.set_cons_succ]
  refine wpAnyH_take (i := 21) (oi := ⟨some 31, _, _, _, _, _⟩) (v := ?v21) rfl (by kernel_rfl) (by kernel_rfl) (by kernel_rfl) (fun _ _ _ h => h) (Or.inl ⟨by kernel_rfl, ?h21⟩) hHeld ?_
  case h21 => intro w hSw; (try dsimp only at hSw); go_simp; try with_reducible rfl
  try simp only [Act.put, List.setIfInBounds_toArray, List.set_cons_zero, List.set_cons_succ]
  refine wpAnyH_take (i := 22) (oi := ⟨some 32, _, _, _, _, _⟩) (v := ?v22) rfl (by kernel_rfl) (by kernel_rfl) (by kernel_rfl) (fun _ _ _ h => h) (Or.inl ⟨by kernel_rfl, ?h22⟩) hHeld ?_
  case h22 => intro w hSw; (try dsimp only at hSw); go_simp; try with_reducible rfl
  try simp only [Act.put, List.setIfInBounds_toArray, List.set_cons_zero, List.set_cons_succ]
  refine wpAnyH_take (i := 23) (oi := ⟨some 33, _, _, _, _, _⟩) (v := ?v23) rfl (by kernel_rfl) (by kernel_rfl) (by kernel_rfl) (fun _ _ _ h => h) (Or.inl ⟨by kernel_rfl, ?h23⟩) hHeld ?_
  case h23 => intro w hSw; (try dsimp only at hSw); go_simp; try with_reducible rfl
  try simp only [Act.put, List.setIfInBounds_toArray, List.set_cons_zero, List.set_cons_succ]
  refine wpAnyH_take (i := 24) (oi := ⟨some 34, _, _, _, _, _⟩) (v := ?v24) rfl (by kernel_rfl) (by kernel_rfl) (by kernel_rfl) (fun _ _ _ h => h) (Or.inl ⟨by kernel_rfl, ?h24⟩) hHeld ?_
  case h24 => intro w hSw; (try dsimp only at hSw); go_simp; try with_reducible rfl
  try simp only [Act.put, List.setIfInBounds_toArray, List.set_cons_zero, List.set_cons_succ]
  refine wpAnyH_take (i := 25) (oi := ⟨some 35, _, _, _, _, _⟩) (v := ?v25) rfl (by kernel_rfl) (by kernel_rfl) (by kernel_rfl) (fun _ _ _ h => h) (Or.inl ⟨by kernel_rfl, ?h25⟩) hHeld ?_
  case h25 => intro w hSw; (try dsimp only at hSw); go_simp; try with_reducible rfl
  try simp only [Act.put, List.setIfInBounds_toArray, List.set_cons_zero, List.set_cons_succ]
  refine wpAnyH_take (i := 26) (oi := ⟨some 36, _, _, _, _, _⟩) (v := ?v26) rfl (by kernel_rfl) (by kernel_rfl) (by kernel_rfl) (fun _ _ _ h => h) (Or.inl ⟨by kernel_rfl, ?h26⟩) hHeld ?_
  case h26 => intro w hSw; (try dsimp only at hSw); go_simp; try with_reducible rfl
  try simp only [Act.put, List.setIfInBounds_toArray, List.set_cons_zero, List.set_cons_succ]
  refine wpAnyH_take (i := 27) (oi := ⟨some 37, _, _, _, _, _⟩) (v := ?v27) rfl (by kernel_rfl) (by kernel_rfl) (by kernel_rfl) (fun _ _ _ h => h) (Or.inl ⟨by kernel_rfl, ?h27⟩) hHeld ?_
  case h27 => intro w hSw; (try dsimp only at hSw); go_simp; try with_reducible rfl
  try simp only [Act.put, List.setIfInBounds_toArray, List.set_cons_zero, List.set_cons_succ]
  refine wpAnyH_done (by kernel_rfl) ?_ _
  obtain ⟨e1, e2, e3, e4, e5, e6, hM, hsame⟩ := id hHeld
  clear hHeld
  obtain ⟨_, _, -, b1, b2⟩ := hM.head
  obtain ⟨ab, cap, av, R, D, hMD⟩ := id hM
  have A := hMD.at hL HX.out
  have a1 := A.head
  have a2 := A.ptr
  have a3 := A.words
  have a4 := A.word j hj
  rw [HWAS.out] at a4
  have a5 := A.freeD j
  have apd := A.pd
  have ain := A.inD
  have alo := hM.lop
  clear A
  clear hS0 hM
  have hne : (was == x) = false := beq_false_of_ne (fun e => hwx (HWAS.out.trans e))
  have HNW := Lib.hid hwx
  clear hwx
  have hi0 : (0 : Int) ≤ (i : Int) := Int.natCast_nonneg _
  have hi1 : (i : Int) < (L.length : Int) := by omega
  have hj0 : (0 : Int) ≤ (j : Int) := Int.natCast_nonneg _
  have hj1 : (j : Int) < (X.ws.length : Int) := by omega
  go_wp2_with fail
  go_region
  go_wp2
  go_ret2
  refine ⟨rfl, ?_, ?_⟩
  · rw [doL_same hL HX.out (show nextW 2 (X.ws.getD j 0) x y = X.ws.getD j 0 from if_neg HNW.out)]
    exact (Mem.count ⟨_, _, _, _, _, hMD⟩).same (Sep.drew _ _)
  · exact ((hsame.sep _).trans (Sep.drew _ w2)).thenSet (.inl alo) _
set_option maxRecDepth 100000 in
set_option maxHeartbeats 2000000 in
theorem do_add (h : Mem lo hi w p L cnt) (i j : Nat) (ce op x y : Int) (hL : i < L.length) (X : Reg) (hX : L.getD i default = X) (hj : j < X.ws.length) (hc : cnt < 1000000000) (hg : goodB L i ce = true) (h2 : decide ((j : Int) < 0) = false) (h3 : decide (sizeOf L i ≤ j) = false) (h4 : decide (op < 0) = false) (h5 : decide (3 < op) = false) (ho : op = 3) : Calls Try.prog 23 #[.pointer (some ⟨p, 0, none⟩), .agg #[.int .i64 i, .int .u64 ce], .agg #[.int .i64 op, .int .i64 j, .int .u64 x, .int .u64 y]] w fun e w' =>
    e = .returned (.tuple #[.int .u64 (X.ws.getD j 0), .bool true]) ∧ Mem lo hi w' p (doL L i j op x y) (cnt + 1) ∧ In lo hi w w' := by
  subst ho
  obtain ⟨W, hW, hS0⟩ := start_do h i ce 3 j x y
  have hle := h.le
  clear h h4 h5
  have HW := Lib.hid hW
  have HX := Lib.hid hX
  have HD : Hid (doL L i j 3 x y = L.set i ⟨X.ws.set j (nextW 3 (X.ws.getD j 0) x y), X.ep⟩) := by unfold doL Hid; rw [hX]
  clear hW hX
  obtain ⟨was, hwas⟩ : ∃ was, X.ws.getD j 0 = was := ⟨_, rfl⟩
  rw [hwas]
  have HWAS := Lib.hid hwas
  clear hwas
  go_enter Try.func23, Try.ntmps23
  go_wp2_with fail
  rw [← HW.out]
  refine wp_region_held_drew (S := (fun v => v.cell? ⟨w.heap.size, 0, none⟩ = some (.int .i64 i) ∧ v.cell? ⟨w.heap.size, 1, none⟩ = some (.int .u64 ce) ∧ v.cell? ⟨w.heap.size + 1, 0, none⟩ = some (.int .i64 3) ∧ v.cell? ⟨w.heap.size + 1, 1, none⟩ = some (.int .i64 j) ∧ v.cell? ⟨w.heap.size + 1, 2, none⟩ = some (.int .u64 x) ∧ v.cell? ⟨w.heap.size + 1, 3, none⟩ = some (.int .u64 y) ∧ Mem lo hi v p L cnt ∧ Same w v)) (by kernel_rfl) ?_ (fun hHeld => ?_)
  · exact keep_do hS0 (Sep.drew _ _)
  change wpAnyH _ _ _ _ _ 28 _ _ _
  refine wpAnyH_take (i := 0) (oi := ⟨some 10, _, _, _, _, _⟩) (v := ?v0) rfl (by kernel_rfl) (by kernel_rfl) (by kernel_rfl) (fun _ _ _ h => h) (Or.inl ⟨by kernel_rfl, ?h0⟩) hHeld ?_
  case h0 => intro w hSw; (try dsimp only at hSw); go_simp; try with_reducible rfl
  try simp only [Act.put, List.setIfInBounds_toArray, List.set_cons_zero, List.set_cons_succ]
  refine wpAnyH_take (i := 1) (oi := ⟨some 11, _, _, _, _, _⟩) (v := ?v1) rfl (by kernel_rfl) (by kernel_rfl) (by kernel_rfl) (fun _ _ _ h => h) (Or.inl ⟨by kernel_rfl, ?h1⟩) hHeld ?_
  case h1 => intro w hSw; (try dsimp only at hSw); go_simp; try with_reducible rfl
  try simp only [Act.put, List.setIfInBounds_toArray, List.set_cons_zero, List.set_cons_succ]
  refine wpAnyH_ready (rs := [2]) (by kernel_rfl) (by simp) ?_
  refine AllReadyH.cons (o := ⟨some 12, _, _, _, _, _⟩) rfl (fun K hK => ?_) AllReadyH.nil
  rw [if_pos (by kernel_rfl)]
  go_simp
  refine (good_any hHeld.2.2.2.2.2.2.1 i ce).mono ?_
  rintro e w2 ⟨rfl, hs⟩
  rw [hg]
  refine hK.out _ _ ?_ (fun hHeld => ?_)
  · exact keep_do hHeld hs
  clear hK K
  try simp only [Act.put, List.setIfInBounds_toArray, List.set_cons_zero, List.set_cons_succ]
  refine wpAnyH_take (i := 3) (oi := ⟨some 13, _, _, _, _, _⟩) (v := ?v3) rfl (by kernel_rfl) (by kernel_rfl) (by kernel_rfl) (fun _ _ _ h => h) (Or.inl ⟨by kernel_rfl, ?h3⟩) hHeld ?_
  case h3 => intro w hSw; (try dsimp only at hSw); go_simp; try with_reducible rfl
  try simp only [Act.put, List.setIfInBounds_toArray, List.set_cons_zero, List.set_cons_succ]
  refine wpAnyH_take (i := 4) (oi := ⟨some 14, _, _, _, _, _⟩) (v := ?v4) rfl (by kernel_rfl) (by kernel_rfl) (by kernel_rfl) (fun _ _ _ h => h) (Or.inl ⟨by kernel_rfl, ?h4⟩) hHeld ?_
  case h4 => intro w hSw; (try dsimp only at hSw); go_simp; try with_reducible rfl
  try simp only [Act.put, List.setIfInBounds_toArray, List.set_cons_zero, List.set_cons_succ]
  refine wpAnyH_take (i := 5) (oi := ⟨some 15, _, _, _, _, _⟩) (v := ?v5) rfl (by kernel_rfl) (by kernel_rfl) (by kernel_rfl) (fun _ _ _ h => h) (Or.inl ⟨by kernel_rfl, ?h5⟩) hHeld ?_
  case h5 => intro w hSw; (try dsimp only at hSw); go_simp; try with_reducible rfl
  try simp only [Act.put, List.setIfInBounds_toArray, List.set_cons_zero, List.set_cons_succ]
  refine wpAnyH_take (i := 6) (oi := ⟨some 16, _, _, _, _, _⟩) (v := ?v6) rfl (by kernel_rfl) (by kernel_rfl) (by kernel_rfl) (fun _ _ _ h => h) (Or.inl ⟨by kernel_rfl, ?h6⟩) hHeld ?_
  case h6 => intro w hSw; (try dsimp only at hSw); go_simp; try with_reducible rfl
  try simp only [Act.put, List.setIfInBounds_toArray, List.set_cons_zero, List.set_cons_succ]
  refine wpAnyH_take (i := 7) (oi := ⟨some 17, _, _, _, _, _⟩) (v := ?v7) rfl (by kernel_rfl) (by kernel_rfl) (by kernel_rfl) (fun _ _ _ h => h) (Or.inl ⟨by kernel_rfl, ?h7⟩) hHeld ?_
  case h7 => intro w hSw; (try dsimp only at hSw); go_simp; try with_reducible rfl
  try simp only [Act.put, List.setIfInBounds_toArray, List.set_cons_zero, List.set_cons_succ]
  refine wpAnyH_take (i := 8) (oi := ⟨some 18, _, _, _, _, _⟩) (v := ?v8) rfl (by kernel_rfl) (by kernel_rfl) (by kernel_rfl) (fun _ _ _ h => h) (Or.inl ⟨by kernel_rfl, ?h8⟩) hHeld ?_
  case h8 => intro w hSw; (try dsimp only at hSw); go_simp; try with_reducible rfl
  try simp only [Act.put, List.setIfInBounds_toArray, List.set_cons_zero, List.set_cons_succ]
  refine wpAnyH_take (i := 9) (oi := ⟨some 19, _, _, _, _, _⟩) (v := ?v9) rfl (by kernel_rfl) (by kernel_rfl) (by kernel_rfl) (fun _ _ _ h => h) (Or.inl ⟨by kernel_rfl, ?h9⟩) hHeld ?_
  case h9 => intro w hSw; (try dsimp only at hSw); go_simp; try with_reducible rfl
  try simp only [Act.put, List.setIfInBounds_toArray, List.set_cons_zero, List.set_cons_succ]
  refine wpAnyH_take (i := 10) (oi := ⟨some 20, _, _, _, _, _⟩) (v := ?v10) rfl (by kernel_rfl) (by kernel_rfl) (by kernel_rfl) (fun _ _ _ h => h) (Or.inl ⟨by kernel_rfl, ?h10⟩) hHeld ?_
  case h10 => intro w hSw; (try dsimp only at hSw); go_simp; try with_reducible rfl
  try simp only [Act.put, List.setIfInBounds_toArray, List.set_cons_zero, List.set_cons_succ]
  refine wpAnyH_take (i := 11) (oi := ⟨some 21, _, _, _, _, _⟩) (v := ?v11) rfl (by kernel_rfl) (by kernel_rfl) (by kernel_rfl) (fun _ _ _ h => h) (Or.inl ⟨by kernel_rfl, ?h11⟩) hHeld ?_
  case h11 => intro w hSw; (try dsimp only at hSw); go_simp; try with_reducible rfl
  try simp only [Act.put, List.setIfInBounds_toArray, List.set_cons_zero, List.set_cons_succ]
  refine wpAnyH_take (i := 12) (oi := ⟨some 22, _, _, _, _, _⟩) (v := ?v12) rfl (by kernel_rfl) (by kernel_rfl) (by kernel_rfl) (fun _ _ _ h => h) (Or.inl ⟨by kernel_rfl, ?h12⟩) hHeld ?_
  case h12 => intro w hSw; (try dsimp only at hSw); go_simp; try with_reducible rfl
  try simp only [Act.put, List.setIfInBounds_toArray, List.set_cons_zero, List.set_cons_succ]
  refine wpAnyH_take (i := 13) (oi := ⟨some 23, _, _, _, _, _⟩) (v := ?v13) rfl (by kernel_rfl) (by kernel_rfl) (by kernel_rfl) (fun _ _ _ h => h) (Or.inl ⟨by kernel_rfl, ?h13⟩) hHeld ?_
  case h13 => intro w hSw; (try dsimp only at hSw); go_simp; try with_reducible rfl
  try simp only [Act.put, List.setIfInBounds_toArray, List.set_cons_zero, List.set_cons_succ]
  refine wpAnyH_take (i := 14) (oi := ⟨some 24, _, _, _, _, _⟩) (v := ?v14) rfl (by kernel_rfl) (by kernel_rfl) (by kernel_rfl) (fun _ _ _ h => h) (Or.inl ⟨by kernel_rfl, ?h14⟩) hHeld ?_
  case h14 => intro w hSw; (try dsimp only at hSw); go_simp; try with_reducible rfl
  try simp only [Act.put, List.setIfInBounds_toArray, List.set_cons_zero, List.set_cons_succ]
  refine wpAnyH_ready (rs := [15]) (by kernel_rfl) (by simp) ?_
  refine AllReadyH.cons (o := ⟨some 25, _, _, _, _, _⟩) rfl (fun K hK => ?_) AllReadyH.nil
  rw [if_pos (by kernel_rfl)]
  go_simp
  refine (size_any hHeld.2.2.2.2.2.2.1 i).mono ?_
  rintro e w2 ⟨rfl, rfl⟩
  refine hK.out _ _ ?_ (fun hHeld => ?_)
  · exact hHeld
  clear hK K
  try simp only [Act.put, List.setIfInBounds_toArray, List.set_cons_zero, List.set_cons_succ]
  refine wpAnyH_take (i := 16) (oi := ⟨some 26, _, _, _, _, _⟩) (v := ?v16) rfl (by kernel_rfl) (by kernel_rfl) (by kernel_rfl) (fun _ _ _ h => h) (Or.inl ⟨by kernel_rfl, ?h16⟩) hHeld ?_
  case h16 => intro w hSw; (try dsimp only at hSw); go_simp; try with_reducible rfl
  try simp only [Act.put, List.setIfInBounds_toArray, List.set_cons_zero, List.set_cons_succ]
  refine wpAnyH_take (i := 17) (oi := ⟨some 27, _, _, _, _, _⟩) (v := ?v17) rfl (by kernel_rfl) (by kernel_rfl) (by kernel_rfl) (fun _ _ _ h => h) (Or.inl ⟨by kernel_rfl, ?h17⟩) hHeld ?_
  case h17 => intro w hSw; (try dsimp only at hSw); go_simp; try with_reducible rfl
  try simp only [Act.put, List.setIfInBounds_toArray, List.set_cons_zero, List.set_cons_succ]
  refine wpAnyH_take (i := 18) (oi := ⟨some 28, _, _, _, _, _⟩) (v := ?v18) rfl (by kernel_rfl) (by kernel_rfl) (by kernel_rfl) (fun _ _ _ h => h) (Or.inl ⟨by kernel_rfl, ?h18⟩) hHeld ?_
  case h18 => intro w hSw; (try dsimp only at hSw); go_simp; try with_reducible rfl
  try simp only [Act.put, List.setIfInBounds_toArray, List.set_cons_zero, List.set_cons_succ]
  refine wpAnyH_take (i := 19) (oi := ⟨some 29, _, _, _, _, _⟩) (v := ?v19) rfl (by kernel_rfl) (by kernel_rfl) (by kernel_rfl) (fun _ _ _ h => h) (Or.inl ⟨by kernel_rfl, ?h19⟩) hHeld ?_
  case h19 => intro w hSw; (try dsimp only at hSw); go_simp; try with_reducible rfl
  try simp only [Act.put, List.setIfInBounds_toArray, List.set_cons_zero, List.set_cons_succ]
  refine wpAnyH_take (i := 20) (oi := ⟨some 30, _, _, _, _, _⟩) (v := ?v20) rfl (by kernel_rfl) (by kernel_rfl) (by kernel_rfl) (fun _ _ _ h => h) (Or.inl ⟨by kernel_rfl, ?h20⟩) hHeld ?_
  case h20 => intro w hSw; (try dsimp only at hSw); go_simp; try with_reducible rfl
  try simp only [Act.put, List.setIfInBounds_toArray, List.set_cons_zero, List.set_cons_succ]
  refine wpAnyH_take (i := 21) (oi := ⟨some 31, _, _, _, _, _⟩) (v := ?v21) rfl (by kernel_rfl) (by kernel_rfl) (by kernel_rfl) (fun _ _ _ h => h) (Or.inl ⟨by kernel_rfl, ?h21⟩) hHeld ?_
  case h21 => intro w hSw; (try dsimp only at hSw); go_simp; try with_reducible rfl
  try simp only [Act.put, List.setIfInBounds_toArray, List.set_cons_zero, List.set_cons_succ]
  refine wpAnyH_take (i := 22) (oi := ⟨some 32, _, _, _, _, _⟩) (v := ?v22) rfl (by kernel_rfl) (by kernel_rfl) (by kernel_rfl) (fun _ _ _ h => h) (Or.inl ⟨by kernel_rfl, ?h22⟩) hHeld ?_
  case h22 => intro w hSw; (try dsimp only at hSw); go_simp; try with_reducible rfl
  try simp only [Act.put, List.setIfInBounds_toArray, List.set_cons_zero, List.set_cons_succ]
  refine wpAnyH_take (i := 23) (oi := ⟨some 33, _, _, _, _, _⟩) (v := ?v23) rfl (by kernel_rfl) (by kernel_rfl) (by kernel_rfl) (fun _ _ _ h => h) (Or.inl ⟨by kernel_rfl, ?h23⟩) hHeld ?_
  case h23 => intro w hSw; (try dsimp only at hSw); go_simp; try with_reducible rfl
  try simp only [Act.put, List.setIfInBounds_toArray, List.set_cons_zero, List.set_cons_succ]
  refine wpAnyH_take (i := 24) (oi := ⟨some 34, _, _, _, _, _⟩) (v := ?v24) rfl (by kernel_rfl) (by kernel_rfl) (by kernel_rfl) (fun _ _ _ h => h) (Or.inl ⟨by kernel_rfl, ?h24⟩) hHeld ?_
  case h24 => intro w hSw; (try dsimp only at hSw); go_simp; try with_reducible rfl
  try simp only [Act.put, List.setIfInBounds_toArray, List.set_cons_zero, List.set_cons_succ]
  refine wpAnyH_take (i := 25) (oi := ⟨some 35, _, _, _, _, _⟩) (v := ?v25) rfl (by kernel_rfl) (by kernel_rfl) (by kernel_rfl) (fun _ _ _ h => h) (Or.inl ⟨by kernel_rfl, ?h25⟩) hHeld ?_
  case h25 => intro w hSw; (try dsimp only at hSw); go_simp; try with_reducible rfl
  try simp only [Act.put, List.setIfInBounds_toArray, List.set_cons_zero, List.set_cons_succ]
  refine wpAnyH_take (i := 26) (oi := ⟨some 36, _, _, _, _, _⟩) (v := ?v26) rfl (by kernel_rfl) (by kernel_rfl) (by kernel_rfl) (fun _ _ _ h => h) (Or.inl ⟨by kernel_rfl, ?h26⟩) hHeld ?_
  case h26 => intro w hSw; (try dsimp only at hSw); go_simp; try with_reducible rfl
  try simp only [Act.put, List.setIfInBounds_toArray, List.set_cons_zero, List.set_cons_succ]
  refine wpAnyH_take (i := 27) (oi := ⟨some 37, _, _, _, _, _⟩) (v := ?v27) rfl (by kernel_rfl) (by kernel_rfl) (by kernel_rfl) (fun _ _ _ h => h) (Or.inl ⟨by kernel_rfl, ?h27⟩) hHeld ?_
  case h27 => intro w hSw; (try dsimp only at hSw); go_simp; try with_reducible rfl
  try simp only [Act.put, List.setIfInBounds_toArray, List.set_cons_zero, List.set_cons_succ]
  refine wpAnyH_done (by kernel_rfl) ?_ _
  obtain ⟨e1, e2, e3, e4, e5, e6, hM, hsame⟩ := id hHeld
  clear hHeld
  obtain ⟨_, _, -, b1, b2⟩ := hM.head
  obtain ⟨ab, cap, av, R, D, hMD⟩ := id hM
  have A := hMD.at hL HX.out
  have a1 := A.head
  have a2 := A.ptr
  have a3 := A.words
  have a4 := A.word j hj
  rw [HWAS.out] at a4
  have a5 := A.freeD j
  have apd := A.pd
  have ain := A.inD
  have alo := hM.lop
  clear A
  clear hS0 hM
  have hi0 : (0 : Int) ≤ (i : Int) := Int.natCast_nonneg _
  have hi1 : (i : Int) < (L.length : Int) := by omega
  have hj0 : (0 : Int) ≤ (j : Int) := Int.natCast_nonneg _
  have hj1 : (j : Int) < (X.ws.length : Int) := by omega
  go_wp2_with fail
  go_region
  go_wp2
  go_region
  go_wp2
  go_ret2
  refine ⟨rfl, ?_, ?_⟩
  · rw [HD.out, HWAS.out, show nextW 3 was x y = IntKind.u64.wrap (was + x) from rfl]
    first
      | exact Mem.count (((hMD.same (Sep.drew _ w2)).at hL HX.out).setD j _)
      | exact (Mem.count ((hMD.at hL HX.out).setD j _)).same (Sep.drew _ _)
      | exact (Mem.count ((hMD.at hL HX.out).setD j _)).same ((Sep.drew _ _).trans (Sep.drew _ _))
  · first
      | exact (((hsame.sep _).trans (Sep.drew _ w2)).thenSet (.inl ain) _).thenSet (.inl alo) _
      | exact (((hsame.sep _).thenSet (.inl ain) _).thenSet (.inl alo) _).trans (Sep.drew _ _)
      | exact (((hsame.sep _).thenSet (.inl ain) _).thenSet (.inl alo) _).trans ((Sep.drew _ _).trans (Sep.drew _ _))

theorem ok_parts {ci ce op at_ : Int} (hok : okB L ci ce op at_ = true) : ∃ i j : Nat, ci = i ∧ at_ = j ∧ i < L.length ∧ j < (L.getD i default).ws.length ∧ 0 ≤ op ∧ op ≤ 3 := by
  unfold okB goodB at hok
  simp only [Bool.and_eq_true, decide_eq_true_eq] at hok
  obtain ⟨⟨h1, h2, _⟩, h4, h5, h6, h7⟩ := hok
  refine ⟨ci.toNat, at_.toNat, by omega, by omega, by omega, ?_, h6, h7⟩
  unfold sizeOf at h5
  rw [if_pos ⟨h1, h2⟩] at h5
  omega

theorem do_yes (h : Mem lo hi w p L cnt) (ci ce op at_ x y : Int) (hc : cnt < 1000000000) (hok : okB L ci ce op at_ = true) : Calls Try.prog 23 #[.pointer (some ⟨p, 0, none⟩), .agg #[.int .i64 ci, .int .u64 ce], .agg #[.int .i64 op, .int .i64 at_, .int .u64 x, .int .u64 y]] w fun e w' =>
    e = .returned (.tuple #[.int .u64 (peekOf L ci at_), .bool true]) ∧ Mem lo hi w' p (doL L ci.toNat at_.toNat op x y) (cnt + 1) ∧ In lo hi w w' := by
  obtain ⟨i, j, rfl, rfl, hL, hj, h6, h7⟩ := ok_parts hok
  have hg : goodB L i ce = true := by unfold okB at hok; simp only [Bool.and_eq_true] at hok; exact hok.1
  have hp : peekOf L i j = (L.getD i default).ws.getD j 0 := by
    unfold peekOf
    rw [if_pos (by omega)]
    rfl
  rw [hp]
  obtain ⟨X, hX⟩ : ∃ X, L.getD i default = X := ⟨_, rfl⟩
  have hs := sizeOf_at hL
  rw [hX] at hj hs ⊢
  have h2 : decide ((j : Int) < 0) = false := decide_eq_false (by omega)
  have h3 : decide (sizeOf L i ≤ j) = false := decide_eq_false (by omega)
  have h4 : decide (op < 0) = false := decide_eq_false (by omega)
  have h5 : decide (3 < op) = false := decide_eq_false (by omega)
  clear hok hp
  show Calls _ _ _ _ fun e w' => _ ∧ Mem lo hi w' p (doL L i j op x y) (cnt + 1) ∧ _
  rcases (show op = 0 ∨ op = 1 ∨ op = 2 ∨ op = 3 by omega) with e | e | e | e
  · exact do_load h i j ce op x y hL X hX hj hc hg h2 h3 h4 h5 e
  · exact do_store h i j ce op x y hL X hX hj hc hg h2 h3 h4 h5 e
  · by_cases hw : X.ws.getD j 0 = x
    · exact do_swap h i j ce op x y hL X hX hj hc hg h2 h3 h4 h5 e hw
    · exact do_stay h i j ce op x y hL X hX hj hc hg h2 h3 h4 h5 e hw
  · exact do_add h i j ce op x y hL X hX hj hc hg h2 h3 h4 h5 e

end
end Go.Proofs.Ytiljledgoflogaa
