/- The walk of ProgKinds. -/
import Derived.Test.YtiljledgoflogaaX
import Derived.Test.YtiljledgoflogaaO
import Derived.Deep.CutBlock
namespace Go.Proofs.Ytiljledgoflogaa
open Go.RowKit
set_option linter.unusedSimpArgs false
set_option linter.unusedVariables false

/-- A region of one word, at epoch 1. -/
def one (x : Int) : List Reg := [⟨[x], 1⟩]
theorem words_one {x : Int} (h : isU x) : Words (one x) := by
  intro i j
  unfold peekOf
  split
  · rename_i hc
    obtain ⟨h0, h1, h2⟩ := hc
    obtain ⟨k, rfl⟩ : ∃ k : Nat, i = k := ⟨i.toNat, by omega⟩
    obtain ⟨m, rfl⟩ : ∃ k : Nat, j = k := ⟨j.toNat, by omega⟩
    have : k = 0 := by simp [one] at h1; omega
    subst this
    show isU ([x].getD m 0)
    cases m with
    | zero => exact h
    | succ m => exact isU_zero
  · exact isU_zero
theorem ok_one (x : Int) (op : Int) (h : 0 ≤ op ∧ op ≤ 3) : okB (one x) 0 1 op 0 = true := by
  unfold okB goodB
  rw [show sizeOf (one x) 0 = 1 from rfl]
  simp [one, h.1, h.2]
theorem run_set (x a : Int) : PT.run 0 1 (Int.toNat 9) (one x) (setT 0 a) = (one a, 1, .done ()) := by
  show PT.run 0 1 (8 + 1) _ _ = _
  unfold setT
  rw [PT.run_yes (ok_one x 1 (by decide)), PT.run_done]
  rfl
theorem run_try (x a b : Int) : PT.run 0 1 (Int.toNat 9) (one x) (tryT 0 a b) = (one (if x = a then b else x), 1, .done (x == a)) := by
  show PT.run 0 1 (8 + 1) _ _ = _
  unfold tryT
  rw [PT.run_yes (ok_one x 2 (by decide)), PT.run_done]
  rfl
theorem run_get (x : Int) : PT.run 0 1 (Int.toNat 9) (one x) (getT 0) = (one x, 1, .done x) := by
  show PT.run 0 1 (8 + 1) _ _ = _
  unfold getT
  rw [PT.run_yes (ok_one x 0 (by decide)), PT.run_done]
  rfl
theorem wf_set {at_ x : Int} (h : isU x) : (setT at_ x).Wf := ⟨h, isU_zero, fun _ _ => trivial⟩
theorem wf_try {at_ x y : Int} (h : isU x) (h' : isU y) : (tryT at_ x y).Wf := ⟨h, h', fun _ _ => trivial⟩
theorem wf_get {at_ : Int} : (getT at_).Wf := ⟨isU_zero, isU_zero, fun _ _ => trivial⟩

set_option maxRecDepth 100000 in
set_option maxHeartbeats 2000000 in
theorem pkinds_walk (a b c : Int) (ha : isU a) (hb : isU b) (hc : isU c) (w : World) : Calls Try.prog 9 #[.int .u64 a, .int .u64 b, .int .u64 c] w fun e w' => e = .returned (.bool true) ∧ Below w.heap.size w w' := by
  obtain ⟨d, hd⟩ : ∃ d, d = if a = b then c else a := ⟨_, rfl⟩
  have hdu : isU d := by rw [hd]; split <;> assumption
  have HD := Lib.hid hd
  have HA := Lib.hid ha
  have HB := Lib.hid hb
  have HC := Lib.hid hc
  have HDU := Lib.hid hdu
  clear hd ha hb hc hdu
  go_enter Try.func9, Try.ntmps9
  go_wp2_with fail
  refine (awake3_ok _).mono ?_
  rintro e w0 ⟨rfl, hs0⟩
  go_wp2_with fail
  refine (new_lit w0 [1] _ 1 rfl rfl (by decide) (by decide)).mono ?_
  rintro e w1 ⟨p, lo, hi, rfl, hm, hs, hlo', hhi⟩
  have hlo : w.heap.size ≤ lo := Nat.le_trans hs0.size hlo'
  have hsa : Same w w1 := hs0.trans hs
  replace hm : Mem lo hi w1 p (one 0) 0 := hm
  clear hs hlo' hs0 hhi
  go_wp2_with fail
  refine (cap_any hm 0).mono ?_
  rintro e w2 ⟨rfl, hs2⟩
  rw [show capOf (one 0) 0 = .agg #[.int .i64 0, .int .u64 1] from rfl]
  have hm2 := hm.same hs2
  have hle := hm2.le
  obtain ⟨b9, hb9⟩ : ∃ b, b = w2.heap.size := ⟨_, rfl⟩
  obtain ⟨W, hW⟩ : ∃ W, W = w2.alloc (.cells #[.int .i64 0, .int .u64 1] 33) := ⟨_, rfl⟩
  have hob : W.heap[b9]? = some (.cells #[.int .i64 0, .int .u64 1] 33) := by rw [hW, hb9]; exact heap_alloc_new _ _
  have hs5 : Same w2 W := by rw [hW]; exact Sep.alloc _ _ _
  have hmW := hm2.same hs5
  have hin5 : In lo hi w W := Same.sep ((hsa.trans hs2).trans hs5) _
  have n9 : ¬ (lo ≤ b9 ∧ b9 < hi) := by omega
  have c0 : W.cell? ⟨b9, 0, none⟩ = some (.int .i64 0) := by rw [cell_of_heap hob]; rfl
  have c1 : W.cell? ⟨b9, 1, none⟩ = some (.int .u64 1) := by rw [cell_of_heap hob]; rfl
  have HB9 := Lib.hid hb9
  have HW := Lib.hid hW
  clear hb9 hW hob hm hm2 hsa hs2 hs5 hle
  go_upto_region 7 with fail
  rw [← HB9.out]
  rw [← HW.out]
  obtain ⟨wb, rfl⟩ : ∃ x, x = W := ⟨_, rfl⟩
  go_cut [11, 12] from 20 (fun s11 s12 wx => s11 = .int .i64 1 ∧ s12 = .bool true ∧ Mem lo hi wx p (one a) 1 ∧ wx.cell? ⟨b9, 0, none⟩ = some (.int .i64 0) ∧ wx.cell? ⟨b9, 1, none⟩ = some (.int .u64 1) ∧ In lo hi wb wx)
  case first =>
    have hm := hmW
    refine wp_region_held_drew (S := (fun v => v.cell? ⟨b9, 0, none⟩ = some (.int .i64 0) ∧ v.cell? ⟨b9, 1, none⟩ = some (.int .u64 1))) (by kernel_rfl) ?_ (fun hHeld => ?_)
    · exact ⟨(Sep.drew (fun _ => False) wb).cell c0 (fun x => x), (Sep.drew (fun _ => False) wb).cell c1 (fun x => x)⟩
    change wpAnyH _ _ _ _ _ 13 _ _ _
    refine wpAnyH_take (i := 0) (oi := ⟨some 36, _, _, _, _, _⟩) (v := ?v1) rfl (by kernel_rfl) (by kernel_rfl) (by kernel_rfl) (fun _ _ _ h => h) (Or.inl ⟨by kernel_rfl, ?h1⟩) hHeld ?_
    case h1 => intro w hSw; (try dsimp only at hSw); go_simp; try with_reducible rfl
    try simp only [Act.put, List.setIfInBounds_toArray, List.set_cons_zero, List.set_cons_succ]
    refine wpAnyH_take (i := 2) (oi := ⟨some 38, _, _, _, _, _⟩) (v := ?v2) rfl (by kernel_rfl) (by kernel_rfl) (by kernel_rfl) (fun _ _ _ h => h) (Or.inl ⟨by kernel_rfl, ?h2⟩) hHeld ?_
    case h2 => intro w hSw; (try dsimp only at hSw); go_simp; try with_reducible rfl
    try simp only [Act.put, List.setIfInBounds_toArray, List.set_cons_zero, List.set_cons_succ]
    refine wpAnyH_take (i := 3) (oi := ⟨some 39, _, _, _, _, _⟩) (v := ?v3) rfl (by kernel_rfl) (by kernel_rfl) (by kernel_rfl) (fun _ _ _ h => h) (Or.inl ⟨by kernel_rfl, ?h3⟩) hHeld ?_
    case h3 => intro w hSw; (try dsimp only at hSw); go_simp; try with_reducible rfl
    try simp only [Act.put, List.setIfInBounds_toArray, List.set_cons_zero, List.set_cons_succ]
    refine wpAnyH_ready (rs := [1, 9]) (by kernel_rfl) (by simp) ?_
    refine AllReadyH.cons (o := ⟨some 37, _, _, _, _, _⟩) rfl (fun K hK => ?_) ?_
    ·
      rw [if_pos (by kernel_rfl)]
      go_simp
      refine (set_any 0 a _).mono ?_
      rintro e wS ⟨vS, rfl, hIS, hsS⟩
      have hS : Same wb wS := Sep.trans (Sep.drew (fun _ => False) wb) hsS
      refine hK.out _ _ ?_ (fun hHeld => ?_)
      · exact ⟨Same.cell hS c0, Same.cell hS c1⟩
      clear hK K
      try simp only [Act.put, List.setIfInBounds_toArray, List.set_cons_zero, List.set_cons_succ]
      refine wpAnyH_ready (rs := [4, 9]) (by kernel_rfl) (by simp) ?_
      refine AllReadyH.cons (o := ⟨some 40, _, _, _, _, _⟩) rfl (fun K hK => ?_) ?_
      ·
        rw [if_pos (by kernel_rfl)]
        go_simp
        refine (runN (hm.same (hS)) hIS 0 1 9 (wf_set HA.out) ?_ (by decide) (by rw [run_set]; exact fun h => by cases h) (fun b _ hb => ?_)).mono ?_
        · exact words_one isU_zero
        · have h1 := hm.le; have h2 := Sep.size (Sep.drew (fun _ => False) wb); omega
        rw [run_set]
        rintro e wR ⟨rcR, rfl, hrc, hmR, hsR⟩
        obtain rfl : rcR = [] := hrc
        rw [show layN.val [] = Value.agg #[] from rfl]
        have hR : Sep (fun b => lo ≤ b ∧ b < hi) wb wR := sep_chain (Same.sep (hS) _) hsR (fun k hk h => h.elim (fun x => absurd x.1 (by have := Sep.size (Sep.drew (fun _ => False) wb); omega)) id)
        refine hK.out _ _ ?_ (fun hHeld => ?_)
        · exact ⟨Sep.cell hR c0 n9, Sep.cell hR c1 n9⟩
        clear hK K
        try simp only [Act.put, List.setIfInBounds_toArray, List.set_cons_zero, List.set_cons_succ]
        refine wpAnyH_take (i := 5) (oi := ⟨some 35, _, _, _, _, _⟩) (v := ?v4) rfl (by kernel_rfl) (by kernel_rfl) (by kernel_rfl) (fun _ _ _ h => h) (Or.inl ⟨by kernel_rfl, ?h4⟩) hHeld ?_
        case h4 => intro w hSw; (try dsimp only at hSw); go_simp; try with_reducible rfl
        try simp only [Act.put, List.setIfInBounds_toArray, List.set_cons_zero, List.set_cons_succ]
        refine wpAnyH_take (i := 6) (oi := ⟨some 41, _, _, _, _, _⟩) (v := ?v5) rfl (by kernel_rfl) (by kernel_rfl) (by kernel_rfl) (fun _ _ _ h => h) (Or.inl ⟨by kernel_rfl, ?h5⟩) hHeld ?_
        case h5 => intro w hSw; (try dsimp only at hSw); go_simp; try with_reducible rfl
        try simp only [Act.put, List.setIfInBounds_toArray, List.set_cons_zero, List.set_cons_succ]
        refine wpAnyH_take (i := 7) (oi := ⟨some 42, _, _, _, _, _⟩) (v := ?v6) rfl (by kernel_rfl) (by kernel_rfl) (by kernel_rfl) (fun _ _ _ h => h) (Or.inl ⟨by kernel_rfl, ?h6⟩) hHeld ?_
        case h6 => intro w hSw; (try dsimp only at hSw); go_simp; try with_reducible rfl
        try simp only [Act.put, List.setIfInBounds_toArray, List.set_cons_zero, List.set_cons_succ]
        refine wpAnyH_take (i := 8) (oi := ⟨some 43, _, _, _, _, _⟩) (v := ?v7) rfl (by kernel_rfl) (by kernel_rfl) (by kernel_rfl) (fun _ _ _ h => h) (Or.inl ⟨by kernel_rfl, ?h7⟩) hHeld ?_
        case h7 => intro w hSw; (try dsimp only at hSw); go_simp; try with_reducible rfl
        try simp only [Act.put, List.setIfInBounds_toArray, List.set_cons_zero, List.set_cons_succ]
        refine wpAnyH_ready (rs := [9]) (by kernel_rfl) (by simp) ?_
        refine AllReadyH.cons (o := ⟨some 10, _, _, _, _, _⟩) rfl (fun K hK => ?_) AllReadyH.nil
        rw [if_pos (by kernel_rfl)]
        go_simp
        obtain ⟨wA, hwA⟩ : ∃ x, x = wR.alloc (.cells #[] 63) := ⟨_, rfl⟩
        rw [← hwA]
        have hA0 : Same wR wA := by rw [hwA]; exact Sep.alloc _ _ _
        have hRA := Sep.trans hR (Same.sep hA0 _)
        have hmRA := hmR.same hA0
        clear hwA
        refine hK.out _ _ ?_ (fun hHeld => ?_)
        · exact ⟨Sep.cell hRA c0 n9, Sep.cell hRA c1 n9⟩
        clear hK K
        try simp only [Act.put, List.setIfInBounds_toArray, List.set_cons_zero, List.set_cons_succ]
        refine wpAnyH_ready (rs := [10]) (by kernel_rfl) (by simp) ?_
        refine AllReadyH.cons (o := ⟨none, _, _, _, _, _⟩) rfl (fun K hK => ?_) AllReadyH.nil
        rw [if_pos (by kernel_rfl)]
        go_simp
        refine hK.out _ _ ?_ (fun hHeld => ?_)
        · exact hHeld
        clear hK K
        try simp only [Act.put, List.setIfInBounds_toArray, List.set_cons_zero, List.set_cons_succ]
        refine wpAnyH_take (i := 11) (oi := ⟨some 11, _, _, _, _, _⟩) (v := ?v8) rfl (by kernel_rfl) (by kernel_rfl) (by kernel_rfl) (fun _ _ _ h => h) (Or.inl ⟨by kernel_rfl, ?h8⟩) hHeld ?_
        case h8 => intro w hSw; (try dsimp only at hSw); go_simp; try with_reducible rfl
        try simp only [Act.put, List.setIfInBounds_toArray, List.set_cons_zero, List.set_cons_succ]
        refine wpAnyH_take (i := 12) (oi := ⟨some 12, _, _, _, _, _⟩) (v := ?v9) rfl (by kernel_rfl) (by kernel_rfl) (by kernel_rfl) (fun _ _ _ h => h) (Or.inl ⟨by kernel_rfl, ?h9⟩) hHeld ?_
        case h9 => intro w hSw; (try dsimp only at hSw); go_simp; try with_reducible rfl
        try simp only [Act.put, List.setIfInBounds_toArray, List.set_cons_zero, List.set_cons_succ]
        refine wpAnyH_done (by kernel_rfl) ?_ _
        clear hHeld
        go_wp2
        go_meet
        case rel =>
          exact ⟨rfl, rfl, hmRA, Sep.cell hRA c0 n9, Sep.cell hRA c1 n9, hRA⟩
      refine AllReadyH.cons (o := ⟨some 10, _, _, _, _, _⟩) rfl (fun K hK => ?_) AllReadyH.nil
      ·
        rw [if_pos (by kernel_rfl)]
        go_simp
        obtain ⟨wA, hwA⟩ : ∃ x, x = wS.alloc (.cells #[] 63) := ⟨_, rfl⟩
        rw [← hwA]
        have hA0 : Same wS wA := by rw [hwA]; exact Sep.alloc _ _ _
        have hA : Same wb wA := Sep.trans (hS) hA0
        clear hwA
        have hISA := hIS.same hA0
        refine hK.out _ _ ?_ (fun hHeld => ?_)
        · exact ⟨Same.cell hA c0, Same.cell hA c1⟩
        clear hK K
        try simp only [Act.put, List.setIfInBounds_toArray, List.set_cons_zero, List.set_cons_succ]
        refine wpAnyH_ready (rs := [4]) (by kernel_rfl) (by simp) ?_
        refine AllReadyH.cons (o := ⟨some 40, _, _, _, _, _⟩) rfl (fun K hK => ?_) AllReadyH.nil
        rw [if_pos (by kernel_rfl)]
        go_simp
        refine (runN (hm.same (hA)) hISA 0 1 9 (wf_set HA.out) ?_ (by decide) (by rw [run_set]; exact fun h => by cases h) (fun b _ hb => ?_)).mono ?_
        · exact words_one isU_zero
        · have h1 := hm.le; have h2 := Sep.size (Sep.drew (fun _ => False) wb); omega
        rw [run_set]
        rintro e wR ⟨rcR, rfl, hrc, hmR, hsR⟩
        obtain rfl : rcR = [] := hrc
        rw [show layN.val [] = Value.agg #[] from rfl]
        have hR : Sep (fun b => lo ≤ b ∧ b < hi) wb wR := sep_chain (Same.sep (hA) _) hsR (fun k hk h => h.elim (fun x => absurd x.1 (by have := Sep.size (Sep.drew (fun _ => False) wb); omega)) id)
        refine hK.out _ _ ?_ (fun hHeld => ?_)
        · exact ⟨Sep.cell hR c0 n9, Sep.cell hR c1 n9⟩
        clear hK K
        try simp only [Act.put, List.setIfInBounds_toArray, List.set_cons_zero, List.set_cons_succ]
        refine wpAnyH_take (i := 5) (oi := ⟨some 35, _, _, _, _, _⟩) (v := ?v10) rfl (by kernel_rfl) (by kernel_rfl) (by kernel_rfl) (fun _ _ _ h => h) (Or.inl ⟨by kernel_rfl, ?h10⟩) hHeld ?_
        case h10 => intro w hSw; (try dsimp only at hSw); go_simp; try with_reducible rfl
        try simp only [Act.put, List.setIfInBounds_toArray, List.set_cons_zero, List.set_cons_succ]
        refine wpAnyH_take (i := 6) (oi := ⟨some 41, _, _, _, _, _⟩) (v := ?v11) rfl (by kernel_rfl) (by kernel_rfl) (by kernel_rfl) (fun _ _ _ h => h) (Or.inl ⟨by kernel_rfl, ?h11⟩) hHeld ?_
        case h11 => intro w hSw; (try dsimp only at hSw); go_simp; try with_reducible rfl
        try simp only [Act.put, List.setIfInBounds_toArray, List.set_cons_zero, List.set_cons_succ]
        refine wpAnyH_take (i := 7) (oi := ⟨some 42, _, _, _, _, _⟩) (v := ?v12) rfl (by kernel_rfl) (by kernel_rfl) (by kernel_rfl) (fun _ _ _ h => h) (Or.inl ⟨by kernel_rfl, ?h12⟩) hHeld ?_
        case h12 => intro w hSw; (try dsimp only at hSw); go_simp; try with_reducible rfl
        try simp only [Act.put, List.setIfInBounds_toArray, List.set_cons_zero, List.set_cons_succ]
        refine wpAnyH_take (i := 8) (oi := ⟨some 43, _, _, _, _, _⟩) (v := ?v13) rfl (by kernel_rfl) (by kernel_rfl) (by kernel_rfl) (fun _ _ _ h => h) (Or.inl ⟨by kernel_rfl, ?h13⟩) hHeld ?_
        case h13 => intro w hSw; (try dsimp only at hSw); go_simp; try with_reducible rfl
        try simp only [Act.put, List.setIfInBounds_toArray, List.set_cons_zero, List.set_cons_succ]
        refine wpAnyH_ready (rs := [10]) (by kernel_rfl) (by simp) ?_
        refine AllReadyH.cons (o := ⟨none, _, _, _, _, _⟩) rfl (fun K hK => ?_) AllReadyH.nil
        rw [if_pos (by kernel_rfl)]
        go_simp
        refine hK.out _ _ ?_ (fun hHeld => ?_)
        · exact hHeld
        clear hK K
        try simp only [Act.put, List.setIfInBounds_toArray, List.set_cons_zero, List.set_cons_succ]
        refine wpAnyH_take (i := 11) (oi := ⟨some 11, _, _, _, _, _⟩) (v := ?v14) rfl (by kernel_rfl) (by kernel_rfl) (by kernel_rfl) (fun _ _ _ h => h) (Or.inl ⟨by kernel_rfl, ?h14⟩) hHeld ?_
        case h14 => intro w hSw; (try dsimp only at hSw); go_simp; try with_reducible rfl
        try simp only [Act.put, List.setIfInBounds_toArray, List.set_cons_zero, List.set_cons_succ]
        refine wpAnyH_take (i := 12) (oi := ⟨some 12, _, _, _, _, _⟩) (v := ?v15) rfl (by kernel_rfl) (by kernel_rfl) (by kernel_rfl) (fun _ _ _ h => h) (Or.inl ⟨by kernel_rfl, ?h15⟩) hHeld ?_
        case h15 => intro w hSw; (try dsimp only at hSw); go_simp; try with_reducible rfl
        try simp only [Act.put, List.setIfInBounds_toArray, List.set_cons_zero, List.set_cons_succ]
        refine wpAnyH_done (by kernel_rfl) ?_ _
        clear hHeld
        go_wp2
        go_meet
        case rel =>
          exact ⟨rfl, rfl, hmR, Sep.cell hR c0 n9, Sep.cell hR c1 n9, hR⟩
    refine AllReadyH.cons (o := ⟨some 10, _, _, _, _, _⟩) rfl (fun K hK => ?_) AllReadyH.nil
    ·
      rw [if_pos (by kernel_rfl)]
      go_simp
      obtain ⟨wA, hwA⟩ : ∃ x, x = (wb.alloc (.cells #[] 63)).drew := ⟨_, rfl⟩
      rw [← hwA]
      have hA : Same wb wA := by rw [hwA]; exact Sep.trans (Sep.alloc _ wb _) (Sep.drew _ _)
      clear hwA
      refine hK.out _ _ ?_ (fun hHeld => ?_)
      · exact ⟨Same.cell hA c0, Same.cell hA c1⟩
      clear hK K
      try simp only [Act.put, List.setIfInBounds_toArray, List.set_cons_zero, List.set_cons_succ]
      refine wpAnyH_ready (rs := [1]) (by kernel_rfl) (by simp) ?_
      refine AllReadyH.cons (o := ⟨some 37, _, _, _, _, _⟩) rfl (fun K hK => ?_) AllReadyH.nil
      rw [if_pos (by kernel_rfl)]
      go_simp
      refine (set_any 0 a _).mono ?_
      rintro e wS ⟨vS, rfl, hIS, hsS⟩
      have hS : Same wb wS := Sep.trans (hA) hsS
      refine hK.out _ _ ?_ (fun hHeld => ?_)
      · exact ⟨Same.cell hS c0, Same.cell hS c1⟩
      clear hK K
      try simp only [Act.put, List.setIfInBounds_toArray, List.set_cons_zero, List.set_cons_succ]
      refine wpAnyH_ready (rs := [4]) (by kernel_rfl) (by simp) ?_
      refine AllReadyH.cons (o := ⟨some 40, _, _, _, _, _⟩) rfl (fun K hK => ?_) AllReadyH.nil
      rw [if_pos (by kernel_rfl)]
      go_simp
      refine (runN (hm.same (hS)) hIS 0 1 9 (wf_set HA.out) ?_ (by decide) (by rw [run_set]; exact fun h => by cases h) (fun b _ hb => ?_)).mono ?_
      · exact words_one isU_zero
      · have h1 := hm.le; have h2 := Sep.size (hA); omega
      rw [run_set]
      rintro e wR ⟨rcR, rfl, hrc, hmR, hsR⟩
      obtain rfl : rcR = [] := hrc
      rw [show layN.val [] = Value.agg #[] from rfl]
      have hR : Sep (fun b => lo ≤ b ∧ b < hi) wb wR := sep_chain (Same.sep (hS) _) hsR (fun k hk h => h.elim (fun x => absurd x.1 (by have := Sep.size (hA); omega)) id)
      refine hK.out _ _ ?_ (fun hHeld => ?_)
      · exact ⟨Sep.cell hR c0 n9, Sep.cell hR c1 n9⟩
      clear hK K
      try simp only [Act.put, List.setIfInBounds_toArray, List.set_cons_zero, List.set_cons_succ]
      refine wpAnyH_take (i := 5) (oi := ⟨some 35, _, _, _, _, _⟩) (v := ?v16) rfl (by kernel_rfl) (by kernel_rfl) (by kernel_rfl) (fun _ _ _ h => h) (Or.inl ⟨by kernel_rfl, ?h16⟩) hHeld ?_
      case h16 => intro w hSw; (try dsimp only at hSw); go_simp; try with_reducible rfl
      try simp only [Act.put, List.setIfInBounds_toArray, List.set_cons_zero, List.set_cons_succ]
      refine wpAnyH_take (i := 6) (oi := ⟨some 41, _, _, _, _, _⟩) (v := ?v17) rfl (by kernel_rfl) (by kernel_rfl) (by kernel_rfl) (fun _ _ _ h => h) (Or.inl ⟨by kernel_rfl, ?h17⟩) hHeld ?_
      case h17 => intro w hSw; (try dsimp only at hSw); go_simp; try with_reducible rfl
      try simp only [Act.put, List.setIfInBounds_toArray, List.set_cons_zero, List.set_cons_succ]
      refine wpAnyH_take (i := 7) (oi := ⟨some 42, _, _, _, _, _⟩) (v := ?v18) rfl (by kernel_rfl) (by kernel_rfl) (by kernel_rfl) (fun _ _ _ h => h) (Or.inl ⟨by kernel_rfl, ?h18⟩) hHeld ?_
      case h18 => intro w hSw; (try dsimp only at hSw); go_simp; try with_reducible rfl
      try simp only [Act.put, List.setIfInBounds_toArray, List.set_cons_zero, List.set_cons_succ]
      refine wpAnyH_take (i := 8) (oi := ⟨some 43, _, _, _, _, _⟩) (v := ?v19) rfl (by kernel_rfl) (by kernel_rfl) (by kernel_rfl) (fun _ _ _ h => h) (Or.inl ⟨by kernel_rfl, ?h19⟩) hHeld ?_
      case h19 => intro w hSw; (try dsimp only at hSw); go_simp; try with_reducible rfl
      try simp only [Act.put, List.setIfInBounds_toArray, List.set_cons_zero, List.set_cons_succ]
      refine wpAnyH_ready (rs := [10]) (by kernel_rfl) (by simp) ?_
      refine AllReadyH.cons (o := ⟨none, _, _, _, _, _⟩) rfl (fun K hK => ?_) AllReadyH.nil
      rw [if_pos (by kernel_rfl)]
      go_simp
      refine hK.out _ _ ?_ (fun hHeld => ?_)
      · exact hHeld
      clear hK K
      try simp only [Act.put, List.setIfInBounds_toArray, List.set_cons_zero, List.set_cons_succ]
      refine wpAnyH_take (i := 11) (oi := ⟨some 11, _, _, _, _, _⟩) (v := ?v20) rfl (by kernel_rfl) (by kernel_rfl) (by kernel_rfl) (fun _ _ _ h => h) (Or.inl ⟨by kernel_rfl, ?h20⟩) hHeld ?_
      case h20 => intro w hSw; (try dsimp only at hSw); go_simp; try with_reducible rfl
      try simp only [Act.put, List.setIfInBounds_toArray, List.set_cons_zero, List.set_cons_succ]
      refine wpAnyH_take (i := 12) (oi := ⟨some 12, _, _, _, _, _⟩) (v := ?v21) rfl (by kernel_rfl) (by kernel_rfl) (by kernel_rfl) (fun _ _ _ h => h) (Or.inl ⟨by kernel_rfl, ?h21⟩) hHeld ?_
      case h21 => intro w hSw; (try dsimp only at hSw); go_simp; try with_reducible rfl
      try simp only [Act.put, List.setIfInBounds_toArray, List.set_cons_zero, List.set_cons_succ]
      refine wpAnyH_done (by kernel_rfl) ?_ _
      clear hHeld
      go_wp2
      go_meet
      case rel =>
        exact ⟨rfl, rfl, hmR, Sep.cell hR c0 n9, Sep.cell hR c1 n9, hR⟩
  case rest =>
    obtain ⟨rfl, rfl, hm, k0, k1, hin1⟩ := hcut
    have hin6 := hin5.trans hin1
    clear hin1 hin5 hmW c0 c1
    go_wp2
    refine wp_region_held_drew (S := (fun v => v.cell? ⟨b9, 0, none⟩ = some (.int .i64 0) ∧ v.cell? ⟨b9, 1, none⟩ = some (.int .u64 1))) (by kernel_rfl) ?_ (fun hHeld => ?_)
    · exact ⟨(Sep.drew (fun _ => False) wc).cell k0 (fun x => x), (Sep.drew (fun _ => False) wc).cell k1 (fun x => x)⟩
    change wpAnyH _ _ _ _ _ 13 _ _ _
    refine wpAnyH_take (i := 0) (oi := ⟨some 45, _, _, _, _, _⟩) (v := ?v22) rfl (by kernel_rfl) (by kernel_rfl) (by kernel_rfl) (fun _ _ _ h => h) (Or.inl ⟨by kernel_rfl, ?h22⟩) hHeld ?_
    case h22 => intro w hSw; (try dsimp only at hSw); go_simp; try with_reducible rfl
    try simp only [Act.put, List.setIfInBounds_toArray, List.set_cons_zero, List.set_cons_succ]
    refine wpAnyH_take (i := 1) (oi := ⟨some 46, _, _, _, _, _⟩) (v := ?v23) rfl (by kernel_rfl) (by kernel_rfl) (by kernel_rfl) (fun _ _ _ h => h) (Or.inl ⟨by kernel_rfl, ?h23⟩) hHeld ?_
    case h23 => intro w hSw; (try dsimp only at hSw); go_simp; try with_reducible rfl
    try simp only [Act.put, List.setIfInBounds_toArray, List.set_cons_zero, List.set_cons_succ]
    refine wpAnyH_take (i := 3) (oi := ⟨some 48, _, _, _, _, _⟩) (v := ?v24) rfl (by kernel_rfl) (by kernel_rfl) (by kernel_rfl) (fun _ _ _ h => h) (Or.inl ⟨by kernel_rfl, ?h24⟩) hHeld ?_
    case h24 => intro w hSw; (try dsimp only at hSw); go_simp; try with_reducible rfl
    try simp only [Act.put, List.setIfInBounds_toArray, List.set_cons_zero, List.set_cons_succ]
    refine wpAnyH_take (i := 4) (oi := ⟨some 49, _, _, _, _, _⟩) (v := ?v25) rfl (by kernel_rfl) (by kernel_rfl) (by kernel_rfl) (fun _ _ _ h => h) (Or.inl ⟨by kernel_rfl, ?h25⟩) hHeld ?_
    case h25 => intro w hSw; (try dsimp only at hSw); go_simp; try with_reducible rfl
    try simp only [Act.put, List.setIfInBounds_toArray, List.set_cons_zero, List.set_cons_succ]
    refine wpAnyH_ready (rs := [2]) (by kernel_rfl) (by simp) ?_
    refine AllReadyH.cons (o := ⟨some 47, _, _, _, _, _⟩) rfl (fun K hK => ?_) AllReadyH.nil
    rw [if_pos (by kernel_rfl)]
    go_simp
    refine (try_any 0 b c _).mono ?_
    rintro e wS ⟨vS, rfl, hIS, hsS⟩
    have hS : Same wc wS := Sep.trans (Sep.drew (fun _ => False) wc) hsS
    refine hK.out _ _ ?_ (fun hHeld => ?_)
    · exact ⟨Same.cell hS k0, Same.cell hS k1⟩
    clear hK K
    try simp only [Act.put, List.setIfInBounds_toArray, List.set_cons_zero, List.set_cons_succ]
    refine wpAnyH_ready (rs := [5]) (by kernel_rfl) (by simp) ?_
    refine AllReadyH.cons (o := ⟨some 50, _, _, _, _, _⟩) rfl (fun K hK => ?_) AllReadyH.nil
    rw [if_pos (by kernel_rfl)]
    go_simp
    refine (runB (hm.same (hS)) hIS 0 1 9 (wf_try HB.out HC.out) ?_ (by decide) (by rw [run_try]; exact fun h => by cases h) (fun b _ hb => ?_)).mono ?_
    · exact words_one HA.out
    · have h1 := hm.le; have h2 := Sep.size (Sep.drew (fun _ => False) wc); omega
    rw [run_try]
    rintro e wR ⟨rcR, rfl, hrc, hmR, hsR⟩
    obtain rfl : rcR = [.bool (a == b)] := hrc
    rw [show layB.val [Value.bool (a == b)] = Value.bool (a == b) from rfl]
    have hR : Sep (fun b => lo ≤ b ∧ b < hi) wc wR := sep_chain (Same.sep (hS) _) hsR (fun k hk h => h.elim (fun x => absurd x.1 (by have := Sep.size (Sep.drew (fun _ => False) wc); omega)) id)
    refine hK.out _ _ ?_ (fun hHeld => ?_)
    · exact ⟨Sep.cell hR k0 n9, Sep.cell hR k1 n9⟩
    clear hK K
    try simp only [Act.put, List.setIfInBounds_toArray, List.set_cons_zero, List.set_cons_succ]
    refine wpAnyH_take (i := 6) (oi := ⟨some 44, _, _, _, _, _⟩) (v := ?v26) rfl (by kernel_rfl) (by kernel_rfl) (by kernel_rfl) (fun _ _ _ h => h) (Or.inl ⟨by kernel_rfl, ?h26⟩) hHeld ?_
    case h26 => intro w hSw; (try dsimp only at hSw); go_simp; try with_reducible rfl
    try simp only [Act.put, List.setIfInBounds_toArray, List.set_cons_zero, List.set_cons_succ]
    refine wpAnyH_take (i := 7) (oi := ⟨some 51, _, _, _, _, _⟩) (v := ?v27) rfl (by kernel_rfl) (by kernel_rfl) (by kernel_rfl) (fun _ _ _ h => h) (Or.inl ⟨by kernel_rfl, ?h27⟩) hHeld ?_
    case h27 => intro w hSw; (try dsimp only at hSw); go_simp; try with_reducible rfl
    try simp only [Act.put, List.setIfInBounds_toArray, List.set_cons_zero, List.set_cons_succ]
    refine wpAnyH_take (i := 8) (oi := ⟨some 52, _, _, _, _, _⟩) (v := ?v28) rfl (by kernel_rfl) (by kernel_rfl) (by kernel_rfl) (fun _ _ _ h => h) (Or.inl ⟨by kernel_rfl, ?h28⟩) hHeld ?_
    case h28 => intro w hSw; (try dsimp only at hSw); go_simp; try with_reducible rfl
    try simp only [Act.put, List.setIfInBounds_toArray, List.set_cons_zero, List.set_cons_succ]
    refine wpAnyH_take (i := 9) (oi := ⟨some 53, _, _, _, _, _⟩) (v := ?v29) rfl (by kernel_rfl) (by kernel_rfl) (by kernel_rfl) (fun _ _ _ h => h) (Or.inl ⟨by kernel_rfl, ?h29⟩) hHeld ?_
    case h29 => intro w hSw; (try dsimp only at hSw); go_simp; try with_reducible rfl
    try simp only [Act.put, List.setIfInBounds_toArray, List.set_cons_zero, List.set_cons_succ]
    refine wpAnyH_take (i := 10) (oi := ⟨some 13, _, _, _, _, _⟩) (v := ?v30) rfl (by kernel_rfl) (by kernel_rfl) (by kernel_rfl) (fun _ _ _ h => h) (Or.inl ⟨by kernel_rfl, ?h30⟩) hHeld ?_
    case h30 => intro w hSw; (try dsimp only at hSw); go_simp; try with_reducible rfl
    try simp only [Act.put, List.setIfInBounds_toArray, List.set_cons_zero, List.set_cons_succ]
    refine wpAnyH_take (i := 11) (oi := ⟨some 14, _, _, _, _, _⟩) (v := ?v31) rfl (by kernel_rfl) (by kernel_rfl) (by kernel_rfl) (fun _ _ _ h => h) (Or.inl ⟨by kernel_rfl, ?h31⟩) hHeld ?_
    case h31 => intro w hSw; (try dsimp only at hSw); go_simp; try with_reducible rfl
    try simp only [Act.put, List.setIfInBounds_toArray, List.set_cons_zero, List.set_cons_succ]
    refine wpAnyH_take (i := 12) (oi := ⟨some 15, _, _, _, _, _⟩) (v := ?v32) rfl (by kernel_rfl) (by kernel_rfl) (by kernel_rfl) (fun _ _ _ h => h) (Or.inl ⟨by kernel_rfl, ?h32⟩) hHeld ?_
    case h32 => intro w hSw; (try dsimp only at hSw); go_simp; try with_reducible rfl
    try simp only [Act.put, List.setIfInBounds_toArray, List.set_cons_zero, List.set_cons_succ]
    refine wpAnyH_done (by kernel_rfl) ?_ _
    have hin7 := hin6.trans hR
    have k2 := Sep.cell hR k0 n9
    have k3 := Sep.cell hR k1 n9
    obtain ⟨t8, ht8⟩ : ∃ t, t = (a == b) := ⟨_, rfl⟩
    rw [← ht8]
    rw [← HD.out] at hmR
    have hm9 := hmR
    clear hHeld hm hmR hR hin6 k0 k1 hS hsS hsR hIS
    obtain ⟨wd, rfl⟩ : ∃ x, x = wR := ⟨_, rfl⟩
    go_wp2
    refine wp_region_held_drew (S := (fun v => v.cell? ⟨b9, 0, none⟩ = some (.int .i64 0) ∧ v.cell? ⟨b9, 1, none⟩ = some (.int .u64 1))) (by kernel_rfl) ?_ (fun hHeld => ?_)
    · exact ⟨(Sep.drew (fun _ => False) wd).cell k2 (fun x => x), (Sep.drew (fun _ => False) wd).cell k3 (fun x => x)⟩
    change wpAnyH _ _ _ _ _ 11 _ _ _
    refine wpAnyH_take (i := 1) (oi := ⟨some 56, _, _, _, _, _⟩) (v := ?v33) rfl (by kernel_rfl) (by kernel_rfl) (by kernel_rfl) (fun _ _ _ h => h) (Or.inl ⟨by kernel_rfl, ?h33⟩) hHeld ?_
    case h33 => intro w hSw; (try dsimp only at hSw); go_simp; try with_reducible rfl
    try simp only [Act.put, List.setIfInBounds_toArray, List.set_cons_zero, List.set_cons_succ]
    refine wpAnyH_take (i := 2) (oi := ⟨some 57, _, _, _, _, _⟩) (v := ?v34) rfl (by kernel_rfl) (by kernel_rfl) (by kernel_rfl) (fun _ _ _ h => h) (Or.inl ⟨by kernel_rfl, ?h34⟩) hHeld ?_
    case h34 => intro w hSw; (try dsimp only at hSw); go_simp; try with_reducible rfl
    try simp only [Act.put, List.setIfInBounds_toArray, List.set_cons_zero, List.set_cons_succ]
    refine wpAnyH_ready (rs := [0]) (by kernel_rfl) (by simp) ?_
    refine AllReadyH.cons (o := ⟨some 55, _, _, _, _, _⟩) rfl (fun K hK => ?_) AllReadyH.nil
    rw [if_pos (by kernel_rfl)]
    go_simp
    refine (get_any 0 _).mono ?_
    rintro e wS ⟨vS, rfl, hIS, hsS⟩
    have hS : Same wd wS := Sep.trans (Sep.drew (fun _ => False) wd) hsS
    refine hK.out _ _ ?_ (fun hHeld => ?_)
    · exact ⟨Same.cell hS k2, Same.cell hS k3⟩
    clear hK K
    try simp only [Act.put, List.setIfInBounds_toArray, List.set_cons_zero, List.set_cons_succ]
    refine wpAnyH_ready (rs := [3]) (by kernel_rfl) (by simp) ?_
    refine AllReadyH.cons (o := ⟨some 58, _, _, _, _, _⟩) rfl (fun K hK => ?_) AllReadyH.nil
    rw [if_pos (by kernel_rfl)]
    go_simp
    refine (runU (hm9.same (hS)) hIS 0 1 9 wf_get ?_ (by decide) (by rw [run_get]; exact fun h => by cases h) (fun b _ hb => ?_)).mono ?_
    · exact words_one HDU.out
    · have h1 := hm9.le; have h2 := Sep.size (Sep.drew (fun _ => False) wd); omega
    rw [run_get]
    rintro e wR ⟨rcR, rfl, hrc, hmR, hsR⟩
    obtain ⟨rfl, _⟩ : rcR = [.int .u64 d] ∧ isU d := hrc
    rw [show layU.val [Value.int .u64 d] = Value.int .u64 d from rfl]
    have hR : Sep (fun b => lo ≤ b ∧ b < hi) wd wR := sep_chain (Same.sep (hS) _) hsR (fun k hk h => h.elim (fun x => absurd x.1 (by have := Sep.size (Sep.drew (fun _ => False) wd); omega)) id)
    refine hK.out _ _ ?_ (fun hHeld => ?_)
    · exact ⟨Sep.cell hR k2 n9, Sep.cell hR k3 n9⟩
    clear hK K
    try simp only [Act.put, List.setIfInBounds_toArray, List.set_cons_zero, List.set_cons_succ]
    refine wpAnyH_take (i := 4) (oi := ⟨some 54, _, _, _, _, _⟩) (v := ?v35) rfl (by kernel_rfl) (by kernel_rfl) (by kernel_rfl) (fun _ _ _ h => h) (Or.inl ⟨by kernel_rfl, ?h35⟩) hHeld ?_
    case h35 => intro w hSw; (try dsimp only at hSw); go_simp; try with_reducible rfl
    try simp only [Act.put, List.setIfInBounds_toArray, List.set_cons_zero, List.set_cons_succ]
    refine wpAnyH_take (i := 5) (oi := ⟨some 59, _, _, _, _, _⟩) (v := ?v36) rfl (by kernel_rfl) (by kernel_rfl) (by kernel_rfl) (fun _ _ _ h => h) (Or.inl ⟨by kernel_rfl, ?h36⟩) hHeld ?_
    case h36 => intro w hSw; (try dsimp only at hSw); go_simp; try with_reducible rfl
    try simp only [Act.put, List.setIfInBounds_toArray, List.set_cons_zero, List.set_cons_succ]
    refine wpAnyH_take (i := 6) (oi := ⟨some 60, _, _, _, _, _⟩) (v := ?v37) rfl (by kernel_rfl) (by kernel_rfl) (by kernel_rfl) (fun _ _ _ h => h) (Or.inl ⟨by kernel_rfl, ?h37⟩) hHeld ?_
    case h37 => intro w hSw; (try dsimp only at hSw); go_simp; try with_reducible rfl
    try simp only [Act.put, List.setIfInBounds_toArray, List.set_cons_zero, List.set_cons_succ]
    refine wpAnyH_take (i := 7) (oi := ⟨some 61, _, _, _, _, _⟩) (v := ?v38) rfl (by kernel_rfl) (by kernel_rfl) (by kernel_rfl) (fun _ _ _ h => h) (Or.inl ⟨by kernel_rfl, ?h38⟩) hHeld ?_
    case h38 => intro w hSw; (try dsimp only at hSw); go_simp; try with_reducible rfl
    try simp only [Act.put, List.setIfInBounds_toArray, List.set_cons_zero, List.set_cons_succ]
    refine wpAnyH_take (i := 8) (oi := ⟨some 16, _, _, _, _, _⟩) (v := ?v39) rfl (by kernel_rfl) (by kernel_rfl) (by kernel_rfl) (fun _ _ _ h => h) (Or.inl ⟨by kernel_rfl, ?h39⟩) hHeld ?_
    case h39 => intro w hSw; (try dsimp only at hSw); go_simp; try with_reducible rfl
    try simp only [Act.put, List.setIfInBounds_toArray, List.set_cons_zero, List.set_cons_succ]
    refine wpAnyH_take (i := 9) (oi := ⟨some 17, _, _, _, _, _⟩) (v := ?v40) rfl (by kernel_rfl) (by kernel_rfl) (by kernel_rfl) (fun _ _ _ h => h) (Or.inl ⟨by kernel_rfl, ?h40⟩) hHeld ?_
    case h40 => intro w hSw; (try dsimp only at hSw); go_simp; try with_reducible rfl
    try simp only [Act.put, List.setIfInBounds_toArray, List.set_cons_zero, List.set_cons_succ]
    refine wpAnyH_take (i := 10) (oi := ⟨some 18, _, _, _, _, _⟩) (v := ?v41) rfl (by kernel_rfl) (by kernel_rfl) (by kernel_rfl) (fun _ _ _ h => h) (Or.inl ⟨by kernel_rfl, ?h41⟩) hHeld ?_
    case h41 => intro w hSw; (try dsimp only at hSw); go_simp; try with_reducible rfl
    try simp only [Act.put, List.setIfInBounds_toArray, List.set_cons_zero, List.set_cons_succ]
    refine wpAnyH_done (by kernel_rfl) ?_ _
    have hin8 := hin7.trans hR
    have bel : Below w.heap.size w wR := In.below hin8 hlo (Nat.le_refl _)
    clear hHeld hm9 hmR hR hin7 hin8 k2 k3 hS hsS hsR hIS
    by_cases hab : a = b
    · have hd2 : d = c := by rw [HD.out, if_pos hab]
      have ht2 : t8 = true := by rw [ht8]; simp [hab]
      subst ht2
      clear ht8
      subst hab
      have HD2 := Lib.hid hd2
      clear hd2
      have hov : (PT.done true).over = true := rfl
      have hov2 : (PT.done d).over = true := rfl
      go_wp2
      go_ret
      exact ⟨by rw [HD2.out]; simp, bel⟩
    · have hd2 : d = a := by rw [HD.out, if_neg hab]
      have ht2 : t8 = false := by rw [ht8]; simp [hab]
      subst ht2
      clear ht8
      have HD2 := Lib.hid hd2
      clear hd2
      have hov : (PT.done false).over = true := rfl
      have hov2 : (PT.done d).over = true := rfl
      go_wp2
      go_ret
      exact ⟨by rw [HD2.out]; simp, bel⟩
end Go.Proofs.Ytiljledgoflogaa
