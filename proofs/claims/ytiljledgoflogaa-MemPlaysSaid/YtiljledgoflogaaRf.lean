/- The walk of ProgRuns. -/
import Derived.Test.YtiljledgoflogaaRe
import Derived.Test.YtiljledgoflogaaS
namespace Go.Proofs.Ytiljledgoflogaa
open Go.RowKit
set_option linter.unusedSimpArgs false
set_option linter.unusedVariables false

theorem rnew8 {F : Nat → Prop} (w : World) (hF : ∀ b, w.heap.size ≤ b → F b) : Calls Try.prog 29 #[.slice (some ⟨w.heap.size, 0, none⟩) 1 1] (w.alloc (.cells #[.int .i64 8] 3)) fun e w' => ∃ wa wk ea ec, e = .returned (.tuple #[.agg #[.slice wa 1 wk, .slice ea 1 ec, .int .i64 ((0 : Nat) : Int)], .bool true]) ∧ RM F w' (.agg #[.slice wa 1 wk, .slice ea 1 ec, .int .i64 ((0 : Nat) : Int)]) fresh8 0 ∧ Same w w' := by
  refine (rnew_ok (F := F) (some ⟨w.heap.size, 0, none⟩) 1 [8] (w.alloc (.cells #[.int .i64 8] 3)) (fun b hb => hF b (by simp at hb; omega)) (rowI_new w [8]) (sizes_small [8] (by decide) (by decide))).mono ?_
  rintro e w' ⟨v, rfl, hrm, hs⟩
  obtain ⟨wa, wk, ea, ec, rfl⟩ := hrm.form
  exact ⟨wa, wk, ea, ec, rfl, hrm, (Sep.alloc _ _ _).trans hs⟩

theorem pruns_long (a0 : Option Addr) (n0 c0 : Nat) (z : Int) (h : 40 < n0) (w : World) : Calls Try.prog 12 #[.slice a0 n0 c0, .int .i64 z] w fun e w' => e = .returned (.bool true) ∧ Below w.heap.size w w' := by
  go_enter Try.func12, Try.ntmps12
  go_wp2_with fail
  refine (awake3_ok _).mono ?_
  rintro e w0 ⟨rfl, hs0⟩
  go_wp2_with fail
  refine (awake3_ok _).mono ?_
  rintro e w1 ⟨rfl, hs1⟩
  go_wp2
  go_ret
  exact ⟨rfl, Same.below (hs0.trans hs1)⟩

set_option maxRecDepth 100000 in
set_option maxHeartbeats 2000000 in
theorem pruns_walk (a0 : Option Addr) (c0 : Nat) (l : List Acc) (most : Int) (hl : l.length ≤ 40) (w : World) (q0 : ArgA w (.slice a0 l.length c0) l) : Calls Try.prog 12 #[.slice a0 l.length c0, .int .i64 most] w fun e w' => e = .returned (.bool true) ∧ Below w.heap.size w w' := by
  obtain ⟨n, hn⟩ : ∃ n, n = l.length := ⟨_, rfl⟩
  obtain ⟨R, hR⟩ : ∃ R, R = runs 0 1 fresh8 l most.toNat := ⟨_, rfl⟩
  have HR := Lib.hid hR
  have Q0 := Lib.hid q0
  have hl' : n ≤ 40 := by omega
  rw [← hn] at Q0 ⊢
  have HN := Lib.hid hn
  clear q0 hl hn hR
  go_enter Try.func12, Try.ntmps12
  go_wp2_with fail
  refine (awake3_ok _).mono ?_
  rintro e w0 ⟨rfl, hs0⟩
  go_wp2_with fail
  refine (new_lit w0 [8] _ 1 rfl rfl (by decide) (by decide)).mono ?_
  rintro e w1 ⟨p, lo, hi, rfl, hm, hs, hlo', hhi⟩
  have hlo : w.heap.size ≤ lo := Nat.le_trans hs0.size hlo'
  have hsa : Same w w1 := hs0.trans hs
  replace hm : Mem lo hi w1 p fresh8 0 := hm
  have hle1 : hi ≤ w1.heap.size := hm.le
  clear hs hlo' hs0 hhi
  go_wp2_with fail
  refine (rnew8 (F := fun b => hi ≤ b) w1 (fun b hb => Nat.le_trans hle1 hb)).mono ?_
  rintro e w2 ⟨wa, wk, ea, ec, rfl, hrm, hs2⟩
  have hm2 := hm.same hs2
  have hsa2 : Same w w2 := hsa.trans hs2
  obtain ⟨b7, hb7⟩ : ∃ b, b = w2.heap.size := ⟨_, rfl⟩
  obtain ⟨W2, hW2⟩ : ∃ x, x = w2.alloc (.cells #[.slice wa 1 wk, .slice ea 1 ec, .int .i64 ((0 : Nat) : Int)] 51) := ⟨_, rfl⟩
  have hob7 : W2.heap[b7]? = some (.cells #[.slice wa 1 wk, .slice ea 1 ec, .int .i64 ((0 : Nat) : Int)] 51) := by rw [hW2, hb7]; exact heap_alloc_new _ _
  have hsW2 : Same w2 W2 := by rw [hW2]; exact Sep.alloc _ _ _
  have hrm2 := (hrm.imp (G := fun b => hi ≤ b ∧ b ≠ b7) (fun b hb hlt => ⟨hb, by omega⟩)).same hsW2
  have hmW2 := hm2.same hsW2
  have hsaW2 : Same w W2 := hsa2.trans hsW2
  have HB7 := Lib.hid hb7
  have HW2 := Lib.hid hW2
  have HOB7 := Lib.hid hob7
  have hb7i : hi ≤ b7 := by have := hm2.le; omega
  clear hm hsa hs2 hrm hm2 hsa2 hb7 hW2 hob7 hsW2
  rw [show ((0 : Nat) : Int) = 0 from rfl] at HW2 HOB7 hrm2 ⊢
  go_wp2_with fail
  rw [← HB7.out, ← HW2.out]
  refine (cap_any hmW2 0).mono ?_
  rintro e w3 ⟨rfl, hs3⟩
  rw [show capOf fresh8 0 = .agg #[.int .i64 0, .int .u64 1] from rfl]
  obtain ⟨b9, hb9⟩ : ∃ b, b = w3.heap.size := ⟨_, rfl⟩
  obtain ⟨wb, hwb⟩ : ∃ W, W = w3.alloc (.cells #[.int .i64 0, .int .u64 1] 33) := ⟨_, rfl⟩
  have hob9 : wb.heap[b9]? = some (.cells #[.int .i64 0, .int .u64 1] 33) := by rw [hwb, hb9]; exact heap_alloc_new _ _
  have hs5 : Same W2 wb := by rw [hwb]; exact hs3.thenAlloc _
  have hmB := hmW2.same hs5
  have hrmB := hrm2.same hs5
  have hsaB := hsaW2.trans hs5
  have HOB7B := Lib.hid (Same.obj hs5 HOB7.out)
  have n9 : ¬ (lo ≤ b9 ∧ b9 < hi) := by have := hs3.size; have := hmW2.le; omega
  obtain ⟨c0, c1, cf⟩ := cells2 hob9
  have HB9 := Lib.hid hb9
  have HWB := Lib.hid hwb
  have HOB9 := Lib.hid hob9
  have hle := hmB.le
  clear hb9 hwb hob9 hs5 hs3 hmW2 hrm2 hsaW2 cf
  go_upto_region 8 with fail
  rw [← HB9.out, ← HWB.out]
  refine wp_region_held_drew (S := (fun v => v.cell? ⟨b9, 0, none⟩ = some (.int .i64 0) ∧ v.cell? ⟨b9, 1, none⟩ = some (.int .u64 1))) (by kernel_rfl) ?_ (fun hHeld => ?_)
  · exact ⟨(Sep.drew (fun _ => False) wb).cell c0 (fun x => x), (Sep.drew (fun _ => False) wb).cell c1 (fun x => x)⟩
  change wpAnyH _ _ _ _ _ 13 _ _ _
  refine wpAnyH_take (i := 0) (oi := ⟨some 43, _, _, _, _, _⟩) (v := ?v1) rfl (by kernel_rfl) (by kernel_rfl) (by kernel_rfl) (fun _ _ _ h => h) (Or.inl ⟨by kernel_rfl, ?h1⟩) hHeld ?_
  case h1 => intro w hSw; (try dsimp only at hSw); go_simp; try with_reducible rfl
  try simp only [Act.put, List.setIfInBounds_toArray, List.set_cons_zero, List.set_cons_succ]
  refine wpAnyH_take (i := 2) (oi := ⟨some 45, _, _, _, _, _⟩) (v := ?v2) rfl (by kernel_rfl) (by kernel_rfl) (by kernel_rfl) (fun _ _ _ h => h) (Or.inl ⟨by kernel_rfl, ?h2⟩) hHeld ?_
  case h2 => intro w hSw; (try dsimp only at hSw); go_simp; try with_reducible rfl
  try simp only [Act.put, List.setIfInBounds_toArray, List.set_cons_zero, List.set_cons_succ]
  refine wpAnyH_take (i := 3) (oi := ⟨some 46, _, _, _, _, _⟩) (v := ?v3) rfl (by kernel_rfl) (by kernel_rfl) (by kernel_rfl) (fun _ _ _ h => h) (Or.inl ⟨by kernel_rfl, ?h3⟩) hHeld ?_
  case h3 => intro w hSw; (try dsimp only at hSw); go_simp; try with_reducible rfl
  try simp only [Act.put, List.setIfInBounds_toArray, List.set_cons_zero, List.set_cons_succ]
  refine wpAnyH_take (i := 4) (oi := ⟨some 47, _, _, _, _, _⟩) (v := ?v4) rfl (by kernel_rfl) (by kernel_rfl) (by kernel_rfl) (fun _ _ _ h => h) (Or.inl ⟨by kernel_rfl, ?h4⟩) hHeld ?_
  case h4 => intro w hSw; (try dsimp only at hSw); go_simp; try with_reducible rfl
  try simp only [Act.put, List.setIfInBounds_toArray, List.set_cons_zero, List.set_cons_succ]
  refine wpAnyH_ready (rs := [1]) (by kernel_rfl) (by simp) ?_
  refine AllReadyH.cons (o := ⟨some 44, _, _, _, _, _⟩) rfl (fun K hK => ?_) AllReadyH.nil
  rw [if_pos (by kernel_rfl)]
  go_simp
  refine (list_arg (F := fun b => wb.heap.size ≤ b) (Q0.out.same (hsaB.trans (Sep.drew _ _))) (by have := HN.out; omega) (fun b hb => hb)).mono ?_
  rintro e wL ⟨vL, rfl, hlpL, hsL⟩
  have hL : Same wb wL := (Sep.drew (fun _ => False) wb).trans hsL
  refine hK.out _ _ ?_ (fun hHeld => ?_)
  · exact ⟨Same.cell hL c0, Same.cell hL c1⟩
  clear hK K
  try simp only [Act.put, List.setIfInBounds_toArray, List.set_cons_zero, List.set_cons_succ]
  refine wpAnyH_ready (rs := [5]) (by kernel_rfl) (by simp) ?_
  refine AllReadyH.cons (o := ⟨some 48, _, _, _, _, _⟩) rfl (fun K hK => ?_) AllReadyH.nil
  rw [if_pos (by kernel_rfl)]
  go_simp
  refine (run_any (hmB.same hL) hlpL 0 1 most (by have := HN.out; omega) (by have := HN.out; simp; omega) (fun b hb => by have := hL.size; omega) (fun b hb => by omega)).mono ?_
  rw [← HR.out]
  rintro e wR ⟨rv, rfl, hrv, hmR, hinR⟩
  have hiR : In lo hi wb wR := (Same.sep hL _).trans hinR
  refine hK.out _ _ ?_ (fun hHeld => ?_)
  · exact ⟨Sep.cell hiR c0 n9, Sep.cell hiR c1 n9⟩
  clear hK K
  try simp only [Act.put, List.setIfInBounds_toArray, List.set_cons_zero, List.set_cons_succ]
  refine wpAnyH_take (i := 6) (oi := ⟨some 42, _, _, _, _, _⟩) (v := ?v7) rfl (by kernel_rfl) (by kernel_rfl) (by kernel_rfl) (fun _ _ _ h => h) (Or.inl ⟨by kernel_rfl, ?h7⟩) hHeld ?_
  case h7 => intro w hSw; (try dsimp only at hSw); go_simp; try with_reducible rfl
  try simp only [Act.put, List.setIfInBounds_toArray, List.set_cons_zero, List.set_cons_succ]
  refine wpAnyH_take (i := 7) (oi := ⟨some 49, _, _, _, _, _⟩) (v := ?v8) rfl (by kernel_rfl) (by kernel_rfl) (by kernel_rfl) (fun _ _ _ h => h) (Or.inl ⟨by kernel_rfl, ?h8⟩) hHeld ?_
  case h8 => intro w hSw; (try dsimp only at hSw); go_simp; try with_reducible rfl
  try simp only [Act.put, List.setIfInBounds_toArray, List.set_cons_zero, List.set_cons_succ]
  refine wpAnyH_take (i := 8) (oi := ⟨some 50, _, _, _, _, _⟩) (v := ?v9) rfl (by kernel_rfl) (by kernel_rfl) (by kernel_rfl) (fun _ _ _ h => h) (Or.inl ⟨by kernel_rfl, ?h9⟩) hHeld ?_
  case h9 => intro w hSw; (try dsimp only at hSw); go_simp; try with_reducible rfl
  try simp only [Act.put, List.setIfInBounds_toArray, List.set_cons_zero, List.set_cons_succ]
  refine wpAnyH_take (i := 9) (oi := ⟨some 51, _, _, _, _, _⟩) (v := ?v10) rfl (by kernel_rfl) (by kernel_rfl) (by kernel_rfl) (fun _ _ _ h => h) (Or.inl ⟨by kernel_rfl, ?h10⟩) hHeld ?_
  case h10 => intro w hSw; (try dsimp only at hSw); go_simp; try with_reducible rfl
  try simp only [Act.put, List.setIfInBounds_toArray, List.set_cons_zero, List.set_cons_succ]
  refine wpAnyH_take (i := 10) (oi := ⟨some 10, _, _, _, _, _⟩) (v := ?v11) rfl (by kernel_rfl) (by kernel_rfl) (by kernel_rfl) (fun _ _ _ h => h) (Or.inl ⟨by kernel_rfl, ?h11⟩) hHeld ?_
  case h11 => intro w hSw; (try dsimp only at hSw); go_simp; try with_reducible rfl
  try simp only [Act.put, List.setIfInBounds_toArray, List.set_cons_zero, List.set_cons_succ]
  refine wpAnyH_take (i := 11) (oi := ⟨some 11, _, _, _, _, _⟩) (v := ?v12) rfl (by kernel_rfl) (by kernel_rfl) (by kernel_rfl) (fun _ _ _ h => h) (Or.inl ⟨by kernel_rfl, ?h12⟩) hHeld ?_
  case h12 => intro w hSw; (try dsimp only at hSw); go_simp; try with_reducible rfl
  try simp only [Act.put, List.setIfInBounds_toArray, List.set_cons_zero, List.set_cons_succ]
  refine wpAnyH_take (i := 12) (oi := ⟨some 12, _, _, _, _, _⟩) (v := ?v13) rfl (by kernel_rfl) (by kernel_rfl) (by kernel_rfl) (fun _ _ _ h => h) (Or.inl ⟨by kernel_rfl, ?h13⟩) hHeld ?_
  case h13 => intro w hSw; (try dsimp only at hSw); go_simp; try with_reducible rfl
  try simp only [Act.put, List.setIfInBounds_toArray, List.set_cons_zero, List.set_cons_succ]
  refine wpAnyH_done (by kernel_rfl) ?_ _
  have hrmR := hrmB.stay hiR (fun b hb _ => by omega)
  have hob7R := Lib.hid (Sep.obj hiR HOB7B.out (by omega))
  have hinw : In lo hi w wR := (Same.sep hsaB _).trans hiR
  have qR := Q0.out.stay hinw (fun b hb => by omega)
  have hleR : hi ≤ wR.heap.size := hmR.le
  obtain ⟨x0, x1, x2, xf⟩ := cells3x hob7R.out
  have hRR := ref_run (F := fun b => hi ≤ b ∧ b ≠ b7) qR HN.out (by have := HN.out; omega) hrmR (fun b hb => ⟨by omega, by have := lt_of_block hob7R.out; omega⟩) ⟨by decide, fun i hi => by
    have : i = 0 := by simpa [fresh8] using hi
    subst this
    decide⟩ (by decide) 0 1 most
  rw [← HR.out] at hRR
  have HRR := Lib.hid hRR
  obtain ⟨rl, hrl⟩ : ∃ k, k = R.2.1.length := ⟨_, rfl⟩
  obtain ⟨ov, hov⟩ : ∃ b, b = R.2.2.isEmpty := ⟨_, rfl⟩
  rw [← hov] at hrv
  rw [← hrl, ← hov]
  rw [← hrl, Nat.zero_add] at hmR
  have hlens : rl + R.2.2.length = n := by
    have h := (@runs_len 0 1 fresh8 l most.toNat).1
    rw [← HR.out] at h
    rw [hrl, HN.out]
    exact h
  have hovn : ov = decide (rl = n) := by
    rw [hov]
    cases hh : R.2.2 with
    | nil => simp [hh] at hlens; simp [hlens]
    | cons A q => simp [hh] at hlens; simp; omega
  have HRL := Lib.hid hrl
  have HOVN := Lib.hid hovn
  have hrl1 : rl ≤ n := by omega
  obtain ⟨y0, y1⟩ := hHeld
  clear hL hsL hlpL hinR hiR hrmB hmB hsaB hrmR qR hRR hrl hov hlens hovn
  go_wp2_with fail
  refine HRR.out.mono ?_
  rintro e wU ⟨u, v, rfl, hsu, hru, hsU⟩
  obtain ⟨ua, uc, rfl⟩ := hsu.form
  obtain ⟨xa, xc, ya, yc, rfl⟩ := hru.form
  obtain ⟨nL, hnL⟩ : ∃ k, k = R.1.length := ⟨_, rfl⟩
  rw [← HRL.out] at hsu hru ⊢
  rw [← hnL] at hru ⊢
  rw [Nat.zero_add] at hru ⊢
  obtain ⟨b14, hb14⟩ : ∃ b, b = wU.heap.size := ⟨_, rfl⟩
  obtain ⟨wV, hwV⟩ : ∃ W, W = wU.alloc (.cells #[.slice xa nL xc, .slice ya nL yc, .int .i64 (rl : Int)] 51) := ⟨_, rfl⟩
  have hob14 : wV.heap[b14]? = some (.cells #[.slice xa nL xc, .slice ya nL yc, .int .i64 (rl : Int)] 51) := by rw [hwV, hb14]; exact heap_alloc_new _ _
  have hsV : Same wR wV := by rw [hwV]; exact hsU.thenAlloc _
  have hmV := hmR.same hsV
  have hruV := hru.same (show Same wU wV by rw [hwV]; exact Sep.alloc _ _ _)
  have hsuV := Slc.same hsu (show Same wU wV by rw [hwV]; exact Sep.alloc _ _ _)
  have belV : Below w.heap.size w wV := (In.below hinw hlo (Nat.le_refl _)).trans (hsV.below.mono hinw.size)
  have HB14 := Lib.hid hb14
  have HWV := Lib.hid hwV
  have HOB14 := Lib.hid hob14
  have HNL := Lib.hid hnL
  have HRU := Lib.hid hruV
  have HSU := Lib.hid hsuV
  have HRV : Hid (if ov = true then SlcU (fun b => wb.heap.size ≤ b) wV rv ([] ++ R.2.1) else rv = .slice none 0 0) := by
    show if ov = true then _ else _
    split
    · rename_i h
      rw [if_pos h] at hrv
      exact Slc.same hrv hsV
    · rename_i h
      rw [if_neg h] at hrv
      exact hrv
  clear hb14 hwV hob14 hnL hruV hsuV hru hsu hsU hsV hmR hinw y0 y1 x0 x1 x2 xf hrv
  have hpart : (ov = true ∧ rl = n ∧ SlcU (fun b => wb.heap.size ≤ b) wV rv R.2.1) ∨ (ov = false ∧ rl ≠ n ∧ rv = .slice none 0 0) := by
    have h1 := HOVN.out
    have h2 := HRV.out
    cases ov with
    | true =>
      rw [if_pos rfl, List.nil_append] at h2
      exact .inl ⟨rfl, of_decide_eq_true h1.symm, h2⟩
    | false =>
      rw [if_neg (by decide)] at h2
      exact .inr ⟨rfl, of_decide_eq_false h1.symm, h2⟩
  rcases hpart with ⟨hot, hrn, hrs⟩ | ⟨hof, hrn, rfl⟩
  · subst hot
    obtain ⟨ra, rk, rfl⟩ := Slc.form hrs
    rw [← HRL.out] at hrs ⊢
    have e1 : ((rl : Int) == (n : Int)) = true := by simp [hrn]
    have e2 : (rl == n) = true := by simp [hrn]
    have HRS := Lib.hid hrs
    have HLE : Hid (R.2.1.length ≤ 1000000) := Lib.hid (by rw [← HRL.out]; omega)
    clear hrs hrn
    go_wp2_with fail
    rw [← HB14.out, ← HWV.out]
    refine (count_any hmV).mono ?_
    rintro e wW ⟨rfl, rfl⟩
    go_wp2_with fail
    refine (same_yes HRS.out HSU.out HLE.out).mono ?_
    rintro e wX ⟨rfl, hsX⟩
    have HSX := Lib.hid hsX
    have HMV := Lib.hid hmV
    clear hsX hmV
    go_wp2
    go_loopw [15] (fun i wr => ∃ j : Nat, j ≤ 8 ∧ i = .int .i64 j ∧ Same wV wr) (fun i _ => 8 - (intOf i).toNat)
    case atStart => exact ⟨0, by omega, rfl, HSX.out⟩
    case round =>
      obtain ⟨j, hj, rfl, hsL⟩ := hrel
      by_cases hlt : j < 8
      · have hmL := HMV.out.same hsL
        have hruL := HRU.out.same hsL
        obtain ⟨z0, z1, z2, zf⟩ := cells3x (Same.obj hsL HOB14.out)
        have HSL := Lib.hid hsL
        clear hsL zf
        go_wp2
        refine wp_region_held_drew (S := (fun v => v.cell? ⟨b14, 0, none⟩ = some (.slice xa nL xc) ∧ v.cell? ⟨b14, 1, none⟩ = some (.slice ya nL yc) ∧ v.cell? ⟨b14, 2, none⟩ = some (.int .i64 (rl : Int)) ∧ Same wr v)) (by kernel_rfl) ?_ (fun hHeld => ?_)
        · exact ⟨(Sep.drew (fun _ => False) wr).cell z0 (fun x => x), (Sep.drew (fun _ => False) wr).cell z1 (fun x => x), (Sep.drew (fun _ => False) wr).cell z2 (fun x => x), Sep.drew _ _⟩
        change wpAnyH _ _ _ _ _ 7 _ _ _
        refine wpAnyH_take (i := 0) (oi := ⟨some 100, _, _, _, _, _⟩) (v := ?v14) rfl (by kernel_rfl) (by kernel_rfl) (by kernel_rfl) (fun _ _ _ h => h) (Or.inl ⟨by kernel_rfl, ?h14⟩) hHeld ?_
        case h14 => intro w hSw; (try dsimp only at hSw); go_simp; try with_reducible rfl
        try simp only [Act.put, List.setIfInBounds_toArray, List.set_cons_zero, List.set_cons_succ]
        refine wpAnyH_take (i := 1) (oi := ⟨some 101, _, _, _, _, _⟩) (v := ?v15) rfl (by kernel_rfl) (by kernel_rfl) (by kernel_rfl) (fun _ _ _ h => h) (Or.inl ⟨by kernel_rfl, ?h15⟩) hHeld ?_
        case h15 => intro w hSw; (try dsimp only at hSw); go_simp; try with_reducible rfl
        try simp only [Act.put, List.setIfInBounds_toArray, List.set_cons_zero, List.set_cons_succ]
        refine wpAnyH_take (i := 3) (oi := ⟨some 103, _, _, _, _, _⟩) (v := ?v16) rfl (by kernel_rfl) (by kernel_rfl) (by kernel_rfl) (fun _ _ _ h => h) (Or.inl ⟨by kernel_rfl, ?h16⟩) hHeld ?_
        case h16 => intro w hSw; (try dsimp only at hSw); go_simp; try with_reducible rfl
        try simp only [Act.put, List.setIfInBounds_toArray, List.set_cons_zero, List.set_cons_succ]
        refine wpAnyH_take (i := 4) (oi := ⟨some 104, _, _, _, _, _⟩) (v := ?v17) rfl (by kernel_rfl) (by kernel_rfl) (by kernel_rfl) (fun _ _ _ h => h) (Or.inl ⟨by kernel_rfl, ?h17⟩) hHeld ?_
        case h17 => intro w hSw; (try dsimp only at hSw); go_simp; try with_reducible rfl
        try simp only [Act.put, List.setIfInBounds_toArray, List.set_cons_zero, List.set_cons_succ]
        refine wpAnyH_ready (rs := [2]) (by kernel_rfl) (by simp) ?_
        refine AllReadyH.cons (o := ⟨some 102, _, _, _, _, _⟩) rfl (fun K hK => ?_) AllReadyH.nil
        rw [if_pos (by kernel_rfl)]
        go_simp
        refine (peek_any (hmL.same hHeld.2.2.2) 0 j).mono ?_
        rintro e wP ⟨rfl, rfl⟩
        refine hK.out _ _ ?_ (fun hHeld => ?_)
        · exact hHeld
        clear hK K
        try simp only [Act.put, List.setIfInBounds_toArray, List.set_cons_zero, List.set_cons_succ]
        refine wpAnyH_ready (rs := [5]) (by kernel_rfl) (by simp) ?_
        refine AllReadyH.cons (o := ⟨some 105, _, _, _, _, _⟩) rfl (fun K hK => ?_) AllReadyH.nil
        rw [if_pos (by kernel_rfl)]
        go_simp
        refine (rpeek (hruL.same hHeld.2.2.2) 0 j).mono ?_
        rintro e wQ ⟨rfl, hsQ⟩
        refine hK.out _ _ ?_ (fun hHeld => ?_)
        · exact ⟨Same.cell hsQ hHeld.1, Same.cell hsQ hHeld.2.1, Same.cell hsQ hHeld.2.2.1, Sep.trans hHeld.2.2.2 hsQ⟩
        clear hK K
        try simp only [Act.put, List.setIfInBounds_toArray, List.set_cons_zero, List.set_cons_succ]
        refine wpAnyH_take (i := 6) (oi := ⟨some 106, _, _, _, _, _⟩) (v := ?v20) rfl (by kernel_rfl) (by kernel_rfl) (by kernel_rfl) (fun _ _ _ h => h) (Or.inl ⟨by kernel_rfl, ?h20⟩) hHeld ?_
        case h20 => intro w hSw; (try dsimp only at hSw); go_simp; try with_reducible rfl
        try simp only [Act.put, List.setIfInBounds_toArray, List.set_cons_zero, List.set_cons_succ]
        refine wpAnyH_done (by kernel_rfl) ?_ _
        have hs' := Sep.trans HSL.out hHeld.2.2.2
        clear hHeld hmL hruL z0 z1 z2
        go_wp2
        go_roundw
        case rel => exact ⟨j + 1, by omega, by go_num, hs'⟩
        case measure => simp [intOf]; omega
      · have hbe := below_same belV hsL belV.size
        go_wp2
        go_ret
        exact ⟨rfl, hbe⟩
  · subst hof
    have e1 : ((rl : Int) == (n : Int)) = false := by simp; omega
    have e2 : (rl == n) = false := by simp [hrn]
    clear hrn
    go_wp2_with fail
    rw [← HB14.out, ← HWV.out]
    refine (count_any hmV).mono ?_
    rintro e wW ⟨rfl, rfl⟩
    obtain ⟨wX, hsX, hwX⟩ : ∃ x, Same wV x ∧ x = wV := ⟨wV, Sep.refl _ _, rfl⟩
    rw [← hwX]
    clear hwX
    have HSX := Lib.hid hsX
    have HMV := Lib.hid hmV
    clear hsX hmV
    go_wp2
    go_loopw [15] (fun i wr => ∃ j : Nat, j ≤ 8 ∧ i = .int .i64 j ∧ Same wV wr) (fun i _ => 8 - (intOf i).toNat)
    case atStart => exact ⟨0, by omega, rfl, HSX.out⟩
    case round =>
      obtain ⟨j, hj, rfl, hsL⟩ := hrel
      by_cases hlt : j < 8
      · have hmL := HMV.out.same hsL
        have hruL := HRU.out.same hsL
        obtain ⟨z0, z1, z2, zf⟩ := cells3x (Same.obj hsL HOB14.out)
        have HSL := Lib.hid hsL
        clear hsL zf
        go_wp2
        refine wp_region_held_drew (S := (fun v => v.cell? ⟨b14, 0, none⟩ = some (.slice xa nL xc) ∧ v.cell? ⟨b14, 1, none⟩ = some (.slice ya nL yc) ∧ v.cell? ⟨b14, 2, none⟩ = some (.int .i64 (rl : Int)) ∧ Same wr v)) (by kernel_rfl) ?_ (fun hHeld => ?_)
        · exact ⟨(Sep.drew (fun _ => False) wr).cell z0 (fun x => x), (Sep.drew (fun _ => False) wr).cell z1 (fun x => x), (Sep.drew (fun _ => False) wr).cell z2 (fun x => x), Sep.drew _ _⟩
        change wpAnyH _ _ _ _ _ 7 _ _ _
        refine wpAnyH_take (i := 0) (oi := ⟨some 100, _, _, _, _, _⟩) (v := ?v21) rfl (by kernel_rfl) (by kernel_rfl) (by kernel_rfl) (fun _ _ _ h => h) (Or.inl ⟨by kernel_rfl, ?h21⟩) hHeld ?_
        case h21 => intro w hSw; (try dsimp only at hSw); go_simp; try with_reducible rfl
        try simp only [Act.put, List.setIfInBounds_toArray, List.set_cons_zero, List.set_cons_succ]
        refine wpAnyH_take (i := 1) (oi := ⟨some 101, _, _, _, _, _⟩) (v := ?v22) rfl (by kernel_rfl) (by kernel_rfl) (by kernel_rfl) (fun _ _ _ h => h) (Or.inl ⟨by kernel_rfl, ?h22⟩) hHeld ?_
        case h22 => intro w hSw; (try dsimp only at hSw); go_simp; try with_reducible rfl
        try simp only [Act.put, List.setIfInBounds_toArray, List.set_cons_zero, List.set_cons_succ]
        refine wpAnyH_take (i := 3) (oi := ⟨some 103, _, _, _, _, _⟩) (v := ?v23) rfl (by kernel_rfl) (by kernel_rfl) (by kernel_rfl) (fun _ _ _ h => h) (Or.inl ⟨by kernel_rfl, ?h23⟩) hHeld ?_
        case h23 => intro w hSw; (try dsimp only at hSw); go_simp; try with_reducible rfl
        try simp only [Act.put, List.setIfInBounds_toArray, List.set_cons_zero, List.set_cons_succ]
        refine wpAnyH_take (i := 4) (oi := ⟨some 104, _, _, _, _, _⟩) (v := ?v24) rfl (by kernel_rfl) (by kernel_rfl) (by kernel_rfl) (fun _ _ _ h => h) (Or.inl ⟨by kernel_rfl, ?h24⟩) hHeld ?_
        case h24 => intro w hSw; (try dsimp only at hSw); go_simp; try with_reducible rfl
        try simp only [Act.put, List.setIfInBounds_toArray, List.set_cons_zero, List.set_cons_succ]
        refine wpAnyH_ready (rs := [2]) (by kernel_rfl) (by simp) ?_
        refine AllReadyH.cons (o := ⟨some 102, _, _, _, _, _⟩) rfl (fun K hK => ?_) AllReadyH.nil
        rw [if_pos (by kernel_rfl)]
        go_simp
        refine (peek_any (hmL.same hHeld.2.2.2) 0 j).mono ?_
        rintro e wP ⟨rfl, rfl⟩
        refine hK.out _ _ ?_ (fun hHeld => ?_)
        · exact hHeld
        clear hK K
        try simp only [Act.put, List.setIfInBounds_toArray, List.set_cons_zero, List.set_cons_succ]
        refine wpAnyH_ready (rs := [5]) (by kernel_rfl) (by simp) ?_
        refine AllReadyH.cons (o := ⟨some 105, _, _, _, _, _⟩) rfl (fun K hK => ?_) AllReadyH.nil
        rw [if_pos (by kernel_rfl)]
        go_simp
        refine (rpeek (hruL.same hHeld.2.2.2) 0 j).mono ?_
        rintro e wQ ⟨rfl, hsQ⟩
        refine hK.out _ _ ?_ (fun hHeld => ?_)
        · exact ⟨Same.cell hsQ hHeld.1, Same.cell hsQ hHeld.2.1, Same.cell hsQ hHeld.2.2.1, Sep.trans hHeld.2.2.2 hsQ⟩
        clear hK K
        try simp only [Act.put, List.setIfInBounds_toArray, List.set_cons_zero, List.set_cons_succ]
        refine wpAnyH_take (i := 6) (oi := ⟨some 106, _, _, _, _, _⟩) (v := ?v27) rfl (by kernel_rfl) (by kernel_rfl) (by kernel_rfl) (fun _ _ _ h => h) (Or.inl ⟨by kernel_rfl, ?h27⟩) hHeld ?_
        case h27 => intro w hSw; (try dsimp only at hSw); go_simp; try with_reducible rfl
        try simp only [Act.put, List.setIfInBounds_toArray, List.set_cons_zero, List.set_cons_succ]
        refine wpAnyH_done (by kernel_rfl) ?_ _
        have hs' := Sep.trans HSL.out hHeld.2.2.2
        clear hHeld hmL hruL z0 z1 z2
        go_wp2
        go_roundw
        case rel => exact ⟨j + 1, by omega, by go_num, hs'⟩
        case measure => simp [intOf]; omega
      · have hbe := below_same belV hsL belV.size
        go_wp2
        go_ret
        exact ⟨rfl, hbe⟩

end Go.Proofs.Ytiljledgoflogaa
