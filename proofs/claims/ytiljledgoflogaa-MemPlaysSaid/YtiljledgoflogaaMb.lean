/- MemPlays: a memory and the reference's of the same words answer alike. -/
import Derived.Test.YtiljledgoflogaaPa
import Derived.Deep.CutBlock
import Derived.Deep.CutRange
namespace Go.Proofs.Ytiljledgoflogaa
open Go.RowKit
set_option linter.unusedSimpArgs false
set_option linter.unusedVariables false

theorem peekOf_no {L : List Reg} {i j : Int} (h : (L.length : Int) ≤ i) : peekOf L i j = 0 := if_neg (by omega)
/-- A read-only call, in worlds that drew. -/
theorem quietly {f : FuncId} {args : Array Value} {w : World} {v : Value} (h : ∀ m, Calls Try.prog f args (w.drewN m) fun e w' => e = .returned v ∧ w.drewN m = w') : ∀ m, Calls Try.prog f args (w.drewN m) fun e w'' => e = .returned v ∧ ∃ q, w'' = w.drewN q :=
  fun m => (h m).mono fun e w' ⟨he, hw⟩ => ⟨he, m, hw.symm⟩

set_option maxRecDepth 100000 in
set_option maxHeartbeats 4000000 in
theorem same33 {F : Nat → Prop} {lo hi p cnt : Nat} {w : World} {v : Value} {L : List Reg} (hm : Mem lo hi w p L cnt) (hrm : RM F w v L cnt) (hl1 : L.length ≤ 1000) (hD : ∀ i, i < L.length → (L.getD i default).ws.length ≤ 1000000) : Calls Try.prog 33 #[.pointer (some ⟨p, 0, none⟩), v] w fun e w' => e = .returned (.bool true) ∧ Same w w' := by
  obtain ⟨wa, wk, ea, ec, rfl⟩ := hrm.form
  obtain ⟨n, hn⟩ : ∃ n, n = L.length := ⟨_, rfl⟩
  rw [← hn] at hrm ⊢
  obtain ⟨W, hW⟩ : ∃ W, W = w.alloc (.cells #[.slice wa n wk, .slice ea n ec, .int .i64 (cnt : Int)] 51) := ⟨_, rfl⟩
  obtain ⟨b3, hb3⟩ : ∃ b, b = w.heap.size := ⟨_, rfl⟩
  have ob3 : W.heap[b3]? = some (.cells #[.slice wa n wk, .slice ea n ec, .int .i64 (cnt : Int)] 51) := by rw [hW, hb3]; exact heap_alloc_new _ _
  have hs0 : Same w W := by rw [hW]; exact Sep.alloc _ _ _
  have hm0 := hm.same hs0
  have hrm0 := hrm.same hs0
  obtain ⟨m0, m1, m2, mf⟩ := cells3x ob3
  have HR0 := Lib.hid (quietly (f := 62) (w := W) (v := .int .i64 n) (fun m => by rw [hn]; exact regions_any (hm0.same (Sep.drewN (fun _ => False) W m))))
  have HC0 := Lib.hid (quietly (f := 27) (w := W) (v := .int .i64 cnt) (fun m => count_any (hm0.same (Sep.drewN (fun _ => False) W m))))
  have HW := Lib.hid hW
  have HB3 := Lib.hid hb3
  have OB3 := Lib.hid ob3
  have HS0 := Lib.hid hs0
  have HM := Lib.hid hm0
  have HRM := Lib.hid hrm0
  have hn1000 : n ≤ 1000 := by omega
  have HN := Lib.hid hn
  have HD := Lib.hid hD
  clear hD hn hW hb3 ob3 hs0 hm0 hrm0 hm hrm mf
  go_enter Try.func33, Try.ntmps33
  go_upto_region 1 with fail
  rw [← HB3.out, ← HW.out]
  go_quiet (first | exact HR0.out _ | exact HC0.out _)
  go_wp2
  go_loopw [5] (fun i wr => ∃ k : Nat, k ≤ n ∧ i = .int .i64 k ∧ Same W wr) (fun i _ => n - (intOf i).toNat)
  case atStart => exact ⟨0, by omega, rfl, Sep.drewN _ _ _⟩
  case round =>
    obtain ⟨k, hk, rfl, hsL⟩ := hrel
    clear HR0 HC0 m0 m1 m2
    obtain ⟨m0, m1, m2, mf⟩ := cells3x (Same.obj hsL OB3.out)
    by_cases hlt : k < n
    · have hkL : k < L.length := by rw [← HN.out]; exact hlt
      obtain ⟨wb, wo, eb, eo, ra, rc, rfl, rfl, hnn, _, _, hcw0, hce, hsl⟩ := HRM.out.at hkL
      clear hnn
      obtain ⟨rl, hrl⟩ : ∃ x, x = (L.getD k default).ws.length := ⟨_, rfl⟩
      obtain ⟨ep, hep⟩ : ∃ x, x = (((L.getD k default).ep : Nat) : Int) := ⟨_, rfl⟩
      have hrl1 : rl ≤ 1000000 := by rw [hrl]; exact HD.out k hkL
      rw [← hrl] at hcw0
      have HCW0 := Lib.hid hcw0
      have hcw := Same.cell hsL hcw0
      have hsize : Hid ((sizeOf L k : Int) = rl) := by show _ = _; rw [sizeOf_at hkL, hrl]
      have hcap : Hid (capOf L (k : Int) = .agg #[.int .i64 (k : Int), .int .u64 ep]) := by show _ = _; rw [capOf_at hkL, hep]
      have HSL := Lib.hid hsL
      clear hsL hsl hrl hep mf hce hkL hcw0
      go_upto_region 6 with fail
      go_cut [45] from 20 to 64 (fun s45 wx => s45 = .bool false ∧ Same W wx)
      case first =>
        refine wp_region_held_drew (S := (fun v => v.cell? ⟨b3, 0, none⟩ = some (.slice (some ⟨wb, wo, none⟩) n wk) ∧ v.cell? ⟨b3, 1, none⟩ = some (.slice (some ⟨eb, eo, none⟩) n ec) ∧ v.cell? ⟨b3, 2, none⟩ = some (.int .i64 (cnt : Int)) ∧ v.cell? ⟨wb, wo + k, none⟩ = some (.slice ra rl rc) ∧ Same wr v)) (by kernel_rfl) ?_ (fun hHeld => ?_)
        · exact ⟨(Sep.drew (fun _ => False) wr).cell m0 (fun x => x), (Sep.drew (fun _ => False) wr).cell m1 (fun x => x), (Sep.drew (fun _ => False) wr).cell m2 (fun x => x), (Sep.drew (fun _ => False) wr).cell hcw (fun x => x), Sep.drew _ _⟩
        change wpAnyH _ _ _ _ _ 19 _ _ _
        refine wpAnyH_take (i := 0) (oi := ⟨some 27, _, _, _, _, _⟩) (v := ?v1) rfl (by kernel_rfl) (by kernel_rfl) (by kernel_rfl) (fun _ _ _ h => h) (Or.inl ⟨by kernel_rfl, ?h1⟩) hHeld ?_
        case h1 => intro w hSw; (try dsimp only at hSw); go_simp; try with_reducible rfl
        try simp only [Act.put, List.setIfInBounds_toArray, List.set_cons_zero, List.set_cons_succ]
        refine wpAnyH_take (i := 1) (oi := ⟨some 28, _, _, _, _, _⟩) (v := ?v2) rfl (by kernel_rfl) (by kernel_rfl) (by kernel_rfl) (fun _ _ _ h => h) (Or.inl ⟨by kernel_rfl, ?h2⟩) hHeld ?_
        case h2 => intro w hSw; (try dsimp only at hSw); go_simp; try with_reducible rfl
        try simp only [Act.put, List.setIfInBounds_toArray, List.set_cons_zero, List.set_cons_succ]
        refine wpAnyH_take (i := 3) (oi := ⟨some 30, _, _, _, _, _⟩) (v := ?v3) rfl (by kernel_rfl) (by kernel_rfl) (by kernel_rfl) (fun _ _ _ h => h) (Or.inl ⟨by kernel_rfl, ?h3⟩) hHeld ?_
        case h3 => intro w hSw; (try dsimp only at hSw); go_simp; try with_reducible rfl
        try simp only [Act.put, List.setIfInBounds_toArray, List.set_cons_zero, List.set_cons_succ]
        refine wpAnyH_take (i := 4) (oi := ⟨some 31, _, _, _, _, _⟩) (v := ?v4) rfl (by kernel_rfl) (by kernel_rfl) (by kernel_rfl) (fun _ _ _ h => h) (Or.inl ⟨by kernel_rfl, ?h4⟩) hHeld ?_
        case h4 => intro w hSw; (try dsimp only at hSw); go_simp; try with_reducible rfl
        try simp only [Act.put, List.setIfInBounds_toArray, List.set_cons_zero, List.set_cons_succ]
        refine wpAnyH_take (i := 5) (oi := ⟨some 32, _, _, _, _, _⟩) (v := ?v5) rfl (by kernel_rfl) (by kernel_rfl) (by kernel_rfl) (fun _ _ _ h => h) (Or.inl ⟨by kernel_rfl, ?h5⟩) hHeld ?_
        case h5 => intro w hSw; (try dsimp only at hSw); go_simp; try with_reducible rfl
        try simp only [Act.put, List.setIfInBounds_toArray, List.set_cons_zero, List.set_cons_succ]
        refine wpAnyH_take (i := 6) (oi := ⟨some 33, _, _, _, _, _⟩) (v := ?v6) rfl (by kernel_rfl) (by kernel_rfl) (by kernel_rfl) (fun _ _ _ h => h) (Or.inl ⟨by kernel_rfl, ?h6⟩) hHeld ?_
        case h6 => intro w hSw; (try dsimp only at hSw); go_simp; try with_reducible rfl
        try simp only [Act.put, List.setIfInBounds_toArray, List.set_cons_zero, List.set_cons_succ]
        refine wpAnyH_take (i := 7) (oi := ⟨some 34, _, _, _, _, _⟩) (v := ?v7) rfl (by kernel_rfl) (by kernel_rfl) (by kernel_rfl) (fun _ _ _ h => h) (Or.inl ⟨by kernel_rfl, ?h7⟩) hHeld ?_
        case h7 => intro w hSw; (try dsimp only at hSw); go_simp; try with_reducible rfl
        try simp only [Act.put, List.setIfInBounds_toArray, List.set_cons_zero, List.set_cons_succ]
        refine wpAnyH_take (i := 8) (oi := ⟨some 35, _, _, _, _, _⟩) (v := ?v8) rfl (by kernel_rfl) (by kernel_rfl) (by kernel_rfl) (fun _ _ _ h => h) (Or.inl ⟨by kernel_rfl, ?h8⟩) hHeld ?_
        case h8 => intro w hSw; (try dsimp only at hSw); go_simp; try with_reducible rfl
        try simp only [Act.put, List.setIfInBounds_toArray, List.set_cons_zero, List.set_cons_succ]
        refine wpAnyH_ready (rs := [2]) (by kernel_rfl) (by simp) ?_
        refine AllReadyH.cons (o := ⟨some 29, _, _, _, _, _⟩) rfl (fun K hK => ?_) AllReadyH.nil
        rw [if_pos (by kernel_rfl)]
        go_simp
        refine (size_any (HM.out.same (HSL.out.trans (hHeld.2.2.2.2))) (k : Int)).mono ?_
        rintro e wP8 ⟨rfl, rfl⟩
        rw [hsize.out]
        refine hK.out _ _ ?_ (fun hHeld => ?_)
        · exact hHeld
        clear hK K
        try simp only [Act.put, List.setIfInBounds_toArray, List.set_cons_zero, List.set_cons_succ]
        refine wpAnyH_take (i := 9) (oi := ⟨some 36, _, _, _, _, _⟩) (v := ?v9) rfl (by kernel_rfl) (by kernel_rfl) (by kernel_rfl) (fun _ _ _ h => h) (Or.inl ⟨by kernel_rfl, ?h9⟩) hHeld ?_
        case h9 => intro w hSw; (try dsimp only at hSw); go_simp; try with_reducible rfl
        try simp only [Act.put, List.setIfInBounds_toArray, List.set_cons_zero, List.set_cons_succ]
        refine wpAnyH_take (i := 10) (oi := ⟨some 37, _, _, _, _, _⟩) (v := ?v10) rfl (by kernel_rfl) (by kernel_rfl) (by kernel_rfl) (fun _ _ _ h => h) (Or.inl ⟨by kernel_rfl, ?h10⟩) hHeld ?_
        case h10 => intro w hSw; (try dsimp only at hSw); go_simp; try with_reducible rfl
        try simp only [Act.put, List.setIfInBounds_toArray, List.set_cons_zero, List.set_cons_succ]
        refine wpAnyH_take (i := 11) (oi := ⟨some 38, _, _, _, _, _⟩) (v := ?v11) rfl (by kernel_rfl) (by kernel_rfl) (by kernel_rfl) (fun _ _ _ h => h) (Or.inl ⟨by kernel_rfl, ?h11⟩) hHeld ?_
        case h11 => intro w hSw; (try dsimp only at hSw); go_simp; try with_reducible rfl
        try simp only [Act.put, List.setIfInBounds_toArray, List.set_cons_zero, List.set_cons_succ]
        refine wpAnyH_take (i := 12) (oi := ⟨some 39, _, _, _, _, _⟩) (v := ?v12) rfl (by kernel_rfl) (by kernel_rfl) (by kernel_rfl) (fun _ _ _ h => h) (Or.inl ⟨by kernel_rfl, ?h12⟩) hHeld ?_
        case h12 => intro w hSw; (try dsimp only at hSw); go_simp; try with_reducible rfl
        try simp only [Act.put, List.setIfInBounds_toArray, List.set_cons_zero, List.set_cons_succ]
        refine wpAnyH_take (i := 14) (oi := ⟨some 41, _, _, _, _, _⟩) (v := ?v13) rfl (by kernel_rfl) (by kernel_rfl) (by kernel_rfl) (fun _ _ _ h => h) (Or.inl ⟨by kernel_rfl, ?h13⟩) hHeld ?_
        case h13 => intro w hSw; (try dsimp only at hSw); go_simp; try with_reducible rfl
        try simp only [Act.put, List.setIfInBounds_toArray, List.set_cons_zero, List.set_cons_succ]
        refine wpAnyH_take (i := 15) (oi := ⟨some 42, _, _, _, _, _⟩) (v := ?v14) rfl (by kernel_rfl) (by kernel_rfl) (by kernel_rfl) (fun _ _ _ h => h) (Or.inl ⟨by kernel_rfl, ?h14⟩) hHeld ?_
        case h14 => intro w hSw; (try dsimp only at hSw); go_simp; try with_reducible rfl
        try simp only [Act.put, List.setIfInBounds_toArray, List.set_cons_zero, List.set_cons_succ]
        refine wpAnyH_ready (rs := [13]) (by kernel_rfl) (by simp) ?_
        refine AllReadyH.cons (o := ⟨some 40, _, _, _, _, _⟩) rfl (fun K hK => ?_) AllReadyH.nil
        rw [if_pos (by kernel_rfl)]
        go_simp
        refine (cap_any (HM.out.same (HSL.out.trans (hHeld.2.2.2.2))) (k : Int)).mono ?_
        rintro e wP12 ⟨rfl, hsP12⟩
        rw [hcap.out]
        refine hK.out _ _ ?_ (fun hHeld => ?_)
        · exact ⟨Same.cell hsP12 (hHeld.1), Same.cell hsP12 (hHeld.2.1), Same.cell hsP12 (hHeld.2.2.1), Same.cell hsP12 (hHeld.2.2.2.1), (hHeld.2.2.2.2).trans hsP12⟩
        clear hK K
        try simp only [Act.put, List.setIfInBounds_toArray, List.set_cons_zero, List.set_cons_succ]
        refine wpAnyH_ready (rs := [16]) (by kernel_rfl) (by simp) ?_
        refine AllReadyH.cons (o := ⟨some 43, _, _, _, _, _⟩) rfl (fun K hK => ?_) AllReadyH.nil
        rw [if_pos (by kernel_rfl)]
        go_simp
        refine (rcap (HRM.out.same (HSL.out.trans (hHeld.2.2.2.2))) (k : Int)).mono ?_
        rintro e wP14 ⟨rfl, hsP14⟩
        rw [hcap.out]
        refine hK.out _ _ ?_ (fun hHeld => ?_)
        · exact ⟨Same.cell hsP14 (hHeld.1), Same.cell hsP14 (hHeld.2.1), Same.cell hsP14 (hHeld.2.2.1), Same.cell hsP14 (hHeld.2.2.2.1), (hHeld.2.2.2.2).trans hsP14⟩
        clear hK K
        try simp only [Act.put, List.setIfInBounds_toArray, List.set_cons_zero, List.set_cons_succ]
        refine wpAnyH_take (i := 17) (oi := ⟨some 44, _, _, _, _, _⟩) (v := ?v15) rfl (by kernel_rfl) (by kernel_rfl) (by kernel_rfl) (fun _ _ _ h => h) (Or.inl ⟨by kernel_rfl, ?h15⟩) hHeld ?_
        case h15 => intro w hSw; (try dsimp only at hSw); go_simp; try with_reducible rfl
        try simp only [Act.put, List.setIfInBounds_toArray, List.set_cons_zero, List.set_cons_succ]
        refine wpAnyH_take (i := 18) (oi := ⟨some 45, _, _, _, _, _⟩) (v := ?v16) rfl (by kernel_rfl) (by kernel_rfl) (by kernel_rfl) (fun _ _ _ h => h) (Or.inl ⟨by kernel_rfl, ?h16⟩) hHeld ?_
        case h16 => intro w hSw; (try dsimp only at hSw); go_simp; try with_reducible rfl
        try simp only [Act.put, List.setIfInBounds_toArray, List.set_cons_zero, List.set_cons_succ]
        refine wpAnyH_done (by kernel_rfl) ?_ _
        have hsE := HSL.out.trans (hHeld.2.2.2.2)
        clear hHeld
        go_wp2
        go_meet
        case rel =>
          exact ⟨rfl, hsE⟩
      case rest =>
        obtain ⟨rfl, hcut⟩ := hcut
        have HSE := Lib.hid hcut
        clear hcut m0 m1 m2 hcw
        go_wp2
        go_loopw [6] (fun t wx => ∃ z : Int, -1 ≤ z ∧ z ≤ (rl : Int) + 1 ∧ t = .int .i64 z ∧ Same W wx) (fun t _ => ((rl : Int) + 1 - intOf t).toNat)
        case atStart => exact ⟨-1, by omega, by omega, rfl, HSE.out⟩
        case round =>
          obtain ⟨z, hz1, hz2, rfl, hsM⟩ := hrel
          obtain ⟨m0, m1, m2, mf⟩ := cells3x (Same.obj hsM OB3.out)
          have hcw : wr.cell? ⟨wb, wo + k, none⟩ = some (.slice ra rl rc) := Same.cell hsM HCW0.out
          have HSL := Lib.hid hsM
          clear hsM mf
          by_cases hz : z ≤ rl
          · go_upto_region 11 with fail
            refine wp_region_held_drew (S := (fun v => v.cell? ⟨b3, 0, none⟩ = some (.slice (some ⟨wb, wo, none⟩) n wk) ∧ v.cell? ⟨b3, 1, none⟩ = some (.slice (some ⟨eb, eo, none⟩) n ec) ∧ v.cell? ⟨b3, 2, none⟩ = some (.int .i64 (cnt : Int)) ∧ v.cell? ⟨wb, wo + k, none⟩ = some (.slice ra rl rc) ∧ Same wr v)) (by kernel_rfl) ?_ (fun hHeld => ?_)
            · exact ⟨(Sep.drew (fun _ => False) wr).cell m0 (fun x => x), (Sep.drew (fun _ => False) wr).cell m1 (fun x => x), (Sep.drew (fun _ => False) wr).cell m2 (fun x => x), (Sep.drew (fun _ => False) wr).cell hcw (fun x => x), Sep.drew _ _⟩
            change wpAnyH _ _ _ _ _ 9 _ _ _
            refine wpAnyH_take (i := 0) (oi := ⟨some 56, _, _, _, _, _⟩) (v := ?v17) rfl (by kernel_rfl) (by kernel_rfl) (by kernel_rfl) (fun _ _ _ h => h) (Or.inl ⟨by kernel_rfl, ?h17⟩) hHeld ?_
            case h17 => intro w hSw; (try dsimp only at hSw); go_simp; try with_reducible rfl
            try simp only [Act.put, List.setIfInBounds_toArray, List.set_cons_zero, List.set_cons_succ]
            refine wpAnyH_take (i := 1) (oi := ⟨some 57, _, _, _, _, _⟩) (v := ?v18) rfl (by kernel_rfl) (by kernel_rfl) (by kernel_rfl) (fun _ _ _ h => h) (Or.inl ⟨by kernel_rfl, ?h18⟩) hHeld ?_
            case h18 => intro w hSw; (try dsimp only at hSw); go_simp; try with_reducible rfl
            try simp only [Act.put, List.setIfInBounds_toArray, List.set_cons_zero, List.set_cons_succ]
            refine wpAnyH_take (i := 2) (oi := ⟨some 58, _, _, _, _, _⟩) (v := ?v19) rfl (by kernel_rfl) (by kernel_rfl) (by kernel_rfl) (fun _ _ _ h => h) (Or.inl ⟨by kernel_rfl, ?h19⟩) hHeld ?_
            case h19 => intro w hSw; (try dsimp only at hSw); go_simp; try with_reducible rfl
            try simp only [Act.put, List.setIfInBounds_toArray, List.set_cons_zero, List.set_cons_succ]
            refine wpAnyH_take (i := 4) (oi := ⟨some 60, _, _, _, _, _⟩) (v := ?v20) rfl (by kernel_rfl) (by kernel_rfl) (by kernel_rfl) (fun _ _ _ h => h) (Or.inl ⟨by kernel_rfl, ?h20⟩) hHeld ?_
            case h20 => intro w hSw; (try dsimp only at hSw); go_simp; try with_reducible rfl
            try simp only [Act.put, List.setIfInBounds_toArray, List.set_cons_zero, List.set_cons_succ]
            refine wpAnyH_take (i := 5) (oi := ⟨some 61, _, _, _, _, _⟩) (v := ?v21) rfl (by kernel_rfl) (by kernel_rfl) (by kernel_rfl) (fun _ _ _ h => h) (Or.inl ⟨by kernel_rfl, ?h21⟩) hHeld ?_
            case h21 => intro w hSw; (try dsimp only at hSw); go_simp; try with_reducible rfl
            try simp only [Act.put, List.setIfInBounds_toArray, List.set_cons_zero, List.set_cons_succ]
            refine wpAnyH_take (i := 6) (oi := ⟨some 62, _, _, _, _, _⟩) (v := ?v22) rfl (by kernel_rfl) (by kernel_rfl) (by kernel_rfl) (fun _ _ _ h => h) (Or.inl ⟨by kernel_rfl, ?h22⟩) hHeld ?_
            case h22 => intro w hSw; (try dsimp only at hSw); go_simp; try with_reducible rfl
            try simp only [Act.put, List.setIfInBounds_toArray, List.set_cons_zero, List.set_cons_succ]
            refine wpAnyH_ready (rs := [3]) (by kernel_rfl) (by simp) ?_
            refine AllReadyH.cons (o := ⟨some 59, _, _, _, _, _⟩) rfl (fun K hK => ?_) AllReadyH.nil
            rw [if_pos (by kernel_rfl)]
            go_simp
            refine (peek_any (HM.out.same (HSL.out.trans (hHeld.2.2.2.2))) (k : Int) z).mono ?_
            rintro e wP5 ⟨rfl, rfl⟩
            refine hK.out _ _ ?_ (fun hHeld => ?_)
            · exact hHeld
            clear hK K
            try simp only [Act.put, List.setIfInBounds_toArray, List.set_cons_zero, List.set_cons_succ]
            refine wpAnyH_ready (rs := [7]) (by kernel_rfl) (by simp) ?_
            refine AllReadyH.cons (o := ⟨some 63, _, _, _, _, _⟩) rfl (fun K hK => ?_) AllReadyH.nil
            rw [if_pos (by kernel_rfl)]
            go_simp
            refine (rpeek (HRM.out.same (HSL.out.trans (hHeld.2.2.2.2))) (k : Int) z).mono ?_
            rintro e wP7 ⟨rfl, hsP7⟩
            refine hK.out _ _ ?_ (fun hHeld => ?_)
            · exact ⟨Same.cell hsP7 (hHeld.1), Same.cell hsP7 (hHeld.2.1), Same.cell hsP7 (hHeld.2.2.1), Same.cell hsP7 (hHeld.2.2.2.1), (hHeld.2.2.2.2).trans hsP7⟩
            clear hK K
            try simp only [Act.put, List.setIfInBounds_toArray, List.set_cons_zero, List.set_cons_succ]
            refine wpAnyH_take (i := 8) (oi := ⟨some 64, _, _, _, _, _⟩) (v := ?v23) rfl (by kernel_rfl) (by kernel_rfl) (by kernel_rfl) (fun _ _ _ h => h) (Or.inl ⟨by kernel_rfl, ?h23⟩) hHeld ?_
            case h23 => intro w hSw; (try dsimp only at hSw); go_simp; try with_reducible rfl
            try simp only [Act.put, List.setIfInBounds_toArray, List.set_cons_zero, List.set_cons_succ]
            refine wpAnyH_done (by kernel_rfl) ?_ _
            have hsE := HSL.out.trans (hHeld.2.2.2.2)
            clear hHeld
            clear m0 m1 m2 hcw
            go_wp2
            go_roundw
            case rel => exact ⟨z + 1, by omega, by omega, by go_num, hsE⟩
            case measure => simp [intOf]; omega
          · go_wp2
            go_roundw
            case rel => exact ⟨k + 1, by omega, by go_num, HSL.out⟩
            case measure => simp [intOf]; omega
    · obtain rfl : k = n := by omega
      have HSL := Lib.hid hsL
      have hkl : (k : Int) = (L.length : Int) := by rw [← HN.out]
      have z1 : Hid ((sizeOf L (-1) : Int) = 0) := by show _ = _; rw [sizeOf_no (by omega)]; rfl
      have z2 : Hid ((sizeOf L (k : Int) : Int) = 0) := by show _ = _; rw [sizeOf_no (by omega)]; rfl
      have z3 : Hid (capOf L (-1) = .agg #[.int .i64 0, .int .u64 0]) := capOf_no (by omega)
      have z4 : Hid (peekOf L (k : Int) 0 = 0) := peekOf_no (by omega)
      clear hsL hkl mf
      go_wp2_with fail
      refine (size_any (HM.out.same HSL.out) (-1)).mono ?_
      rintro e w1 ⟨rfl, rfl⟩
      rw [z1.out]
      go_wp2_with fail
      refine (size_any (HM.out.same HSL.out) (k : Int)).mono ?_
      rintro e w1 ⟨rfl, rfl⟩
      rw [z2.out]
      go_wp2_with fail
      refine (cap_any (HM.out.same HSL.out) (-1)).mono ?_
      rintro e w1 ⟨rfl, hs1⟩
      rw [z3.out]
      have HS1 := Lib.hid (HSL.out.trans hs1)
      obtain ⟨t0, t1, t2, tf⟩ := cells3x (Same.obj HS1.out OB3.out)
      clear hs1 m0 m1 m2 tf
      go_wp2_with fail
      refine (peek_any (HM.out.same HS1.out) (k : Int) 0).mono ?_
      rintro e w2 ⟨rfl, rfl⟩
      rw [z4.out]
      go_wp2
      go_ret
      exact ⟨by simp, HS0.out.trans HS1.out⟩
end Go.Proofs.Ytiljledgoflogaa

