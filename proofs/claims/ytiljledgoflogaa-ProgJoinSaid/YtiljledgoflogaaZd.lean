/- The walk of ProgJoin. -/
import Derived.Test.YtiljledgoflogaaZc
namespace Go.Proofs.Ytiljledgoflogaa
open Go.RowKit
set_option linter.unusedSimpArgs false
set_option linter.unusedVariables false

/-- What is come to; [] of what isn't over. -/
def resL : PT (List Int) → List Int
  | .done r => r
  | _ => []
theorem ran_slice {lo hi p cnt : Nat} {F : Nat → Prop} {w : World} {T : List Reg × Nat × PT (List Int)} {e : Ending} {w' : World} (h : RanT layS lo hi p cnt F w T e w') :
    ∃ ra k, e = .returned (.tuple #[.slice ra (resL T.2.2).length k, .int .i64 T.2.1, .bool T.2.2.over]) ∧ SlcU (fun b => Part F w b ∨ w.heap.size ≤ b) w' (.slice ra (resL T.2.2).length k) (resL T.2.2) ∧ Mem lo hi w' p T.1 (cnt + T.2.1) ∧ Sep (Near F w lo hi) w w' := by
  obtain ⟨T1, T2, T3⟩ := T
  obtain ⟨rc, he, h, hm, hs⟩ := h
  cases T3 with
  | done r =>
    obtain ⟨v, rfl, hs'⟩ : ∃ v, rc = [v] ∧ SlcU _ w' v r := h
    obtain ⟨ra, k, rfl⟩ := hs'.form
    exact ⟨ra, k, he, hs', hm, hs⟩
  | step A k =>
    obtain rfl : rc = layS.zero := h
    exact ⟨none, 0, he, ⟨rfl, .inl ⟨rfl, rfl⟩⟩, hm, hs⟩
  | out =>
    obtain rfl : rc = layS.zero := h
    exact ⟨none, 0, he, ⟨rfl, .inl ⟨rfl, rfl⟩⟩, hm, hs⟩
theorem list_res (ci ce : Int) (m : Nat) (L : List Reg) (l : List Acc) (told : List Int) : (resL (PT.run ci ce m L (PT.list l told)).2.2).length ≤ told.length + l.length := by
  induction l generalizing told m L with
  | nil => rw [show PT.list [] told = .done told from rfl, PT.run_done]; simp [resL]
  | cons A l ih =>
    cases m with
    | zero => rw [PT.run_zero]; simp [PT.list, resL]
    | succ m =>
      cases h : okB L ci ce A.op A.at_ with
      | false => rw [show PT.list (A :: l) told = .step A (fun z => PT.list l (told ++ [z])) from rfl, PT.run_no h]; simp [resL]
      | true =>
        rw [show PT.list (A :: l) told = .step A (fun z => PT.list l (told ++ [z])) from rfl, PT.run_yes h]
        refine Nat.le_trans (ih _ _ _) ?_
        simp; omega

theorem pjoin_long1 (a0 a1 : Option Addr) (n0 c0 n1 c1 : Nat) (h : 20 < n0) (w : World) : Calls Try.prog 14 #[.slice a0 n0 c0, .slice a1 n1 c1] w fun e w' => e = .returned (.bool true) ∧ Below w.heap.size w w' := by
  go_enter Try.func14, Try.ntmps14
  go_wp2_with fail
  refine (awake3_ok _).mono ?_
  rintro e w0 ⟨rfl, hs0⟩
  go_wp2_with fail
  refine (awake3_ok _).mono ?_
  rintro e w1 ⟨rfl, hs1⟩
  go_wp2
  go_ret
  exact ⟨rfl, Same.below (hs0.trans hs1)⟩
theorem pjoin_long2 (a0 a1 : Option Addr) (n0 c0 n1 c1 : Nat) (h0 : n0 ≤ 20) (h : 20 < n1) (w : World) : Calls Try.prog 14 #[.slice a0 n0 c0, .slice a1 n1 c1] w fun e w' => e = .returned (.bool true) ∧ Below w.heap.size w w' := by
  go_enter Try.func14, Try.ntmps14
  go_wp2_with fail
  refine (awake3_ok _).mono ?_
  rintro e w0 ⟨rfl, hs0⟩
  go_wp2_with fail
  refine (awake3_ok _).mono ?_
  rintro e w1 ⟨rfl, hs1⟩
  go_wp2
  go_ret
  exact ⟨rfl, Same.below (hs0.trans hs1)⟩

set_option maxRecDepth 100000 in
set_option maxHeartbeats 2000000 in
theorem pjoin_walk (a0 a1 : Option Addr) (c0 c1 : Nat) (l k : List Acc) (hl : l.length ≤ 20) (hk : k.length ≤ 20) (w : World) (q0 : ArgA w (.slice a0 l.length c0) l) (q1 : ArgA w (.slice a1 k.length c1) k) (wl : ∀ A ∈ l, AccW A) (wk : ∀ A ∈ k, AccW A) :
    Calls Try.prog 14 #[.slice a0 l.length c0, .slice a1 k.length c1] w fun e w' => e = .returned (.bool true) ∧ Below w.heap.size w w' := by
  have hwf : (PT.list (l ++ k) []).Wf := PT.list_wf _ _ (fun A hA => (List.mem_append.1 hA).elim (wl A) (wk A))
  have HWF := Lib.hid hwf
  obtain ⟨T, hT⟩ : ∃ T, T = PT.run 0 1 (Int.toNat 50) fresh8 (PT.list (l ++ k) []) := ⟨_, rfl⟩
  have HT := Lib.hid hT
  have HNO := Lib.hid (PT.list_run_in 0 1 (Int.toNat 50) fresh8 (l ++ k) [])
  obtain ⟨n0, hn0⟩ : ∃ n, n = l.length := ⟨_, rfl⟩
  obtain ⟨n1, hn1⟩ : ∃ n, n = k.length := ⟨_, rfl⟩
  have Q0 := Lib.hid q0
  have Q1 := Lib.hid q1
  have hl' : n0 ≤ 20 := by omega
  have hk' : n1 ≤ 20 := by omega
  rw [← hn0] at Q0 ⊢
  rw [← hn1] at Q1 ⊢
  have N0 := Lib.hid hn0
  have N1 := Lib.hid hn1
  clear q0 q1 hl hk hn0 hn1 wl wk hwf hT
  go_enter Try.func14, Try.ntmps14
  go_wp2_with fail
  refine (awake3_ok _).mono ?_
  rintro e w0 ⟨rfl, hs0⟩
  go_wp2_with fail
  refine (new_lit w0 [8] _ 1 rfl rfl (by decide) (by decide)).mono ?_
  rintro e w1 ⟨p, lo, hi, rfl, hm, hs, hlo', hhi⟩
  have hlo : w.heap.size ≤ lo := Nat.le_trans hs0.size hlo'
  have hsa : Same w w1 := hs0.trans hs
  replace hm : Mem lo hi w1 p fresh8 0 := hm
  have HHI := Lib.hid hhi
  clear hs hlo' hs0 hhi
  go_wp2_with fail
  refine (new_lit w1 [8] _ 1 rfl rfl (by decide) (by decide)).mono ?_
  rintro e w2 ⟨q, lq, hq, rfl, hmq, hsq, hlq, hhq⟩
  replace hmq : Mem lq hq w2 q fresh8 0 := hmq
  have hlq' : hi ≤ lq := by have := HHI.out; omega
  have hsa2 : Same w w2 := hsa.trans hsq
  have hm2 := hm.same hsq
  have hlohi : lo < hi := by have := hm2.lop; omega
  have hlqhq : lq < hq := by have := hmq.lop; omega
  have hq2 : hq ≤ w2.heap.size := hmq.le
  clear hsa hm hsq hlq hhq
  go_wp2_with fail
  refine (list_arg (F := fun b => w2.heap.size ≤ b) (Q0.out.same hsa2) (by have := N0.out; omega) (fun b hb => hb)).mono ?_
  rintro e w3 ⟨v3, rfl, hlp3, hs3⟩
  go_wp2_with fail
  refine (list_arg (F := fun b => w3.heap.size ≤ b) (Q1.out.same (hsa2.trans hs3)) (by have := N1.out; omega) (fun b hb => hb)).mono ?_
  rintro e w4 ⟨v4, rfl, hlp4, hs4⟩
  have hj := join_any (n := 20) (m := 20) ((hlp3.is (by have := N0.out; simp; omega)).keep (Same.keeps hs4)) (hlp4.is (by have := N1.out; simp; omega)) (fun b _ h1 h2 => by have := h1.2; omega) (PT.list_all l [] 20 (by have := N0.out; simp; omega)) (PT.list_all k [] 20 (by have := N1.out; simp; omega)) (by decide)
  rw [PT.list_join] at hj
  go_wp2_with fail
  refine hj.mono ?_
  rintro e w5 ⟨v5, rfl, hI5, hs5⟩
  have hsS : Same w2 w5 := same_of_below ((Same.below (hs3.trans hs4)).trans (Sep.below hs5 (fun b hb => by
    rcases hb.1 with h | h
    · exact h.1
    · have := hs3.size; omega) (hs3.trans hs4).size))
  have hJ : Is layS (PT.list (l ++ k) []) w5 (fun b => w2.heap.size ≤ b ∧ b < w5.heap.size) v5 := hI5.imp fun b hb h => by
    rcases h with ⟨h | h, _⟩ | h
    · exact ⟨h.1, hb⟩
    · exact ⟨by have := hs3.size; omega, hb⟩
    · exact ⟨by have := (hs3.trans hs4).size; omega, hb⟩
  obtain ⟨o9, r9, A9, n9, rfl, pr9, pn9⟩ := formS hJ.form
  unfold Plain at pr9 pn9
  obtain ⟨b9, hb9⟩ : ∃ b, b = w5.heap.size := ⟨_, rfl⟩
  have hob : (w5.alloc (.cells #[.bool o9, r9, .int .i64 A9.op, .int .i64 A9.at_, .int .u64 A9.x, .int .u64 A9.y, n9] 87)).heap[b9]? = some (.cells #[.bool o9, r9, .int .i64 A9.op, .int .i64 A9.at_, .int .u64 A9.x, .int .u64 A9.y, n9] 87) := by rw [hb9]; exact heap_alloc_new _ _
  have hs6 := Sep.alloc (fun _ => False) w5 (.cells #[.bool o9, r9, .int .i64 A9.op, .int .i64 A9.at_, .int .u64 A9.x, .int .u64 A9.y, n9] 87)
  have HJ6 := Lib.hid (hJ.same hs6)
  have OB6 := Lib.hid hob
  have HS6 := Lib.hid hs6
  have HB9 := Lib.hid hb9
  have hm6 := (hm2.same hsS).same hs6
  have hmq6 := (hmq.same hsS).same hs6
  have hsa6 : Same w _ := (hsa2.trans hsS).trans hs6
  have HSA6 := Lib.hid hsa6
  have hSAw2 : w.heap.size ≤ w2.heap.size := hsa2.size
  have hw25 : w2.heap.size ≤ w5.heap.size := hsS.size
  clear hI5 hs5 hs4 hs3 hlp3 hlp4 hj hm2 hmq hsa2 hJ hob hb9 hs6 hsa6 hsS
  obtain ⟨w6, hw6⟩ : ∃ x, x = w5.alloc (.cells #[.bool o9, r9, .int .i64 A9.op, .int .i64 A9.at_, .int .u64 A9.x, .int .u64 A9.y, n9] 87) := ⟨_, rfl⟩
  have HW6 := Lib.hid hw6
  rw [← hw6] at hm6 hmq6 HJ6 OB6 HS6 HSA6
  have hs7 := Sep.alloc (fun _ => False) w6 (.cells #[] 25)
  have own0 : (w6.alloc (.cells #[] 25)).ownsRow w6.heap.size 25 4 (.slice (some ⟨w6.heap.size, 0, none⟩) 0 0) 0 [] := World.ownsRow_made w6 #[] 0 (Nat.le_refl _) (by simp) rfl
  have aa0 := (Q0.out.same (HSA6.out.trans hs7))
  have le7 : w6.heap.size ≤ (w6.alloc (.cells #[] 25)).heap.size := hs7.size
  have bn0 : 0 + l.length ≤ 100000 := by have := N0.out; omega
  have bn1 : l.length + k.length ≤ 100000 := by have := N0.out; have := N1.out; omega
  have HS7 := Lib.hid hs7
  have OWN0 := Lib.hid own0
  have AA0 := Lib.hid aa0
  clear hw6 hs7 own0 aa0
  go_upto_region 8 with fail
  rw [← HB9.out, ← HW6.out]
  go_wp2_with (first | (at_builtin; go_loud (refine app_argA rfl (.tmp 52) (.tmp 53) rfl w6.heap.size _ 0 [] rfl OWN0.out _ l rfl AA0.out bn0 le7 ?_)))
  intro va w7 oa ga
  have s67 : Same w6 w7 := grow_same HS7.out ga (fun k hk => by simp [Value.ownBlock] at hk; omega)
  have OA := Lib.hid oa
  have le67 : w6.heap.size ≤ w7.heap.size := s67.size
  have AA1 := Lib.hid (Q1.out.same (HSA6.out.trans s67))
  have S67 := Lib.hid s67
  clear oa ga s67
  go_wp2_with (first | (at_builtin; go_loud (refine app_argA rfl (.tmp 54) (.tmp 55) rfl w6.heap.size _ l.length (accs l) rfl OA.out _ k rfl AA1.out bn1 le67 ?_)))
  intro vb w8 ob gb
  have s68 : Same w6 w8 := grow_same S67.out gb (fun k hk => (OA.out.lt k hk).1)
  have hall : SlcA (fun b => w6.heap.size ≤ b) w8 vb (l ++ k) := by
    have h := Slc.owned (F := fun b => w6.heap.size ≤ b) (fun b hb => hb) ob
    have e1 : (l ++ k).length = l.length + k.length := List.length_append
    have e2 : accs (l ++ k) = accs l ++ accs k := by simp [accs]
    show Slc 4 _ w8 vb (l ++ k).length (accs (l ++ k))
    rw [e1, e2]
    exact h
  obtain ⟨xa, xc, rfl⟩ := Slc.form hall
  have HALL := Lib.hid hall
  obtain ⟨na, hna⟩ : ∃ n, n = (l ++ k).length := ⟨_, rfl⟩
  rw [← hna] at HALL ⊢
  have NA := Lib.hid hna
  have hm8 := hm6.same s68
  have hmq8 := hmq6.same s68
  have HJ := Lib.hid (HJ6.out.same s68)
  have hpo := Same.obj s68 OB6.out
  have hsa8 : Same w w8 := HSA6.out.trans s68
  have hb9 : w5.heap.size ≤ b9 := by have := HB9.out; omega
  have h68 := s68.size
  have h56 : w5.heap.size < w6.heap.size := by rw [HW6.out]; simp
  obtain ⟨x9_0, x9_1, x9_2, x9_3, x9_4, x9_5, x9_6, x9f⟩ := cells7 hpo
  clear ob gb s68 hall hna hm6 hmq6 hpo le7 le67 bn0 bn1
  go_wp2
  refine wp_region_held_drew (S := (fun v => v.cell? ⟨b9, 0, none⟩ = some (.bool o9) ∧ v.cell? ⟨b9, 1, none⟩ = some (r9) ∧ v.cell? ⟨b9, 2, none⟩ = some (.int .i64 A9.op) ∧ v.cell? ⟨b9, 3, none⟩ = some (.int .i64 A9.at_) ∧ v.cell? ⟨b9, 4, none⟩ = some (.int .u64 A9.x) ∧ v.cell? ⟨b9, 5, none⟩ = some (.int .u64 A9.y) ∧ v.cell? ⟨b9, 6, none⟩ = some (n9))) (by kernel_rfl) ?_ (fun hHeld => ?_)
  · exact ⟨(Sep.drew (fun _ => False) w8).cell x9_0 (fun x => x), (Sep.drew (fun _ => False) w8).cell x9_1 (fun x => x), (Sep.drew (fun _ => False) w8).cell x9_2 (fun x => x), (Sep.drew (fun _ => False) w8).cell x9_3 (fun x => x), (Sep.drew (fun _ => False) w8).cell x9_4 (fun x => x), (Sep.drew (fun _ => False) w8).cell x9_5 (fun x => x), (Sep.drew (fun _ => False) w8).cell x9_6 (fun x => x)⟩
  change wpAnyH _ _ _ _ _ 12 _ _ _
  refine wpAnyH_take (i := 0) (oi := ⟨some 58, _, _, _, _, _⟩) (v := ?v1) rfl (by kernel_rfl) (by kernel_rfl) (by kernel_rfl) (fun _ _ _ h => h) (Or.inl ⟨by kernel_rfl, ?h1⟩) hHeld ?_
  case h1 => intro w hSw; (try dsimp only at hSw); go_simp; try with_reducible rfl
  try simp only [Act.put, List.setIfInBounds_toArray, List.set_cons_zero, List.set_cons_succ]
  refine wpAnyH_take (i := 1) (oi := ⟨some 59, _, _, _, _, _⟩) (v := ?v2) rfl (by kernel_rfl) (by kernel_rfl) (by kernel_rfl) (fun _ _ _ h => h) (Or.inl ⟨by kernel_rfl, ?h2⟩) hHeld ?_
  case h2 => intro w hSw; (try dsimp only at hSw); go_simp; try with_reducible rfl
  try simp only [Act.put, List.setIfInBounds_toArray, List.set_cons_zero, List.set_cons_succ]
  refine wpAnyH_take (i := 2) (oi := ⟨some 60, _, _, _, _, _⟩) (v := ?v3) rfl (by kernel_rfl) (by kernel_rfl) (by kernel_rfl) (fun _ _ _ h => h) (Or.inl ⟨by kernel_rfl, ?h3⟩) hHeld ?_
  case h3 => intro w hSw; (try dsimp only at hSw); go_simp; try with_reducible rfl
  try simp only [Act.put, List.setIfInBounds_toArray, List.set_cons_zero, List.set_cons_succ]
  refine wpAnyH_ready (rs := [3]) (by kernel_rfl) (by simp) ?_
  refine AllReadyH.cons (o := ⟨some 61, _, _, _, _, _⟩) rfl (fun K hK => ?_) AllReadyH.nil
  rw [if_pos (by kernel_rfl)]
  go_simp
  refine (cap_any (hm8.same (Sep.drew _ _)) 0).mono ?_
  rintro e wC ⟨rfl, hsC⟩
  rw [show capOf fresh8 0 = .agg #[.int .i64 0, .int .u64 1] from rfl]
  have hC : Same w8 wC := (Sep.drew (fun _ => False) w8).trans hsC
  refine hK.out _ _ ?_ (fun hHeld => ?_)
  · exact ⟨Same.cell hC x9_0, Same.cell hC x9_1, Same.cell hC x9_2, Same.cell hC x9_3, Same.cell hC x9_4, Same.cell hC x9_5, Same.cell hC x9_6⟩
  clear hK K
  try simp only [Act.put, List.setIfInBounds_toArray, List.set_cons_zero, List.set_cons_succ]
  refine wpAnyH_ready (rs := [4]) (by kernel_rfl) (by simp) ?_
  refine AllReadyH.cons (o := ⟨some 62, _, _, _, _, _⟩) rfl (fun K hK => ?_) AllReadyH.nil
  rw [if_pos (by kernel_rfl)]
  go_simp
  refine ((runS (hm8.same hC) (HJ.out.same hC) 0 1 50 HWF.out words8 (by decide) HNO.out (fun b _ hb => by have := hb.1; omega)).mono fun _ _ h => ran_slice h).mono ?_
  rw [← HT.out]
  rintro e wR ⟨ra1, rk1, rfl, hsl1, hmR, hsR⟩
  have nb9 : ¬ Near (fun b => w2.heap.size ≤ b ∧ b < w5.heap.size) wC lo hi b9 := by
    rintro (⟨h, _⟩ | h)
    · omega
    · omega
  refine hK.out _ _ ?_ (fun hHeld => ?_)
  · exact ⟨Sep.cell hsR (Same.cell hC x9_0) nb9, Sep.cell hsR (Same.cell hC x9_1) nb9, Sep.cell hsR (Same.cell hC x9_2) nb9, Sep.cell hsR (Same.cell hC x9_3) nb9, Sep.cell hsR (Same.cell hC x9_4) nb9, Sep.cell hsR (Same.cell hC x9_5) nb9, Sep.cell hsR (Same.cell hC x9_6) nb9⟩
  clear hK K
  try simp only [Act.put, List.setIfInBounds_toArray, List.set_cons_zero, List.set_cons_succ]
  refine wpAnyH_take (i := 5) (oi := ⟨some 57, _, _, _, _, _⟩) (v := ?v6) rfl (by kernel_rfl) (by kernel_rfl) (by kernel_rfl) (fun _ _ _ h => h) (Or.inl ⟨by kernel_rfl, ?h6⟩) hHeld ?_
  case h6 => intro w hSw; (try dsimp only at hSw); go_simp; try with_reducible rfl
  try simp only [Act.put, List.setIfInBounds_toArray, List.set_cons_zero, List.set_cons_succ]
  refine wpAnyH_take (i := 6) (oi := ⟨some 63, _, _, _, _, _⟩) (v := ?v7) rfl (by kernel_rfl) (by kernel_rfl) (by kernel_rfl) (fun _ _ _ h => h) (Or.inl ⟨by kernel_rfl, ?h7⟩) hHeld ?_
  case h7 => intro w hSw; (try dsimp only at hSw); go_simp; try with_reducible rfl
  try simp only [Act.put, List.setIfInBounds_toArray, List.set_cons_zero, List.set_cons_succ]
  refine wpAnyH_take (i := 7) (oi := ⟨some 64, _, _, _, _, _⟩) (v := ?v8) rfl (by kernel_rfl) (by kernel_rfl) (by kernel_rfl) (fun _ _ _ h => h) (Or.inl ⟨by kernel_rfl, ?h8⟩) hHeld ?_
  case h8 => intro w hSw; (try dsimp only at hSw); go_simp; try with_reducible rfl
  try simp only [Act.put, List.setIfInBounds_toArray, List.set_cons_zero, List.set_cons_succ]
  refine wpAnyH_take (i := 8) (oi := ⟨some 65, _, _, _, _, _⟩) (v := ?v9) rfl (by kernel_rfl) (by kernel_rfl) (by kernel_rfl) (fun _ _ _ h => h) (Or.inl ⟨by kernel_rfl, ?h9⟩) hHeld ?_
  case h9 => intro w hSw; (try dsimp only at hSw); go_simp; try with_reducible rfl
  try simp only [Act.put, List.setIfInBounds_toArray, List.set_cons_zero, List.set_cons_succ]
  refine wpAnyH_take (i := 9) (oi := ⟨some 11, _, _, _, _, _⟩) (v := ?v10) rfl (by kernel_rfl) (by kernel_rfl) (by kernel_rfl) (fun _ _ _ h => h) (Or.inl ⟨by kernel_rfl, ?h10⟩) hHeld ?_
  case h10 => intro w hSw; (try dsimp only at hSw); go_simp; try with_reducible rfl
  try simp only [Act.put, List.setIfInBounds_toArray, List.set_cons_zero, List.set_cons_succ]
  refine wpAnyH_take (i := 10) (oi := ⟨some 12, _, _, _, _, _⟩) (v := ?v11) rfl (by kernel_rfl) (by kernel_rfl) (by kernel_rfl) (fun _ _ _ h => h) (Or.inl ⟨by kernel_rfl, ?h11⟩) hHeld ?_
  case h11 => intro w hSw; (try dsimp only at hSw); go_simp; try with_reducible rfl
  try simp only [Act.put, List.setIfInBounds_toArray, List.set_cons_zero, List.set_cons_succ]
  refine wpAnyH_take (i := 11) (oi := ⟨some 13, _, _, _, _, _⟩) (v := ?v12) rfl (by kernel_rfl) (by kernel_rfl) (by kernel_rfl) (fun _ _ _ h => h) (Or.inl ⟨by kernel_rfl, ?h12⟩) hHeld ?_
  case h12 => intro w hSw; (try dsimp only at hSw); go_simp; try with_reducible rfl
  try simp only [Act.put, List.setIfInBounds_toArray, List.set_cons_zero, List.set_cons_succ]
  refine wpAnyH_done (by kernel_rfl) ?_ _
  have hmqR := hmq8.stay (Sep.trans (Same.sep hC _) hsR) (fun b h1 h2 h3 => by
    rcases h3 with ⟨h, _⟩ | h
    · omega
    · omega)
  obtain ⟨R, hR⟩ : ∃ R, R = resL T.2.2 := ⟨_, rfl⟩
  rw [← hR] at hsl1 ⊢
  have hRl : R.length ≤ 1000000 := by
    have h := list_res 0 1 (Int.toNat 50) fresh8 (l ++ k) []
    rw [← HT.out, ← hR] at h
    have := N0.out
    have := N1.out
    simp at h
    omega
  obtain ⟨rn, hrn⟩ : ∃ n, n = R.length := ⟨_, rfl⟩
  rw [← hrn] at hsl1 ⊢
  obtain ⟨tn, htn⟩ : ∃ n, n = T.2.1 := ⟨_, rfl⟩
  obtain ⟨tv, htv⟩ : ∃ n, n = T.2.2.over := ⟨_, rfl⟩
  obtain ⟨TL, hTL⟩ : ∃ n, n = T.1 := ⟨_, rfl⟩
  rw [← htn, ← htv]
  rw [← hTL, ← htn, Nat.zero_add] at hmR
  have hsaR : Below w.heap.size w wR := by
    have h1 : Same w wC := hsa8.trans hC
    refine Below.trans h1.below (Sep.below hsR (fun b hb => ?_) h1.size)
    have := hSAw2
    rcases hb with ⟨h, _⟩ | h
    · omega
    · omega
  have Q8 := Lib.hid (Slc.stay (Slc.same HALL.out hC) hsR (fun b hb _ h => by
    rcases h with ⟨h, _⟩ | h
    · omega
    · omega))
  have RN := Lib.hid hrn
  have HR := Lib.hid hR
  have HTN := Lib.hid htn
  have HTV := Lib.hid htv
  have HTL := Lib.hid hTL
  have hwCR : wC.heap.size ≤ wR.heap.size := hsR.size
  have hw2C : w2.heap.size ≤ wC.heap.size := by have := hC.size; omega
  have hnlk : (l ++ k).length ≤ 40 := by have := N0.out; have := N1.out; simp; omega
  have HNLK := Lib.hid hnlk
  clear hHeld hm8 hmq8 hsa8 hC hsC hsR x9_0 x9_1 x9_2 x9_3 x9_4 x9_5 x9_6 x9f hR hrn htn htv hTL nb9 hnlk
  go_wp2_with fail
  refine (list_new (F := fun b => wR.heap.size ≤ b) (G := fun b => w6.heap.size ≤ b) (l := l ++ k) Q8.out (by have := HNLK.out; omega) (fun b hb => hb)).mono ?_
  rintro e wL ⟨vL, rfl, hlpL, hsL⟩
  go_wp2_with fail
  refine (cap_any (hmqR.same hsL) 0).mono ?_
  rintro e wM ⟨rfl, hsM⟩
  rw [show capOf fresh8 0 = .agg #[.int .i64 0, .int .u64 1] from rfl]
  have hLM : Same wR wM := Sep.trans hsL hsM
  go_wp2_with fail
  refine ((runS (hmqR.same hLM) ((hlpL.is (by have := HNLK.out; simp at this ⊢; omega)).same hsM) 0 1 50 HWF.out words8 (by decide) HNO.out (fun b _ hb => by omega)).mono fun _ _ h => ran_slice h).mono ?_
  rw [← HT.out]
  rintro e wT ⟨ra2, rk2, rfl, hsl2, hmqT, hsT⟩
  rw [← HR.out] at hsl2 ⊢
  rw [← RN.out] at hsl2 ⊢
  rw [← HTN.out, ← HTV.out]
  rw [← HTL.out, ← HTN.out, Nat.zero_add] at hmqT
  have hsl1T := Slc.stay (Slc.same (Slc.imp hsl1 (G := fun b => w2.heap.size ≤ b ∧ b < wR.heap.size) fun b hb hlt => ⟨by rcases hb with hb | hb; exact hb.1.1; omega, hlt⟩) hLM) hsT (fun b hb hlt h => by
    rcases h with ⟨h, _⟩ | h
    · omega
    · omega)
  have hmT := (hmR.same hLM).stay hsT (fun b h1 h2 h3 => by
    rcases h3 with ⟨h, _⟩ | h
    · omega
    · omega)
  have bel : Below w.heap.size w wT := by
    have h1 : Below w.heap.size w wM := below_same hsaR hLM hsaR.size
    refine Below.trans h1 (Sep.below hsT (fun b hb => ?_) h1.size)
    have := hSAw2
    rcases hb with ⟨h, _⟩ | h
    · have := hsaR.size; omega
    · omega
  have HS1 : Hid (SlcU (fun b => w2.heap.size ≤ b ∧ b < wR.heap.size) wT (.slice ra1 rn rk1) R) := Lib.hid hsl1T
  have HS2 := Lib.hid hsl2
  clear hsl1 hsl1T hsl2 hsT hmR hmqR hLM hsL hsM hlpL
  go_wp2_with fail
  refine (same_yes HS1.out HS2.out hRl).mono ?_
  rintro e w7' ⟨rfl, hs7⟩
  have hmE := hmT.same hs7
  have hmqE := hmqT.same hs7
  have bel2 : Below w.heap.size w w7' := below_same bel hs7 bel.size
  clear hs7 hmT hmqT bel
  go_wp2
  all_goals
    go_loopw [17] (fun i wr => ∃ j : Nat, j ≤ 8 ∧ i = .int .i64 j ∧ w7' = wr) (fun i _ => 8 - (intOf i).toNat)
    case atStart => exact ⟨0, by omega, rfl, rfl⟩
    case round =>
      obtain ⟨j, hj, rfl, rfl⟩ := hrel
      by_cases hlt : j < 8
      · go_wp2_with fail
        refine (peek_any hmE 0 j).mono ?_
        rintro e w5 ⟨rfl, rfl⟩
        go_wp2_with fail
        refine (peek_any hmqE 0 j).mono ?_
        rintro e w6 ⟨rfl, rfl⟩
        go_wp2
        go_roundw
        case rel => exact ⟨j + 1, by omega, by go_num, trivial⟩
        case measure => simp [intOf]; omega
      · go_wp2
        go_ret
        exact ⟨rfl, bel2⟩

end Go.Proofs.Ytiljledgoflogaa
