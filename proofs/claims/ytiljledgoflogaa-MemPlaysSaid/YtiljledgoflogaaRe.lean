/- The reference's Run. -/
import Derived.Test.YtiljledgoflogaaRd
import Derived.Test.YtiljledgoflogaaZc
namespace Go.Proofs.Ytiljledgoflogaa
open Go.RowKit
set_option linter.unusedSimpArgs false
set_option linter.unusedVariables false

theorem ArgA.get {w : World} {a : Option Addr} {n c : Nat} {l : List Acc} (h : ArgA w (.slice a n c) l) {j : Nat} (hj : j < l.length) : ∃ b off, a = some ⟨b, off, none⟩ ∧ b < w.heap.size ∧ n = l.length ∧ n ≤ c ∧
    w.cell? ⟨b, off + j * 4, none⟩ = some (.int .i64 (l.getD j default).op) ∧ w.cell? ⟨b, off + j * 4 + 1, none⟩ = some (.int .i64 (l.getD j default).at_) ∧ w.cell? ⟨b, off + j * 4 + 2, none⟩ = some (.int .u64 (l.getD j default).x) ∧ w.cell? ⟨b, off + j * 4 + 3, none⟩ = some (.int .u64 (l.getD j default).y) := by
  have get : ∀ (l : List Acc) (j q : Nat), j < l.length → q < 4 → (accs l)[j * 4 + q]? = some ((accCells (l.getD j default)).getD q .nilFunc) := by
    intro l
    induction l with
    | nil => intro j q hj; simp at hj
    | cons A l ih =>
      intro j q hj hq
      rw [show accs (A :: l) = accCells A ++ accs l from rfl]
      cases j with
      | zero =>
        rw [List.getElem?_append_left (by simp [accCells]; omega)]
        rcases (show q = 0 ∨ q = 1 ∨ q = 2 ∨ q = 3 by omega) with rfl | rfl | rfl | rfl <;> rfl
      | succ j =>
        rw [List.getElem?_append_right (by simp [accCells]; omega), show (j + 1) * 4 + q - (accCells A).length = j * 4 + q by simp [accCells]; omega]
        simpa using ih j q (by simpa using hj) hq
  rcases h with ⟨hcl, ⟨e, h0⟩ | ⟨b, off, cap, e, _, hlt, hlc, hm, hc⟩⟩ | ⟨rfl, _, _, _⟩
  · omega
  · obtain ⟨rfl, rfl, rfl⟩ : a = some ⟨b, off, none⟩ ∧ n = l.length ∧ c = cap := by simpa using e
    refine ⟨b, off, rfl, hlt, rfl, hlc, ?_, ?_, ?_, ?_⟩
    · have := hc (j * 4 + 0) _ (get l j 0 hj (by omega)); simpa [accCells] using this
    · have := hc (j * 4 + 1) _ (get l j 1 hj (by omega)); rw [← Nat.add_assoc] at this; simpa [accCells] using this
    · have := hc (j * 4 + 2) _ (get l j 2 hj (by omega)); rw [← Nat.add_assoc] at this; simpa [accCells] using this
    · have := hc (j * 4 + 3) _ (get l j 3 hj (by omega)); rw [← Nat.add_assoc] at this; simpa [accCells] using this
  · simp at hj
/-- Regions of sizes that may be. -/
def Dims (L : List Reg) : Prop := L.length ≤ 1000 ∧ ∀ i, i < L.length → (L.getD i default).ws.length ≤ 1000000
theorem Dims.doL {L : List Reg} (h : Dims L) (i j : Nat) (op x y : Int) : Dims (doL L i j op x y) := by
  refine ⟨by rw [doL_len]; exact h.1, fun k hk => ?_⟩
  rw [doL_len] at hk
  unfold Go.Proofs.Ytiljledgoflogaa.doL
  rw [getD_set L i k _ hk]
  split
  · subst_vars
    simpa using h.2 _ hk
  · exact h.2 k hk

/-- What the reference's run comes to. -/
def RRan (F : Nat → Prop) (w : World) (cnt : Nat) (R : List Reg × List Int × List Acc) (e : Ending) (w' : World) : Prop :=
  ∃ u v, e = .returned (.tuple #[u, v]) ∧ SlcU F w' u R.2.1 ∧ RM F w' v R.1 (cnt + R.2.1.length) ∧ Same w w'
theorem three_b (w : World) (m c z : Array Value) : ∃ W, W = ((w.alloc (.cells m 51)).alloc (.cells c 33)).alloc (.cells z 51) ∧
    Same w W ∧ W.heap.size = w.heap.size + 3 ∧ W.heap[w.heap.size]? = some (.cells m 51) ∧ W.heap[w.heap.size + 1]? = some (.cells c 33) ∧ W.heap[w.heap.size + 2]? = some (.cells z 51) :=
  ⟨_, rfl, ((Sep.alloc _ _ _).thenAlloc _).thenAlloc _, by simp, heap_at3_0 _ _ _ _, heap_at3_1 _ _ _ _, heap_at3_2 _ _ _ _⟩

theorem rran {F : Nat → Prop} {w wx wE : World} {cnt cq j b5 : Nat} {R : List Reg × List Int × List Acc} {Lj : List Reg} {tj : List Int} {out v : Value} {c : Array Value} (hown : wx.ownsRow b5 23 1 out j (wds tj)) (htl : tj.length = j) (hrm : RM (fun q => F q ∧ q ≠ b5 ∧ q ≠ b5 + 2 ∧ out.ownBlock ≠ some q) wx v Lj cq) (hs : Same w wx) (h3 : Sep (fun k => k = b5 + 2) wx wE)
    (hF : ∀ b, w.heap.size ≤ b → F b) (hb : b5 = w.heap.size) (ob : wx.heap[b5 + 2]? = some (.cells c 51)) (r1 : Lj = R.1) (r2 : tj = R.2.1) (hcq : cq = cnt + j) : RRan F w cnt R (.returned (.tuple #[out, v])) wE := by
  obtain ⟨R1, R2, R3⟩ := R
  dsimp only at r1 r2
  subst r1 r2 htl
  refine ⟨_, _, rfl, ?_, ?_, same_then hs (by omega) h3⟩
  · exact Slc.imp (Slc.stay (Slc.owned2 (F := fun q => F q ∧ q ≠ b5 + 2) (fun b hb' h => ⟨hF b (by omega), fun e => own_kind hown ob (by decide) (by rw [h, e])⟩) hown) h3 (fun b hb _ => hb.2)) fun b hb _ => hb.1
  · rw [← hcq]
    exact (hrm.stay h3 (fun b hb _ => hb.2.2.1)).imp fun b hb _ => hb.1

set_option maxRecDepth 100000 in
set_option maxHeartbeats 4000000 in
theorem ref_run {F : Nat → Prop} {w : World} {a : Option Addr} {n c : Nat} {l : List Acc} {v : Value} {L : List Reg} {cnt : Nat} (hA : ArgA w (.slice a n c) l) (hn : n = l.length) (hl : l.length ≤ 1000) (h : RM F w v L cnt) (hF : ∀ b, w.heap.size ≤ b → F b) (hD : Dims L) (hcnt : cnt < 100000000) (ci ce most : Int) :
    Calls Try.prog 46 #[.slice a n c, v, .agg #[.int .i64 ci, .int .u64 ce], .int .i64 most] w (RRan F w cnt (runs ci ce L l most.toNat)) := by
  obtain ⟨wa, wk, ea, ec, rfl⟩ := h.form
  obtain ⟨n0, hn0⟩ : ∃ n, n = L.length := ⟨_, rfl⟩
  rw [← hn0] at h ⊢
  obtain ⟨W, hW, hs0, hsz, hb0, hb1, hb2⟩ := three_b w #[.slice wa n0 wk, .slice ea n0 ec, .int .i64 cnt] #[.int .i64 ci, .int .u64 ce] #[.slice none 0 0, .slice none 0 0, .int .i64 0]
  obtain ⟨R, hR⟩ : ∃ R, R = runs ci ce L l most.toNat := ⟨_, rfl⟩
  rw [← hR]
  obtain ⟨b5, hb5⟩ : ∃ b, b = w.heap.size := ⟨_, rfl⟩
  have HW := Lib.hid hW
  have HB5 := Lib.hid hb5
  have HAA := Lib.hid hA
  have HF := Lib.hid hF
  have HNL := Lib.hid hn
  have hlen : n ≤ 1000 := by omega
  have hrel0 : RM (fun q => F q ∧ q ≠ b5 ∧ q ≠ b5 + 2 ∧ Value.ownBlock (.slice none 0 0) ≠ some q) W (.agg #[.slice wa n0 wk, .slice ea n0 ec, .int .i64 cnt]) L cnt := (h.imp (fun q hq hlt => ⟨hq, by omega, by omega, by simp [Value.ownBlock]⟩)).same hs0
  rw [← hb5] at hb0 hb1 hb2
  have HN0 := Lib.hid hn0
  have HR := Lib.hid hR
  have HB0 := Lib.hid hb0
  have HB1 := Lib.hid hb1
  have HB2 := Lib.hid hb2
  clear hW h hA hF hn hn0 hb5 hsz hR hb0 hb1 hb2
  go_enter Try.func46, Try.ntmps46
  go_wp2_with fail
  rw [← HW.out, ← HB5.out]
  go_loopw [10, 11] (fun out t wr => ∃ (j n1 cq : Nat) (tj : List Int) (Lj : List Reg) (wa : Option Addr) (wk : Nat) (ea : Option Addr) (ec : Nat), t = .int .i64 (j : Int) ∧ j ≤ n ∧ cq = cnt + j ∧ n1 = Lj.length ∧ wr.heap[b5]? = some (.cells #[.slice wa n1 wk, .slice ea n1 ec, .int .i64 (cq : Int)] 51) ∧
      RM (fun q => F q ∧ q ≠ b5 ∧ q ≠ b5 + 2 ∧ out.ownBlock ≠ some q) wr (.agg #[.slice wa n1 wk, .slice ea n1 ec, .int .i64 (cq : Int)]) Lj cq ∧ wr.heap[b5 + 1]? = some (.cells #[.int .i64 ci, .int .u64 ce] 33) ∧ wr.heap[b5 + 2]? = some (.cells #[.slice none 0 0, .slice none 0 0, .int .i64 0] 51) ∧
      Same w wr ∧ wr.ownsRow b5 23 1 out j (wds tj) ∧ tj.length = j ∧ Dims Lj ∧ (runs ci ce Lj (l.drop j) (most.toNat - j)).1 = R.1 ∧ tj ++ (runs ci ce Lj (l.drop j) (most.toNat - j)).2.1 = R.2.1 ∧ (runs ci ce Lj (l.drop j) (most.toNat - j)).2.2 = R.2.2) (fun _ t _ => n - (intOf t).toNat)
  case atStart =>
    exact ⟨0, n0, cnt, [], L, wa, wk, ea, ec, rfl, Nat.zero_le _, rfl, HN0.out, HB0.out, hrel0, HB1.out, HB2.out, hs0, World.ownsRow_nil _ _ _ _, rfl, hD, by rw [HR.out]; rfl, by rw [HR.out]; rfl, by rw [HR.out]; rfl⟩
  case round =>
    clear hrel0 hs0 hD
    obtain ⟨j, n1, cq, tj, Lj, wa, wk, ea, ec, rfl, hj, hcqe, hn1, hm5, hrm, hm6, hm9, hin, hown, htl, hdim, r1, r2, r3⟩ := hrel
    have hcq : cq < 1000000000 := by omega
    have HCQ := Lib.hid hcqe
    have HN1 := Lib.hid hn1
    have HTL := Lib.hid htl
    have HDIM := Lib.hid hdim
    have HOWN := Lib.hid hown
    have HM9 := Lib.hid hm9
    have hbw : b5 + 2 < wr.heap.size := lt_of_block hm9
    obtain ⟨k0, k1, k2, kf⟩ := cells3x hm5
    obtain ⟨k3, k4, kf2⟩ := cells2 hm6
    obtain ⟨oa, oc, rfl⟩ := (Slc.owned (F := fun _ => True) (fun _ _ => trivial) hown).form
    clear hcqe hn1 htl hdim hm9
    by_cases hgo : j < n ∧ (j : Int) < most
    · obtain ⟨hlt, hmost⟩ := hgo
      obtain ⟨b, off, rfl, hbl, hnl, hnc, x5, x6, x7, x8⟩ := HAA.out.get (j := j) (by have := HNL.out; omega)
      obtain ⟨A, hA⟩ : ∃ A, A = l.getD j default := ⟨_, rfl⟩
      rw [← hA] at x5 x6 x7 x8
      have k5 := Same.cell hin x5
      have k6 := Same.cell hin x6
      have k7 := Same.cell hin x7
      have k8 := Same.cell hin x8
      have hdrop : l.drop j = A :: l.drop (j + 1) := by rw [List.drop_eq_getElem_cons (by omega), hA]; simp [List.getD, show j < l.length by omega]
      rw [hdrop, show most.toNat - j = (most.toNat - (j + 1)) + 1 by omega] at r1 r2 r3
      have g0 : (0 : Int) ≤ (j : Int) := Int.natCast_nonneg _
      have g1 : (j : Int) < (n : Int) := by omega
      have g2 : decide (j < n) = true := decide_eq_true hlt
      have g3 : decide ((j : Int) < most) = true := decide_eq_true hmost
      clear x5 x6 x7 x8 hdrop hA hnl
      obtain ⟨FO, hFO⟩ : ∃ FO : Nat → Prop, FO = fun q => F q ∧ q ≠ b5 ∧ q ≠ b5 + 2 ∧ Value.ownBlock (.slice oa j oc) ≠ some q := ⟨_, rfl⟩
      rw [← hFO] at hrm
      have HFOE := Lib.hid hFO
      have HFO : Hid (∀ q, wr.heap.size ≤ q → FO q) := Lib.hid fun q hq => by
        rw [hFO]
        refine ⟨HF.out q (by have := hin.size; omega), by omega, by omega, fun e => ?_⟩
        have := (HOWN.out.lt q e).2
        omega
      obtain ⟨wb, rfl⟩ : ∃ x, x = wr := ⟨_, rfl⟩
      have HM5 := Lib.hid hm5
      have HM6 := Lib.hid hm6
      clear hFO hm5 hm6 kf kf2 hown
      cases hok : okB Lj ci ce A.op A.at_ with
      | false =>
        have HOK := Lib.hid hok
        rw [runs_no hok] at r1 r2 r3
        have R1 := Lib.hid r1
        have R2 := Lib.hid r2
        clear hok r1 r2 r3
        go_upto_region 5 with fail
        go_cut [14] from 15 to 45 (fun s14 wx => s14 = .bool false ∧ Same wb wx)
        case first =>
          refine wp_region_held_drew (S := (fun v => v.cell? ⟨b5, 0, none⟩ = some (.slice wa n1 wk) ∧ v.cell? ⟨b5, 1, none⟩ = some (.slice ea n1 ec) ∧ v.cell? ⟨b5, 2, none⟩ = some (.int .i64 (cq : Int)) ∧ v.cell? ⟨b5 + 1, 0, none⟩ = some (.int .i64 ci) ∧ v.cell? ⟨b5 + 1, 1, none⟩ = some (.int .u64 ce) ∧ v.cell? ⟨b, off + j * 4, none⟩ = some (.int .i64 A.op) ∧ v.cell? ⟨b, off + j * 4 + 1, none⟩ = some (.int .i64 A.at_) ∧ v.cell? ⟨b, off + j * 4 + 2, none⟩ = some (.int .u64 A.x) ∧ v.cell? ⟨b, off + j * 4 + 3, none⟩ = some (.int .u64 A.y))) (by kernel_rfl) ?_ (fun hHeld => ?_)
          · exact ⟨(Sep.drew (fun _ => False) wb).cell k0 (fun x => x), (Sep.drew (fun _ => False) wb).cell k1 (fun x => x), (Sep.drew (fun _ => False) wb).cell k2 (fun x => x), (Sep.drew (fun _ => False) wb).cell k3 (fun x => x), (Sep.drew (fun _ => False) wb).cell k4 (fun x => x), (Sep.drew (fun _ => False) wb).cell k5 (fun x => x), (Sep.drew (fun _ => False) wb).cell k6 (fun x => x), (Sep.drew (fun _ => False) wb).cell k7 (fun x => x), (Sep.drew (fun _ => False) wb).cell k8 (fun x => x)⟩
          change wpAnyH _ _ _ _ _ 15 _ _ _
          refine wpAnyH_take (i := 0) (oi := ⟨some 27, _, _, _, _, _⟩) (v := ?v1) rfl (by kernel_rfl) (by kernel_rfl) (by kernel_rfl) (fun _ _ _ h => h) (Or.inl ⟨by kernel_rfl, ?h1⟩) hHeld ?_
          case h1 => intro w hSw; (try dsimp only at hSw); go_simp; try with_reducible rfl
          try simp only [Act.put, List.setIfInBounds_toArray, List.set_cons_zero, List.set_cons_succ]
          refine wpAnyH_take (i := 1) (oi := ⟨some 28, _, _, _, _, _⟩) (v := ?v2) rfl (by kernel_rfl) (by kernel_rfl) (by kernel_rfl) (fun _ _ _ h => h) (Or.inl ⟨by kernel_rfl, ?h2⟩) hHeld ?_
          case h2 => intro w hSw; (try dsimp only at hSw); go_simp; try with_reducible rfl
          try simp only [Act.put, List.setIfInBounds_toArray, List.set_cons_zero, List.set_cons_succ]
          refine wpAnyH_take (i := 2) (oi := ⟨some 29, _, _, _, _, _⟩) (v := ?v3) rfl (by kernel_rfl) (by kernel_rfl) (by kernel_rfl) (fun _ _ _ h => h) (Or.inl ⟨by kernel_rfl, ?h3⟩) hHeld ?_
          case h3 => intro w hSw; (try dsimp only at hSw); go_simp; try with_reducible rfl
          try simp only [Act.put, List.setIfInBounds_toArray, List.set_cons_zero, List.set_cons_succ]
          refine wpAnyH_take (i := 3) (oi := ⟨some 30, _, _, _, _, _⟩) (v := ?v4) rfl (by kernel_rfl) (by kernel_rfl) (by kernel_rfl) (fun _ _ _ h => h) (Or.inl ⟨by kernel_rfl, ?h4⟩) hHeld ?_
          case h4 => intro w hSw; (try dsimp only at hSw); go_simp; try with_reducible rfl
          try simp only [Act.put, List.setIfInBounds_toArray, List.set_cons_zero, List.set_cons_succ]
          refine wpAnyH_take (i := 4) (oi := ⟨some 31, _, _, _, _, _⟩) (v := ?v5) rfl (by kernel_rfl) (by kernel_rfl) (by kernel_rfl) (fun _ _ _ h => h) (Or.inl ⟨by kernel_rfl, ?h5⟩) hHeld ?_
          case h5 => intro w hSw; (try dsimp only at hSw); go_simp; try with_reducible rfl
          try simp only [Act.put, List.setIfInBounds_toArray, List.set_cons_zero, List.set_cons_succ]
          refine wpAnyH_take (i := 5) (oi := ⟨some 32, _, _, _, _, _⟩) (v := ?v6) rfl (by kernel_rfl) (by kernel_rfl) (by kernel_rfl) (fun _ _ _ h => h) (Or.inl ⟨by kernel_rfl, ?h6⟩) hHeld ?_
          case h6 => intro w hSw; (try dsimp only at hSw); go_simp; try with_reducible rfl
          try simp only [Act.put, List.setIfInBounds_toArray, List.set_cons_zero, List.set_cons_succ]
          refine wpAnyH_ready (rs := [6, 11]) (by kernel_rfl) (by simp) ?_
          refine AllReadyH.cons (o := ⟨some 33, _, _, _, _, _⟩) rfl (fun K hK => ?_) ?_
          ·
            rw [if_pos (by kernel_rfl)]
            go_simp
            refine (rdo_no (hrm.same (Sep.drew (fun _ => False) wb)) ci ce A.op A.at_ A.x A.y HOK.out).mono ?_
            rintro e wd ⟨rfl, hsd⟩
            have hD : Same wb wd := Sep.trans (Sep.drew (fun _ => False) wb) hsd
            refine hK.out _ _ ?_ (fun hHeld => ?_)
            · exact ⟨Same.cell hD k0, Same.cell hD k1, Same.cell hD k2, Same.cell hD k3, Same.cell hD k4, Same.cell hD k5, Same.cell hD k6, Same.cell hD k7, Same.cell hD k8⟩
            clear hK K
            try simp only [Act.put, List.setIfInBounds_toArray, List.set_cons_zero, List.set_cons_succ]
            refine wpAnyH_take (i := 7) (oi := ⟨some 26, _, _, _, _, _⟩) (v := ?v7) rfl (by kernel_rfl) (by kernel_rfl) (by kernel_rfl) (fun _ _ _ h => h) (Or.inl ⟨by kernel_rfl, ?h7⟩) hHeld ?_
            case h7 => intro w hSw; (try dsimp only at hSw); go_simp; try with_reducible rfl
            try simp only [Act.put, List.setIfInBounds_toArray, List.set_cons_zero, List.set_cons_succ]
            refine wpAnyH_take (i := 8) (oi := ⟨some 34, _, _, _, _, _⟩) (v := ?v8) rfl (by kernel_rfl) (by kernel_rfl) (by kernel_rfl) (fun _ _ _ h => h) (Or.inl ⟨by kernel_rfl, ?h8⟩) hHeld ?_
            case h8 => intro w hSw; (try dsimp only at hSw); go_simp; try with_reducible rfl
            try simp only [Act.put, List.setIfInBounds_toArray, List.set_cons_zero, List.set_cons_succ]
            refine wpAnyH_take (i := 9) (oi := ⟨some 35, _, _, _, _, _⟩) (v := ?v9) rfl (by kernel_rfl) (by kernel_rfl) (by kernel_rfl) (fun _ _ _ h => h) (Or.inl ⟨by kernel_rfl, ?h9⟩) hHeld ?_
            case h9 => intro w hSw; (try dsimp only at hSw); go_simp; try with_reducible rfl
            try simp only [Act.put, List.setIfInBounds_toArray, List.set_cons_zero, List.set_cons_succ]
            refine wpAnyH_take (i := 10) (oi := ⟨some 36, _, _, _, _, _⟩) (v := ?v10) rfl (by kernel_rfl) (by kernel_rfl) (by kernel_rfl) (fun _ _ _ h => h) (Or.inl ⟨by kernel_rfl, ?h10⟩) hHeld ?_
            case h10 => intro w hSw; (try dsimp only at hSw); go_simp; try with_reducible rfl
            try simp only [Act.put, List.setIfInBounds_toArray, List.set_cons_zero, List.set_cons_succ]
            refine wpAnyH_ready (rs := [11]) (by kernel_rfl) (by simp) ?_
            refine AllReadyH.cons (o := ⟨some 12, _, _, _, _, _⟩) rfl (fun K hK => ?_) AllReadyH.nil
            rw [if_pos (by kernel_rfl)]
            go_simp
            obtain ⟨wA, hwA⟩ : ∃ x, x = wd.alloc (.cells #[.slice none 0 0, .slice none 0 0, .int .i64 0] 51) := ⟨_, rfl⟩
            rw [← hwA]
            obtain ⟨b12, hb12⟩ : ∃ b, b = wd.heap.size := ⟨_, rfl⟩
            have hA0 : Same wd wA := by rw [hwA]; exact Sep.alloc _ _ _
            have hA : Same wb wA := Sep.trans (hD) hA0
            have ob12 : wA.heap[b12]? = some (.cells #[.slice none 0 0, .slice none 0 0, .int .i64 0] 51) := by rw [hwA, hb12]; exact heap_alloc_new _ _
            have g12 : wb.heap.size ≤ b12 := by have := Sep.size (hD); omega
            rw [← hb12]
            clear hwA hb12
            refine hK.out _ _ ?_ (fun hHeld => ?_)
            · exact ⟨Same.cell hA k0, Same.cell hA k1, Same.cell hA k2, Same.cell hA k3, Same.cell hA k4, Same.cell hA k5, Same.cell hA k6, Same.cell hA k7, Same.cell hA k8⟩
            clear hK K
            try simp only [Act.put, List.setIfInBounds_toArray, List.set_cons_zero, List.set_cons_succ]
            refine wpAnyH_ready (rs := [12]) (by kernel_rfl) (by simp) ?_
            refine AllReadyH.cons (o := ⟨none, _, _, _, _, _⟩) rfl (fun K hK => ?_) AllReadyH.nil
            obtain ⟨t0, t1, t2, tf⟩ := cells3x ob12
            rw [if_pos (by kernel_rfl)]
            go_simp
            obtain ⟨wT, hwT⟩ : ∃ x, x = (((wA.setCell ⟨b12, 0, none⟩ (.slice wa n1 wk)).setCell ⟨b12, 1, none⟩ (.slice ea n1 ec)).setCell ⟨b12, 2, none⟩ (.int .i64 (cq : Int))) := ⟨_, rfl⟩
            rw [← hwT]
            have h7 : Sep (fun k => k = b12) wA wT := by rw [hwT]; exact sep3 wA b12 (.slice wa n1 wk) (.slice ea n1 ec) (.int .i64 (cq : Int))
            have obT : wT.heap[b12]? = some (.cells #[.slice wa n1 wk, .slice ea n1 ec, .int .i64 (cq : Int)] 51) := by rw [hwT]; exact heap3 ob12 rfl
            have hT : Same wb wT := same_then (hA) g12 h7
            clear hwT t0 t1 t2 tf
            refine hK.out _ _ ?_ (fun hHeld => ?_)
            · exact ⟨Same.cell hT k0, Same.cell hT k1, Same.cell hT k2, Same.cell hT k3, Same.cell hT k4, Same.cell hT k5, Same.cell hT k6, Same.cell hT k7, Same.cell hT k8⟩
            clear hK K
            try simp only [Act.put, List.setIfInBounds_toArray, List.set_cons_zero, List.set_cons_succ]
            refine wpAnyH_take (i := 13) (oi := ⟨some 13, _, _, _, _, _⟩) (v := ?v11) rfl (by kernel_rfl) (by kernel_rfl) (by kernel_rfl) (fun _ _ _ h => h) (Or.inl ⟨by kernel_rfl, ?h11⟩) hHeld ?_
            case h11 => intro w hSw; (try dsimp only at hSw); go_simp; try with_reducible rfl
            try simp only [Act.put, List.setIfInBounds_toArray, List.set_cons_zero, List.set_cons_succ]
            refine wpAnyH_take (i := 14) (oi := ⟨some 14, _, _, _, _, _⟩) (v := ?v12) rfl (by kernel_rfl) (by kernel_rfl) (by kernel_rfl) (fun _ _ _ h => h) (Or.inl ⟨by kernel_rfl, ?h12⟩) hHeld ?_
            case h12 => intro w hSw; (try dsimp only at hSw); go_simp; try with_reducible rfl
            try simp only [Act.put, List.setIfInBounds_toArray, List.set_cons_zero, List.set_cons_succ]
            refine wpAnyH_done (by kernel_rfl) ?_ _
            clear hHeld
            go_wp2
            go_meet
            case rel =>
              exact ⟨rfl, hT⟩
          refine AllReadyH.cons (o := ⟨some 12, _, _, _, _, _⟩) rfl (fun K hK => ?_) AllReadyH.nil
          ·
            rw [if_pos (by kernel_rfl)]
            go_simp
            obtain ⟨wA, hwA⟩ : ∃ x, x = (wb.alloc (.cells #[.slice none 0 0, .slice none 0 0, .int .i64 0] 51)).drew := ⟨_, rfl⟩
            rw [← hwA]
            obtain ⟨b12, hb12⟩ : ∃ b, b = wb.heap.size := ⟨_, rfl⟩
            have hA : Same wb wA := by rw [hwA]; exact Sep.trans (Sep.alloc _ wb _) (Sep.drew _ _)
            have ob12 : wA.heap[b12]? = some (.cells #[.slice none 0 0, .slice none 0 0, .int .i64 0] 51) := by rw [hwA, hb12]; exact heap_alloc_new wb _
            have g12 : wb.heap.size ≤ b12 := by omega
            rw [← hb12]
            clear hwA hb12
            refine hK.out _ _ ?_ (fun hHeld => ?_)
            · exact ⟨Same.cell hA k0, Same.cell hA k1, Same.cell hA k2, Same.cell hA k3, Same.cell hA k4, Same.cell hA k5, Same.cell hA k6, Same.cell hA k7, Same.cell hA k8⟩
            clear hK K
            try simp only [Act.put, List.setIfInBounds_toArray, List.set_cons_zero, List.set_cons_succ]
            refine wpAnyH_ready (rs := [6]) (by kernel_rfl) (by simp) ?_
            refine AllReadyH.cons (o := ⟨some 33, _, _, _, _, _⟩) rfl (fun K hK => ?_) AllReadyH.nil
            rw [if_pos (by kernel_rfl)]
            go_simp
            refine (rdo_no (hrm.same (hA)) ci ce A.op A.at_ A.x A.y HOK.out).mono ?_
            rintro e wd ⟨rfl, hsd⟩
            have hD : Same wb wd := Sep.trans (hA) hsd
            refine hK.out _ _ ?_ (fun hHeld => ?_)
            · exact ⟨Same.cell hD k0, Same.cell hD k1, Same.cell hD k2, Same.cell hD k3, Same.cell hD k4, Same.cell hD k5, Same.cell hD k6, Same.cell hD k7, Same.cell hD k8⟩
            clear hK K
            try simp only [Act.put, List.setIfInBounds_toArray, List.set_cons_zero, List.set_cons_succ]
            refine wpAnyH_take (i := 7) (oi := ⟨some 26, _, _, _, _, _⟩) (v := ?v13) rfl (by kernel_rfl) (by kernel_rfl) (by kernel_rfl) (fun _ _ _ h => h) (Or.inl ⟨by kernel_rfl, ?h13⟩) hHeld ?_
            case h13 => intro w hSw; (try dsimp only at hSw); go_simp; try with_reducible rfl
            try simp only [Act.put, List.setIfInBounds_toArray, List.set_cons_zero, List.set_cons_succ]
            refine wpAnyH_take (i := 8) (oi := ⟨some 34, _, _, _, _, _⟩) (v := ?v14) rfl (by kernel_rfl) (by kernel_rfl) (by kernel_rfl) (fun _ _ _ h => h) (Or.inl ⟨by kernel_rfl, ?h14⟩) hHeld ?_
            case h14 => intro w hSw; (try dsimp only at hSw); go_simp; try with_reducible rfl
            try simp only [Act.put, List.setIfInBounds_toArray, List.set_cons_zero, List.set_cons_succ]
            refine wpAnyH_take (i := 9) (oi := ⟨some 35, _, _, _, _, _⟩) (v := ?v15) rfl (by kernel_rfl) (by kernel_rfl) (by kernel_rfl) (fun _ _ _ h => h) (Or.inl ⟨by kernel_rfl, ?h15⟩) hHeld ?_
            case h15 => intro w hSw; (try dsimp only at hSw); go_simp; try with_reducible rfl
            try simp only [Act.put, List.setIfInBounds_toArray, List.set_cons_zero, List.set_cons_succ]
            refine wpAnyH_take (i := 10) (oi := ⟨some 36, _, _, _, _, _⟩) (v := ?v16) rfl (by kernel_rfl) (by kernel_rfl) (by kernel_rfl) (fun _ _ _ h => h) (Or.inl ⟨by kernel_rfl, ?h16⟩) hHeld ?_
            case h16 => intro w hSw; (try dsimp only at hSw); go_simp; try with_reducible rfl
            try simp only [Act.put, List.setIfInBounds_toArray, List.set_cons_zero, List.set_cons_succ]
            refine wpAnyH_ready (rs := [12]) (by kernel_rfl) (by simp) ?_
            refine AllReadyH.cons (o := ⟨none, _, _, _, _, _⟩) rfl (fun K hK => ?_) AllReadyH.nil
            have ob12d := Same.obj hsd ob12
            obtain ⟨t0, t1, t2, tf⟩ := cells3x ob12d
            rw [if_pos (by kernel_rfl)]
            go_simp
            obtain ⟨wT, hwT⟩ : ∃ x, x = (((wd.setCell ⟨b12, 0, none⟩ (.slice wa n1 wk)).setCell ⟨b12, 1, none⟩ (.slice ea n1 ec)).setCell ⟨b12, 2, none⟩ (.int .i64 (cq : Int))) := ⟨_, rfl⟩
            rw [← hwT]
            have h7 : Sep (fun k => k = b12) wd wT := by rw [hwT]; exact sep3 wd b12 (.slice wa n1 wk) (.slice ea n1 ec) (.int .i64 (cq : Int))
            have obT : wT.heap[b12]? = some (.cells #[.slice wa n1 wk, .slice ea n1 ec, .int .i64 (cq : Int)] 51) := by rw [hwT]; exact heap3 ob12d rfl
            have hT : Same wb wT := same_then (hD) g12 h7
            clear hwT t0 t1 t2 tf
            refine hK.out _ _ ?_ (fun hHeld => ?_)
            · exact ⟨Same.cell hT k0, Same.cell hT k1, Same.cell hT k2, Same.cell hT k3, Same.cell hT k4, Same.cell hT k5, Same.cell hT k6, Same.cell hT k7, Same.cell hT k8⟩
            clear hK K
            try simp only [Act.put, List.setIfInBounds_toArray, List.set_cons_zero, List.set_cons_succ]
            refine wpAnyH_take (i := 13) (oi := ⟨some 13, _, _, _, _, _⟩) (v := ?v17) rfl (by kernel_rfl) (by kernel_rfl) (by kernel_rfl) (fun _ _ _ h => h) (Or.inl ⟨by kernel_rfl, ?h17⟩) hHeld ?_
            case h17 => intro w hSw; (try dsimp only at hSw); go_simp; try with_reducible rfl
            try simp only [Act.put, List.setIfInBounds_toArray, List.set_cons_zero, List.set_cons_succ]
            refine wpAnyH_take (i := 14) (oi := ⟨some 14, _, _, _, _, _⟩) (v := ?v18) rfl (by kernel_rfl) (by kernel_rfl) (by kernel_rfl) (fun _ _ _ h => h) (Or.inl ⟨by kernel_rfl, ?h18⟩) hHeld ?_
            case h18 => intro w hSw; (try dsimp only at hSw); go_simp; try with_reducible rfl
            try simp only [Act.put, List.setIfInBounds_toArray, List.set_cons_zero, List.set_cons_succ]
            refine wpAnyH_done (by kernel_rfl) ?_ _
            clear hHeld
            go_wp2
            go_meet
            case rel =>
              exact ⟨rfl, hT⟩
        case rest =>
          obtain ⟨rfl, hsx⟩ := hcut
          obtain ⟨q0, q1, q2, qf⟩ := cells3x (Same.obj hsx HM5.out)
          obtain ⟨t0, t1, t2, tf⟩ := cells3x (Same.obj hsx HM9.out)
          have HSX := Lib.hid hsx
          have HIN := Lib.hid hin
          have HRM := Lib.hid hrm
          clear hsx hin hrm k0 k1 k2 k3 k4 k5 k6 k7 k8
          go_wp2
          go_region
          all_goals
            go_wp2
            refine bodyPost_ret (v := .tuple #[.slice oa j oc, .agg #[.slice wa n1 wk, .slice ea n1 ec, .int .i64 (cq : Int)]]) (by simp [results, Try.results46, go_sem, t0, t1, t2]) rfl ?_
            have hrm := HRM.out
            rw [HFOE.out] at hrm
            exact rran (own_same HOWN.out HSX.out) HTL.out (hrm.same HSX.out) (HIN.out.trans HSX.out) ((sep3 _ (b5 + 2) _ _ _).trans (Sep.drew _ _)) HF.out HB5.out (Same.obj HSX.out HM9.out) R1.out (by simpa using R2.out) HCQ.out
      | true =>
        have HOK := Lib.hid hok
        rw [runs_yes hok] at r1 r2 r3
        have R1 := Lib.hid r1
        have R2 := Lib.hid r2
        have R3 := Lib.hid r3
        obtain ⟨was, hwas⟩ : ∃ was, was = peekOf Lj ci A.at_ := ⟨_, rfl⟩
        have HWAS := Lib.hid hwas
        clear hok r1 r2 r3 hwas
        go_upto_region 5 with fail
        go_cut [12, 13, 14] from 15 to 45 (fun s12 s13 s14 wx => ∃ (b12 : Nat) (xa : Option Addr) (xc : Nat) (ya : Option Addr) (yc n2 cq1 : Nat), cq1 = cq + 1 ∧ n2 = (doL Lj ci.toNat A.at_.toNat A.op A.x A.y).length ∧ s12 = .pointer (some ⟨b12, 0, none⟩) ∧ s13 = .int .u64 (peekOf Lj ci A.at_) ∧ s14 = .bool true ∧ Same wb wx ∧ wb.heap.size ≤ b12 ∧
          wx.heap[b12]? = some (.cells #[.slice xa n2 xc, .slice ya n2 yc, .int .i64 (cq1 : Int)] 51) ∧ RM FO wx (.agg #[.slice xa n2 xc, .slice ya n2 yc, .int .i64 (cq1 : Int)]) (doL Lj ci.toNat A.at_.toNat A.op A.x A.y) cq1)
        case first =>
          refine wp_region_held_drew (S := (fun v => v.cell? ⟨b5, 0, none⟩ = some (.slice wa n1 wk) ∧ v.cell? ⟨b5, 1, none⟩ = some (.slice ea n1 ec) ∧ v.cell? ⟨b5, 2, none⟩ = some (.int .i64 (cq : Int)) ∧ v.cell? ⟨b5 + 1, 0, none⟩ = some (.int .i64 ci) ∧ v.cell? ⟨b5 + 1, 1, none⟩ = some (.int .u64 ce) ∧ v.cell? ⟨b, off + j * 4, none⟩ = some (.int .i64 A.op) ∧ v.cell? ⟨b, off + j * 4 + 1, none⟩ = some (.int .i64 A.at_) ∧ v.cell? ⟨b, off + j * 4 + 2, none⟩ = some (.int .u64 A.x) ∧ v.cell? ⟨b, off + j * 4 + 3, none⟩ = some (.int .u64 A.y))) (by kernel_rfl) ?_ (fun hHeld => ?_)
          · exact ⟨(Sep.drew (fun _ => False) wb).cell k0 (fun x => x), (Sep.drew (fun _ => False) wb).cell k1 (fun x => x), (Sep.drew (fun _ => False) wb).cell k2 (fun x => x), (Sep.drew (fun _ => False) wb).cell k3 (fun x => x), (Sep.drew (fun _ => False) wb).cell k4 (fun x => x), (Sep.drew (fun _ => False) wb).cell k5 (fun x => x), (Sep.drew (fun _ => False) wb).cell k6 (fun x => x), (Sep.drew (fun _ => False) wb).cell k7 (fun x => x), (Sep.drew (fun _ => False) wb).cell k8 (fun x => x)⟩
          change wpAnyH _ _ _ _ _ 15 _ _ _
          refine wpAnyH_take (i := 0) (oi := ⟨some 27, _, _, _, _, _⟩) (v := ?v19) rfl (by kernel_rfl) (by kernel_rfl) (by kernel_rfl) (fun _ _ _ h => h) (Or.inl ⟨by kernel_rfl, ?h19⟩) hHeld ?_
          case h19 => intro w hSw; (try dsimp only at hSw); go_simp; try with_reducible rfl
          try simp only [Act.put, List.setIfInBounds_toArray, List.set_cons_zero, List.set_cons_succ]
          refine wpAnyH_take (i := 1) (oi := ⟨some 28, _, _, _, _, _⟩) (v := ?v20) rfl (by kernel_rfl) (by kernel_rfl) (by kernel_rfl) (fun _ _ _ h => h) (Or.inl ⟨by kernel_rfl, ?h20⟩) hHeld ?_
          case h20 => intro w hSw; (try dsimp only at hSw); go_simp; try with_reducible rfl
          try simp only [Act.put, List.setIfInBounds_toArray, List.set_cons_zero, List.set_cons_succ]
          refine wpAnyH_take (i := 2) (oi := ⟨some 29, _, _, _, _, _⟩) (v := ?v21) rfl (by kernel_rfl) (by kernel_rfl) (by kernel_rfl) (fun _ _ _ h => h) (Or.inl ⟨by kernel_rfl, ?h21⟩) hHeld ?_
          case h21 => intro w hSw; (try dsimp only at hSw); go_simp; try with_reducible rfl
          try simp only [Act.put, List.setIfInBounds_toArray, List.set_cons_zero, List.set_cons_succ]
          refine wpAnyH_take (i := 3) (oi := ⟨some 30, _, _, _, _, _⟩) (v := ?v22) rfl (by kernel_rfl) (by kernel_rfl) (by kernel_rfl) (fun _ _ _ h => h) (Or.inl ⟨by kernel_rfl, ?h22⟩) hHeld ?_
          case h22 => intro w hSw; (try dsimp only at hSw); go_simp; try with_reducible rfl
          try simp only [Act.put, List.setIfInBounds_toArray, List.set_cons_zero, List.set_cons_succ]
          refine wpAnyH_take (i := 4) (oi := ⟨some 31, _, _, _, _, _⟩) (v := ?v23) rfl (by kernel_rfl) (by kernel_rfl) (by kernel_rfl) (fun _ _ _ h => h) (Or.inl ⟨by kernel_rfl, ?h23⟩) hHeld ?_
          case h23 => intro w hSw; (try dsimp only at hSw); go_simp; try with_reducible rfl
          try simp only [Act.put, List.setIfInBounds_toArray, List.set_cons_zero, List.set_cons_succ]
          refine wpAnyH_take (i := 5) (oi := ⟨some 32, _, _, _, _, _⟩) (v := ?v24) rfl (by kernel_rfl) (by kernel_rfl) (by kernel_rfl) (fun _ _ _ h => h) (Or.inl ⟨by kernel_rfl, ?h24⟩) hHeld ?_
          case h24 => intro w hSw; (try dsimp only at hSw); go_simp; try with_reducible rfl
          try simp only [Act.put, List.setIfInBounds_toArray, List.set_cons_zero, List.set_cons_succ]
          refine wpAnyH_ready (rs := [6, 11]) (by kernel_rfl) (by simp) ?_
          refine AllReadyH.cons (o := ⟨some 33, _, _, _, _, _⟩) rfl (fun K hK => ?_) ?_
          ·
            rw [if_pos (by kernel_rfl)]
            go_simp
            refine (rdo_yes (F := FO) (hrm.same (Sep.drew (fun _ => False) wb)) (fun q hq => HFO.out q (by have := Sep.size (Sep.drew (fun _ => False) wb); omega)) ci ce A.op A.at_ A.x A.y HOK.out hcq HDIM.out.1 HDIM.out.2).mono ?_
            rintro e wd ⟨vd, rfl, hrd, hsd⟩
            obtain ⟨xa, xc, ya, yc, rfl⟩ := hrd.form
            obtain ⟨n2, hn2⟩ : ∃ n, n = (doL Lj ci.toNat A.at_.toNat A.op A.x A.y).length := ⟨_, rfl⟩
            rw [← hn2] at hrd ⊢
            obtain ⟨cq1, hcq1⟩ : ∃ k, k = cq + 1 := ⟨_, rfl⟩
            rw [← hcq1] at hrd ⊢
            have HCQ1 := Lib.hid hcq1
            have HRD := Lib.hid hrd
            have HN2 := Lib.hid hn2
            clear hrd hn2 hcq1
            have hD : Same wb wd := Sep.trans (Sep.drew (fun _ => False) wb) hsd
            refine hK.out _ _ ?_ (fun hHeld => ?_)
            · exact ⟨Same.cell hD k0, Same.cell hD k1, Same.cell hD k2, Same.cell hD k3, Same.cell hD k4, Same.cell hD k5, Same.cell hD k6, Same.cell hD k7, Same.cell hD k8⟩
            clear hK K
            try simp only [Act.put, List.setIfInBounds_toArray, List.set_cons_zero, List.set_cons_succ]
            refine wpAnyH_take (i := 7) (oi := ⟨some 26, _, _, _, _, _⟩) (v := ?v25) rfl (by kernel_rfl) (by kernel_rfl) (by kernel_rfl) (fun _ _ _ h => h) (Or.inl ⟨by kernel_rfl, ?h25⟩) hHeld ?_
            case h25 => intro w hSw; (try dsimp only at hSw); go_simp; try with_reducible rfl
            try simp only [Act.put, List.setIfInBounds_toArray, List.set_cons_zero, List.set_cons_succ]
            refine wpAnyH_take (i := 8) (oi := ⟨some 34, _, _, _, _, _⟩) (v := ?v26) rfl (by kernel_rfl) (by kernel_rfl) (by kernel_rfl) (fun _ _ _ h => h) (Or.inl ⟨by kernel_rfl, ?h26⟩) hHeld ?_
            case h26 => intro w hSw; (try dsimp only at hSw); go_simp; try with_reducible rfl
            try simp only [Act.put, List.setIfInBounds_toArray, List.set_cons_zero, List.set_cons_succ]
            refine wpAnyH_take (i := 9) (oi := ⟨some 35, _, _, _, _, _⟩) (v := ?v27) rfl (by kernel_rfl) (by kernel_rfl) (by kernel_rfl) (fun _ _ _ h => h) (Or.inl ⟨by kernel_rfl, ?h27⟩) hHeld ?_
            case h27 => intro w hSw; (try dsimp only at hSw); go_simp; try with_reducible rfl
            try simp only [Act.put, List.setIfInBounds_toArray, List.set_cons_zero, List.set_cons_succ]
            refine wpAnyH_take (i := 10) (oi := ⟨some 36, _, _, _, _, _⟩) (v := ?v28) rfl (by kernel_rfl) (by kernel_rfl) (by kernel_rfl) (fun _ _ _ h => h) (Or.inl ⟨by kernel_rfl, ?h28⟩) hHeld ?_
            case h28 => intro w hSw; (try dsimp only at hSw); go_simp; try with_reducible rfl
            try simp only [Act.put, List.setIfInBounds_toArray, List.set_cons_zero, List.set_cons_succ]
            refine wpAnyH_ready (rs := [11]) (by kernel_rfl) (by simp) ?_
            refine AllReadyH.cons (o := ⟨some 12, _, _, _, _, _⟩) rfl (fun K hK => ?_) AllReadyH.nil
            rw [if_pos (by kernel_rfl)]
            go_simp
            obtain ⟨wA, hwA⟩ : ∃ x, x = wd.alloc (.cells #[.slice none 0 0, .slice none 0 0, .int .i64 0] 51) := ⟨_, rfl⟩
            rw [← hwA]
            obtain ⟨b12, hb12⟩ : ∃ b, b = wd.heap.size := ⟨_, rfl⟩
            have HRD1 := Lib.hid (HRD.out.imp (G := fun q => FO q ∧ q ≠ b12) (fun q hq hlt => ⟨hq, by omega⟩))
            clear HRD
            have HRD := HRD1
            clear HRD1
            have hA0 : Same wd wA := by rw [hwA]; exact Sep.alloc _ _ _
            have hA : Same wb wA := Sep.trans (hD) hA0
            have ob12 : wA.heap[b12]? = some (.cells #[.slice none 0 0, .slice none 0 0, .int .i64 0] 51) := by rw [hwA, hb12]; exact heap_alloc_new _ _
            have g12 : wb.heap.size ≤ b12 := by have := Sep.size (hD); omega
            rw [← hb12]
            clear hwA hb12
            refine hK.out _ _ ?_ (fun hHeld => ?_)
            · exact ⟨Same.cell hA k0, Same.cell hA k1, Same.cell hA k2, Same.cell hA k3, Same.cell hA k4, Same.cell hA k5, Same.cell hA k6, Same.cell hA k7, Same.cell hA k8⟩
            clear hK K
            try simp only [Act.put, List.setIfInBounds_toArray, List.set_cons_zero, List.set_cons_succ]
            refine wpAnyH_ready (rs := [12]) (by kernel_rfl) (by simp) ?_
            refine AllReadyH.cons (o := ⟨none, _, _, _, _, _⟩) rfl (fun K hK => ?_) AllReadyH.nil
            obtain ⟨t0, t1, t2, tf⟩ := cells3x ob12
            rw [if_pos (by kernel_rfl)]
            go_simp
            obtain ⟨wT, hwT⟩ : ∃ x, x = (((wA.setCell ⟨b12, 0, none⟩ (.slice xa n2 xc)).setCell ⟨b12, 1, none⟩ (.slice ya n2 yc)).setCell ⟨b12, 2, none⟩ (.int .i64 (cq1 : Int))) := ⟨_, rfl⟩
            rw [← hwT]
            have h7 : Sep (fun k => k = b12) wA wT := by rw [hwT]; exact sep3 wA b12 (.slice xa n2 xc) (.slice ya n2 yc) (.int .i64 (cq1 : Int))
            have obT : wT.heap[b12]? = some (.cells #[.slice xa n2 xc, .slice ya n2 yc, .int .i64 (cq1 : Int)] 51) := by rw [hwT]; exact heap3 ob12 rfl
            have hT : Same wb wT := same_then (hA) g12 h7
            clear hwT t0 t1 t2 tf
            refine hK.out _ _ ?_ (fun hHeld => ?_)
            · exact ⟨Same.cell hT k0, Same.cell hT k1, Same.cell hT k2, Same.cell hT k3, Same.cell hT k4, Same.cell hT k5, Same.cell hT k6, Same.cell hT k7, Same.cell hT k8⟩
            clear hK K
            try simp only [Act.put, List.setIfInBounds_toArray, List.set_cons_zero, List.set_cons_succ]
            refine wpAnyH_take (i := 13) (oi := ⟨some 13, _, _, _, _, _⟩) (v := ?v29) rfl (by kernel_rfl) (by kernel_rfl) (by kernel_rfl) (fun _ _ _ h => h) (Or.inl ⟨by kernel_rfl, ?h29⟩) hHeld ?_
            case h29 => intro w hSw; (try dsimp only at hSw); go_simp; try with_reducible rfl
            try simp only [Act.put, List.setIfInBounds_toArray, List.set_cons_zero, List.set_cons_succ]
            refine wpAnyH_take (i := 14) (oi := ⟨some 14, _, _, _, _, _⟩) (v := ?v30) rfl (by kernel_rfl) (by kernel_rfl) (by kernel_rfl) (fun _ _ _ h => h) (Or.inl ⟨by kernel_rfl, ?h30⟩) hHeld ?_
            case h30 => intro w hSw; (try dsimp only at hSw); go_simp; try with_reducible rfl
            try simp only [Act.put, List.setIfInBounds_toArray, List.set_cons_zero, List.set_cons_succ]
            refine wpAnyH_done (by kernel_rfl) ?_ _
            clear hHeld
            go_wp2
            go_meet
            case rel =>
              exact ⟨b12, xa, xc, ya, yc, n2, cq1, HCQ1.out, HN2.out, rfl, rfl, rfl, hT, g12, obT, (RM.stay (HRD.out.same hA0) h7 (fun q hq _ e => hq.2 e)).imp fun q hq _ => hq.1⟩
          refine AllReadyH.cons (o := ⟨some 12, _, _, _, _, _⟩) rfl (fun K hK => ?_) AllReadyH.nil
          ·
            rw [if_pos (by kernel_rfl)]
            go_simp
            obtain ⟨wA, hwA⟩ : ∃ x, x = (wb.alloc (.cells #[.slice none 0 0, .slice none 0 0, .int .i64 0] 51)).drew := ⟨_, rfl⟩
            rw [← hwA]
            obtain ⟨b12, hb12⟩ : ∃ b, b = wb.heap.size := ⟨_, rfl⟩
            have hA : Same wb wA := by rw [hwA]; exact Sep.trans (Sep.alloc _ wb _) (Sep.drew _ _)
            have ob12 : wA.heap[b12]? = some (.cells #[.slice none 0 0, .slice none 0 0, .int .i64 0] 51) := by rw [hwA, hb12]; exact heap_alloc_new wb _
            have g12 : wb.heap.size ≤ b12 := by omega
            rw [← hb12]
            clear hwA hb12
            refine hK.out _ _ ?_ (fun hHeld => ?_)
            · exact ⟨Same.cell hA k0, Same.cell hA k1, Same.cell hA k2, Same.cell hA k3, Same.cell hA k4, Same.cell hA k5, Same.cell hA k6, Same.cell hA k7, Same.cell hA k8⟩
            clear hK K
            try simp only [Act.put, List.setIfInBounds_toArray, List.set_cons_zero, List.set_cons_succ]
            refine wpAnyH_ready (rs := [6]) (by kernel_rfl) (by simp) ?_
            refine AllReadyH.cons (o := ⟨some 33, _, _, _, _, _⟩) rfl (fun K hK => ?_) AllReadyH.nil
            rw [if_pos (by kernel_rfl)]
            go_simp
            refine (rdo_yes (F := fun q => FO q ∧ q ≠ b12) ((hrm.imp (G := fun q => FO q ∧ q ≠ b12) (fun q hq hlt => ⟨hq, by omega⟩)).same (hA)) (fun q hq => ⟨HFO.out q (by have := Sep.size (hA); omega), by have := lt_of_block ob12; omega⟩) ci ce A.op A.at_ A.x A.y HOK.out hcq HDIM.out.1 HDIM.out.2).mono ?_
            rintro e wd ⟨vd, rfl, hrd, hsd⟩
            obtain ⟨xa, xc, ya, yc, rfl⟩ := hrd.form
            obtain ⟨n2, hn2⟩ : ∃ n, n = (doL Lj ci.toNat A.at_.toNat A.op A.x A.y).length := ⟨_, rfl⟩
            rw [← hn2] at hrd ⊢
            obtain ⟨cq1, hcq1⟩ : ∃ k, k = cq + 1 := ⟨_, rfl⟩
            rw [← hcq1] at hrd ⊢
            have HCQ1 := Lib.hid hcq1
            have HRD := Lib.hid hrd
            have HN2 := Lib.hid hn2
            clear hrd hn2 hcq1
            have hD : Same wb wd := Sep.trans (hA) hsd
            refine hK.out _ _ ?_ (fun hHeld => ?_)
            · exact ⟨Same.cell hD k0, Same.cell hD k1, Same.cell hD k2, Same.cell hD k3, Same.cell hD k4, Same.cell hD k5, Same.cell hD k6, Same.cell hD k7, Same.cell hD k8⟩
            clear hK K
            try simp only [Act.put, List.setIfInBounds_toArray, List.set_cons_zero, List.set_cons_succ]
            refine wpAnyH_take (i := 7) (oi := ⟨some 26, _, _, _, _, _⟩) (v := ?v31) rfl (by kernel_rfl) (by kernel_rfl) (by kernel_rfl) (fun _ _ _ h => h) (Or.inl ⟨by kernel_rfl, ?h31⟩) hHeld ?_
            case h31 => intro w hSw; (try dsimp only at hSw); go_simp; try with_reducible rfl
            try simp only [Act.put, List.setIfInBounds_toArray, List.set_cons_zero, List.set_cons_succ]
            refine wpAnyH_take (i := 8) (oi := ⟨some 34, _, _, _, _, _⟩) (v := ?v32) rfl (by kernel_rfl) (by kernel_rfl) (by kernel_rfl) (fun _ _ _ h => h) (Or.inl ⟨by kernel_rfl, ?h32⟩) hHeld ?_
            case h32 => intro w hSw; (try dsimp only at hSw); go_simp; try with_reducible rfl
            try simp only [Act.put, List.setIfInBounds_toArray, List.set_cons_zero, List.set_cons_succ]
            refine wpAnyH_take (i := 9) (oi := ⟨some 35, _, _, _, _, _⟩) (v := ?v33) rfl (by kernel_rfl) (by kernel_rfl) (by kernel_rfl) (fun _ _ _ h => h) (Or.inl ⟨by kernel_rfl, ?h33⟩) hHeld ?_
            case h33 => intro w hSw; (try dsimp only at hSw); go_simp; try with_reducible rfl
            try simp only [Act.put, List.setIfInBounds_toArray, List.set_cons_zero, List.set_cons_succ]
            refine wpAnyH_take (i := 10) (oi := ⟨some 36, _, _, _, _, _⟩) (v := ?v34) rfl (by kernel_rfl) (by kernel_rfl) (by kernel_rfl) (fun _ _ _ h => h) (Or.inl ⟨by kernel_rfl, ?h34⟩) hHeld ?_
            case h34 => intro w hSw; (try dsimp only at hSw); go_simp; try with_reducible rfl
            try simp only [Act.put, List.setIfInBounds_toArray, List.set_cons_zero, List.set_cons_succ]
            refine wpAnyH_ready (rs := [12]) (by kernel_rfl) (by simp) ?_
            refine AllReadyH.cons (o := ⟨none, _, _, _, _, _⟩) rfl (fun K hK => ?_) AllReadyH.nil
            have ob12d := Same.obj hsd ob12
            obtain ⟨t0, t1, t2, tf⟩ := cells3x ob12d
            rw [if_pos (by kernel_rfl)]
            go_simp
            obtain ⟨wT, hwT⟩ : ∃ x, x = (((wd.setCell ⟨b12, 0, none⟩ (.slice xa n2 xc)).setCell ⟨b12, 1, none⟩ (.slice ya n2 yc)).setCell ⟨b12, 2, none⟩ (.int .i64 (cq1 : Int))) := ⟨_, rfl⟩
            rw [← hwT]
            have h7 : Sep (fun k => k = b12) wd wT := by rw [hwT]; exact sep3 wd b12 (.slice xa n2 xc) (.slice ya n2 yc) (.int .i64 (cq1 : Int))
            have obT : wT.heap[b12]? = some (.cells #[.slice xa n2 xc, .slice ya n2 yc, .int .i64 (cq1 : Int)] 51) := by rw [hwT]; exact heap3 ob12d rfl
            have hT : Same wb wT := same_then (hD) g12 h7
            clear hwT t0 t1 t2 tf
            refine hK.out _ _ ?_ (fun hHeld => ?_)
            · exact ⟨Same.cell hT k0, Same.cell hT k1, Same.cell hT k2, Same.cell hT k3, Same.cell hT k4, Same.cell hT k5, Same.cell hT k6, Same.cell hT k7, Same.cell hT k8⟩
            clear hK K
            try simp only [Act.put, List.setIfInBounds_toArray, List.set_cons_zero, List.set_cons_succ]
            refine wpAnyH_take (i := 13) (oi := ⟨some 13, _, _, _, _, _⟩) (v := ?v35) rfl (by kernel_rfl) (by kernel_rfl) (by kernel_rfl) (fun _ _ _ h => h) (Or.inl ⟨by kernel_rfl, ?h35⟩) hHeld ?_
            case h35 => intro w hSw; (try dsimp only at hSw); go_simp; try with_reducible rfl
            try simp only [Act.put, List.setIfInBounds_toArray, List.set_cons_zero, List.set_cons_succ]
            refine wpAnyH_take (i := 14) (oi := ⟨some 14, _, _, _, _, _⟩) (v := ?v36) rfl (by kernel_rfl) (by kernel_rfl) (by kernel_rfl) (fun _ _ _ h => h) (Or.inl ⟨by kernel_rfl, ?h36⟩) hHeld ?_
            case h36 => intro w hSw; (try dsimp only at hSw); go_simp; try with_reducible rfl
            try simp only [Act.put, List.setIfInBounds_toArray, List.set_cons_zero, List.set_cons_succ]
            refine wpAnyH_done (by kernel_rfl) ?_ _
            clear hHeld
            go_wp2
            go_meet
            case rel =>
              exact ⟨b12, xa, xc, ya, yc, n2, cq1, HCQ1.out, HN2.out, rfl, rfl, rfl, hT, g12, obT, (RM.stay HRD.out h7 (fun q hq _ e => hq.2 e)).imp fun q hq _ => hq.1⟩
        case rest =>
          obtain ⟨b12, xa, xc, ya, yc, n2, cq1, hcq1, hn2, rfl, rfl, rfl, hsx, hb12, hob12, hrd⟩ := hcut
          have HCQ1 := Lib.hid hcq1
          have HN2 := Lib.hid hn2
          clear hcq1 hn2
          rw [← HWAS.out]
          obtain ⟨q0, q1, q2, qf⟩ := cells3x (Same.obj hsx HM5.out)
          obtain ⟨t0, t1, t2, tf⟩ := cells3x hob12
          obtain ⟨i0, hi0, hz0, hz1, hz2⟩ := info_parts info23
          have HI0 := Lib.hid hi0
          obtain ⟨ts, hts⟩ : ∃ ts, ts = wds tj := ⟨_, rfl⟩
          obtain ⟨wX, hwX⟩ : ∃ x, x = ((wc.setCell ⟨b5, 0, none⟩ (.slice xa n2 xc)).setCell ⟨b5, 1, none⟩ (.slice ya n2 yc)).setCell ⟨b5, 2, none⟩ (.int .i64 (cq1 : Int)) := ⟨_, rfl⟩
          have h5X : Sep (fun k => k = b5) wc wX := by rw [hwX]; exact sep3 _ _ _ _ _
          have hobX : wX.heap[b5]? = some (.cells #[.slice xa n2 xc, .slice ya n2 yc, .int .i64 (cq1 : Int)] 51) := by rw [hwX]; exact heap3 (Same.obj hsx HM5.out) rfl
          have hownX : wX.ownsRow b5 23 1 (.slice oa j oc) j ts := by
            rw [hwX, hts]
            exact ownsRow_setCell_other (ownsRow_setCell_other (ownsRow_setCell_other (own_same HOWN.out hsx) (own_kind (own_same HOWN.out hsx) (Same.obj hsx HM5.out) (by decide)) _) (own_kind (own_same HOWN.out hsx) (Same.obj hsx HM5.out) (by decide)) _) (own_kind (own_same HOWN.out hsx) (Same.obj hsx HM5.out) (by decide)) _
          have hszX : b5 + 2 < wX.heap.size := by have := hsx.size; have := h5X.size; omega
          have HWX := Lib.hid hwX
          have HTS := Lib.hid hts
          have HOBX := Lib.hid hobX
          have hFO5 : ∀ q, FO q → q ≠ b5 := fun q hq => by rw [HFOE.out] at hq; exact hq.2.1
          have HRX := Lib.hid (hrd.stay h5X (fun q hq _ => hFO5 q hq))
          have HB6X := Lib.hid (h5X.obj (Same.obj hsx HM6.out) (show ¬ (b5 + 1 = b5) by omega))
          have HM9X := Lib.hid (h5X.obj (Same.obj hsx HM9.out) (show ¬ (b5 + 2 = b5) by omega))
          have HSX : Hid (Same w wX) := Lib.hid (same_then (hin.trans hsx) (by have := HB5.out; omega) h5X)
          clear hwX hts hobX hsx h5X hrd hob12 hin hrm hi0 k0 k1 k2 k3 k4 k5 k6 k7 k8 hFO5
          go_upto_region 9 with fail
          rw [← HWX.out]
          go_wp2_with (first | (at_builtin; go_loud (refine wpList_append_lies _ rfl (.tmp 42) (.tmp 44) 22 rfl b5 23 i0 (.int .u64 0) 1 8 Try.underlying22 HI0.out hz0 hz1 hz2 rfl (by decide) (.slice oa j oc) j ts rfl (own_same hownX (Sep.alloc _ _ _)) ⟨wX.heap.size, 0, none⟩ 1 1 [.int .u64 was] rfl rfl (World.news_of_block (cs := #[.int .u64 was]) (t := 23) (fr := (0, 0)) (heap_alloc_new _ _)) (by simp [Value.oneCell']) (by omega) (by unfold maxLen; omega) (by omega) (by simp; omega) _ rfl ?_)))
          intro g2 cap2 w3 own3 gr3 hat3 hlt3
          have hat3' : Value.ownBlock (.slice oa j oc) = some g2 ∨ g2 = wX.heap.size + 1 := by simpa using hat3
          have sA := Sep.alloc (fun _ => False) wX (.cells #[.int .u64 was] 23)
          have s3 : Sep (fun k => Value.ownBlock (.slice oa j oc) = some k) (wX.alloc (.cells #[.int .u64 was] 23)) w3 := ⟨gr3.os, gr3.tape, gr3.output, gr3.size, fun k hk hn => gr3.block k hk (fun e => hn e.symm)⟩
          have keep : ∀ {b : Nat} {c : Array Value} {U : TypeId}, wX.heap[b]? = some (.cells c U) → 23 ≠ U → w3.heap[b]? = some (.cells c U) := fun {b c U} hb hne => s3.obj (Same.obj sA hb) (own_kind hownX hb hne)
          have hr3 : RM (fun q => F q ∧ q ≠ b5 ∧ q ≠ b5 + 2 ∧ Value.ownBlock (.slice (some ⟨g2, 0, none⟩) (j + 1) cap2) ≠ some q) w3 (.agg #[.slice xa n2 xc, .slice ya n2 yc, .int .i64 (cq1 : Int)]) (doL Lj ci.toNat A.at_.toNat A.op A.x A.y) cq1 := by
            have h1 := HRX.out.imp (G := fun q => FO q ∧ q < wX.heap.size) (fun q hq hlt => ⟨hq, hlt⟩)
            have h2 := (h1.same sA).stay s3 (fun q hq _ e => by
              have hq1 := hq.1
              rw [HFOE.out] at hq1
              exact hq1.2.2.2 e)
            refine h2.imp (fun q hq _ => ?_)
            have hq1 := hq.1
            rw [HFOE.out] at hq1
            refine ⟨hq1.1, hq1.2.1, hq1.2.2.1, fun e => ?_⟩
            simp [Value.ownBlock] at e
            subst e
            rcases hat3' with h | h
            · exact hq1.2.2.2 h
            · have := hq.2; omega
          have hs3 : Same w w3 := ⟨s3.os.trans (sA.os.trans HSX.out.os), s3.tape.trans (sA.tape.trans HSX.out.tape), s3.output.trans (sA.output.trans HSX.out.output), Nat.le_trans HSX.out.size (Nat.le_trans sA.size s3.size), fun k hk hn => (s3.block k (Nat.lt_of_lt_of_le hk (Nat.le_trans HSX.out.size sA.size)) (fun e => by have := (hownX.lt k e).1; have := HB5.out; omega)).trans ((sA.block k (Nat.lt_of_lt_of_le hk HSX.out.size) (fun x => x)).trans (HSX.out.block k hk (fun x => x)))⟩
          have K5 := Lib.hid (keep HOBX.out (by decide))
          have K6 := Lib.hid (keep HB6X.out (by decide))
          have K9 := Lib.hid (keep HM9X.out (by decide))
          have HR3 := Lib.hid hr3
          have HS3 := Lib.hid hs3
          have OWN3 : Hid (w3.ownsRow b5 23 1 (.slice (some ⟨g2, 0, none⟩) (j + 1) cap2) (j + 1) (wds (tj ++ [was]))) := by
            have e : wds (tj ++ [was]) = ts ++ [.int .u64 was] := by rw [HTS.out]; simp [wds]
            rw [e]
            exact own3
          have HDM : Hid (Dims (doL Lj ci.toNat A.at_.toNat A.op A.x A.y)) := Lib.hid (HDIM.out.doL _ _ _ _ _)
          have HL3 : Hid ((tj ++ [was]).length = j + 1) := by show (tj ++ [was]).length = j + 1; simp [HTL.out]
          clear keep hr3 hs3 own3 gr3 hat3 hat3' hlt3 s3 sA hownX
          go_wp2
          go_roundw
          case rel => exact ⟨j + 1, n2, cq1, tj ++ [was], _, xa, xc, ya, yc, by go_num, by omega, by have := HCQ1.out; have := HCQ.out; omega, HN2.out, K5.out, HR3.out, K6.out, K9.out, HS3.out, OWN3.out, HL3.out, HDM.out, R1.out, by rw [← R2.out, HWAS.out]; simp, R3.out⟩
          case measure => simp [intOf]; omega
    · have hend : runs ci ce Lj (l.drop j) (most.toNat - j) = (Lj, [], l.drop j) := by
        by_cases h1 : j < n
        · rw [show most.toNat - j = 0 by omega, runs_zero]
        · rw [List.drop_eq_nil_of_le (by have := HNL.out; omega), runs_nil]
      rw [hend] at r1 r2 r3
      have R1 := Lib.hid r1
      have R2 := Lib.hid r2
      obtain ⟨t0, t1, t2, tf⟩ := cells3x HM9.out
      have HIN := Lib.hid hin
      have HRM := Lib.hid hrm
      clear r1 r2 r3 hend hin hrm hm5 hm6
      by_cases h1 : j < n
      · have g2 : decide (j < n) = true := decide_eq_true h1
        have g3 : decide ((j : Int) < most) = false := decide_eq_false (by omega)
        clear hgo
        go_wp2
        go_region
        all_goals
          go_wp2
          refine bodyPost_ret (v := .tuple #[.slice oa j oc, .agg #[.slice wa n1 wk, .slice ea n1 ec, .int .i64 (cq : Int)]]) (by simp [results, Try.results46, go_sem, t0, t1, t2]) rfl ?_
          exact rran HOWN.out HTL.out HRM.out HIN.out ((sep3 _ (b5 + 2) _ _ _).trans (Sep.drew _ _)) HF.out HB5.out HM9.out R1.out (by simpa using R2.out) HCQ.out
      · have g2 : decide (j < n) = false := decide_eq_false h1
        clear hgo
        go_wp2
        go_region
        all_goals
          go_wp2
          refine bodyPost_ret (v := .tuple #[.slice oa j oc, .agg #[.slice wa n1 wk, .slice ea n1 ec, .int .i64 (cq : Int)]]) (by simp [results, Try.results46, go_sem, t0, t1, t2]) rfl ?_
          exact rran HOWN.out HTL.out HRM.out HIN.out ((sep3 _ (b5 + 2) _ _ _).trans (Sep.drew _ _)) HF.out HB5.out HM9.out R1.out (by simpa using R2.out) HCQ.out

end Go.Proofs.Ytiljledgoflogaa
