/- The reference's Bump. -/
import Derived.Test.YtiljledgoflogaaRf
namespace Go.Proofs.Ytiljledgoflogaa
open Go.RowKit
set_option linter.unusedSimpArgs false
set_option linter.unusedVariables false

theorem sep2b (w : World) (b : Nat) (x y : Value) : Sep (fun k => k = b) w ((w.setCell ⟨b, 0, none⟩ x).setCell ⟨b, 1, none⟩ y) :=
  ((Sep.refl (fun k => k = b) w).thenSet (.inl rfl) _).thenSet (.inl rfl) _
/-- The three blocks of Bump. -/
theorem three_p (w : World) (x0 x1 x2 : Value) : ∃ W, W = ((w.alloc (.cells #[x0, x1, x2] 51)).alloc (.cells #[.slice none 0 0, .slice none 0 0, .int .i64 0] 51)).alloc (.cells #[.int .i64 0, .int .u64 0] 33) ∧
    Same w W ∧ W.heap.size = w.heap.size + 3 ∧ W.heap[w.heap.size]? = some (.cells #[x0, x1, x2] 51) ∧ W.heap[w.heap.size + 1]? = some (.cells #[.slice none 0 0, .slice none 0 0, .int .i64 0] 51) ∧ W.heap[w.heap.size + 2]? = some (.cells #[.int .i64 0, .int .u64 0] 33) := by
  refine ⟨_, rfl, ((Sep.alloc _ _ _).thenAlloc _).thenAlloc _, by simp, ?_, ?_, ?_⟩
  · rw [Below.heap_alloc _ _ _ (by simp; omega), Below.heap_alloc _ _ _ (by simp)]; exact heap_alloc_new _ _
  · rw [Below.heap_alloc _ _ _ (by simp)]
    have e : (w.alloc (.cells #[x0, x1, x2] 51)).heap.size = w.heap.size + 1 := by simp
    rw [← e]; exact heap_alloc_new _ _
  · have e : ((w.alloc (.cells #[x0, x1, x2] 51)).alloc (.cells #[.slice none 0 0, .slice none 0 0, .int .i64 0] 51)).heap.size = w.heap.size + 2 := by simp
    rw [← e]; exact heap_alloc_new _ _

/-- The regions behind a bump of region i. -/
def bumpL (L : List Reg) (i : Nat) : List Reg := L.set i ⟨(L.getD i default).ws, (L.getD i default).ep + 1⟩
theorem bumpL_len (L : List Reg) (i : Nat) : (bumpL L i).length = L.length := by simp [bumpL]
theorem eps_bump (L : List Reg) (i : Nat) : eps (bumpL L i) = (eps L).set i (.int .u64 (((L.getD i default).ep + 1 : Nat) : Int)) := by
  unfold eps bumpL
  rw [List.map_set]
theorem rows_bump {F : Nat → Prop} {w : World} {cs : List Value} {L : List Reg} {i : Nat} (h : RowsOf F w cs L) : RowsOf F w cs (bumpL L i) := by
  intro j hj
  rw [bumpL_len] at hj
  obtain ⟨u, hu, hs⟩ := h j hj
  refine ⟨u, hu, ?_⟩
  unfold bumpL
  rw [getD_set _ _ _ _ hj]
  split
  · subst_vars; exact hs
  · exact hs
theorem cap_bump {L : List Reg} {i : Nat} (h : i < L.length) : capOf (bumpL L i) (i : Int) = .agg #[.int .i64 (i : Int), .int .u64 (((L.getD i default).ep + 1 : Nat) : Int)] := by
  rw [capOf_at (by rw [bumpL_len]; exact h)]
  unfold bumpL
  rw [getD_set _ _ _ _ h, if_pos rfl]

theorem o2lt' {w : World} {B e size g n c k : Nat} {xs : List Value} (h : w.ownsRow B e size (.slice (some ⟨g, 0, none⟩) n c) k xs) : B ≤ g := o2lt h

set_option maxRecDepth 100000 in
set_option maxHeartbeats 2000000 in
theorem rbump_at {F : Nat → Prop} {w : World} {L : List Reg} {cnt n wc eb eo ec ep : Nat} {wa : Option Addr} {cs : List Value} (i : Nat) (hnL : n = L.length) (hi : i < n) (hep : ep = (L.getD i default).ep) (he : ep < 1000000) (hn1 : n ≤ 1000) (hF : ∀ b, w.heap.size ≤ b → F b)
    (hWS : Slc 1 F w (.slice wa n wc) n cs) (hES : Slc 1 F w (.slice (some ⟨eb, eo, none⟩) n ec) n (eps L)) (hrows : RowsOf F w cs L) :
    Calls Try.prog 30 #[.agg #[.slice wa n wc, .slice (some ⟨eb, eo, none⟩) n ec, .int .i64 cnt], .int .i64 (i : Int)] w fun e w' => ∃ v', e = .returned (.tuple #[v', .agg #[.int .i64 (i : Int), .int .u64 ((ep + 1 : Nat) : Int)], .int .i64 0]) ∧ RM F w' v' (bumpL L i) cnt ∧ Same w w' := by
  have HF := Lib.hid hF
  have HNL := Lib.hid hnL
  have HEP := Lib.hid hep
  have HWS := Lib.hid hWS
  have HES := Lib.hid hES
  have HRW := Lib.hid hrows
  obtain ⟨i0, hi0, hz0, hz1, hz2⟩ := info_parts info23
  have HI0 := Lib.hid hi0
  obtain ⟨W, hW, hs0, hsz, b0, b1, b2⟩ := three_p w (.slice wa n wc) (.slice (some ⟨eb, eo, none⟩) n ec) (.int .i64 cnt)
  have g0 : (0 : Int) ≤ (i : Int) := Int.natCast_nonneg _
  have g1 : (i : Int) < (n : Int) := by omega
  obtain ⟨x0, x1, x2, xf⟩ := cells3x b0
  have HB0 := Lib.hid b0
  have HB1 := Lib.hid b1
  have HB2 := Lib.hid b2
  have HSZ := Lib.hid hsz
  have HW := Lib.hid hW
  have own0 : (W.alloc (.cells #[] 23)).ownsRow W.heap.size 23 1 (.slice (some ⟨W.heap.size, 0, none⟩) 0 0) 0 [] := World.ownsRow_made W #[] 0 (Nat.le_refl _) (by simp) rfl
  obtain ⟨hel, ⟨e, h0⟩ | ⟨eb', eo', ec', e, hEF, hElt, hElc, hEm, hEc⟩⟩ := HES.out
  · cases e
  obtain ⟨⟨rfl, rfl⟩, rfl⟩ : (eb = eb' ∧ eo = eo') ∧ ec = ec' := by simpa using e
  have hnews := Slc.news (w := w) (w' := W.alloc (.cells #[] 23)) (fun k hk => ((hs0.trans (Sep.alloc _ _ _)).block k hk (fun x => x))) hElt hEc
  have hone : ∀ u ∈ eps L, u.oneCell' = true := fun u hu => by
    simp [eps] at hu
    obtain ⟨r, _, rfl⟩ := hu
    rfl
  have q0 := fun o => (Sep.alloc (fun _ => False) W o).cell x0 (fun x => x)
  have q1 := fun o => (Sep.alloc (fun _ => False) W o).cell x1 (fun x => x)
  have q2 := fun o => (Sep.alloc (fun _ => False) W o).cell x2 (fun x => x)
  have OWN0 := Lib.hid own0
  have HEL := Lib.hid hel
  have HNW := Lib.hid hnews
  have HONE := Lib.hid hone
  clear hF hnL hep hWS hES hrows hi0 hW b0 b1 b2 hsz own0 hel hnews hone hEc e x0 x1 x2 xf
  go_enter Try.func30, Try.ntmps30
  go_upto_region 3 with fail
  rw [← HW.out]
  go_wp2_with (first | (at_builtin; go_loud (refine wpList_append_own _ rfl (.tmp 18) (.tmp 20) 22 rfl W.heap.size 23 i0 (.int .u64 0) 1 8 Try.underlying22 HI0.out hz0 hz1 hz2 rfl (by decide) (.slice (some ⟨W.heap.size, 0, none⟩) 0 0) 0 [] rfl OWN0.out ⟨eb, eo, none⟩ n ec (eps L) rfl HEL.out HNW.out HONE.out (by unfold maxLen; omega) (by omega) (by simp) ?_)))
  intro v1 w4 o1 gr1 _
  have s34 : Same W w4 := grow_same (Sep.alloc _ W _) gr1 (fun k hk => by simp [Value.ownBlock] at hk; omega)
  have sl1 : Slc 1 (fun b => W.heap.size ≤ b) w4 v1 n (eps L) := Slc.owned (fun b hb => hb) o1
  obtain ⟨g, cap1, cur1, rfl, hgl, gob⟩ : ∃ g cap1 cur1, v1 = .slice (some ⟨g, 0, none⟩) n cap1 ∧ W.heap.size ≤ g ∧ w4.heap[g]? = some (.cells cur1 23) := by
    obtain ⟨_, ⟨e, h0⟩ | ⟨g', cap', cur', e, hg', hh', _⟩⟩ := o1
    · omega
    · exact ⟨g', cap', cur', e, hg', hh'⟩
  have hgc : (eps L)[i]? = some (.int .u64 (ep : Int)) := by
    have := HNL.out
    have h2 := HEP.out
    simp [eps, List.getD, show i < L.length by omega] at h2 ⊢
    omega
  have gcell : w4.cell? ⟨g, i, none⟩ = some (.int .u64 (ep : Int)) := sl1.cellAt hgc
  have gfree : ∀ j, w4.frozen? ⟨g, j, none⟩ = false := fun j => free_of_heap gob
  have hb4 := s34.obj HB0.out
  obtain ⟨k0, k1, k2, kf⟩ := cells3x hb4
  have hcl : cap1 ≤ maxLen ∧ n ≤ cap1 := by
    obtain ⟨_, ⟨e, h0⟩ | ⟨g', off, cap', e, _, _, h1, h2, _⟩⟩ := sl1
    · cases e
    · obtain ⟨_, rfl⟩ : (g = g' ∧ 0 = off) ∧ cap1 = cap' := by simpa using e
      exact ⟨h2, h1⟩
  have hwr : IntKind.u64.wrap ((ep : Int) + 1) = ((ep + 1 : Nat) : Int) := by
    simp [IntKind.wrap, IntKind.bits, IntKind.signed]
    omega
  have ng : ¬ (g = w.heap.size) := by have := HSZ.out; omega
  have ng' : ¬ (w.heap.size = g) := fun e => ng e.symm
  have SL1 := Lib.hid sl1
  have S34 := Lib.hid (hs0.trans s34)
  have HB4 := Lib.hid hb4
  have O4' := Lib.hid (s34.obj HB1.out)
  have O5' := Lib.hid (s34.obj HB2.out)
  have HCL := Lib.hid hcl
  have HGL : Hid (w.heap.size + 3 ≤ g) := by have := HSZ.out; show _ ≤ _; omega
  clear sl1 s34 hb4 o1 gr1 q0 q1 q2 hgc hcl hgl gob OWN0 HNW HEL HONE HSZ HB0 HB1 HB2
  go_wp2
  obtain ⟨w5, hw5⟩ : ∃ x, x = (w4.setCell ⟨w.heap.size, 1, none⟩ (.slice (some ⟨g, 0, none⟩) n cap1)).setCell ⟨g, i, none⟩ (.int .u64 ((ep : Int) + 1)) := ⟨_, rfl⟩
  rw [← hw5]
  have s45 : Sep (fun k => k = w.heap.size ∨ k = g) w4 w5 := by rw [hw5]; exact ((Sep.refl _ w4).thenSet (.inl (.inl rfl)) _).thenSet (.inl (.inr rfl)) _
  have hb5 : w5.heap[w.heap.size]? = some (.cells #[.slice wa n wc, .slice (some ⟨g, 0, none⟩) n cap1, .int .i64 cnt] 51) := by
    rw [hw5, heap_set_other ng', heap_set_same HB4.out]
    rfl
  have O4 := Lib.hid (s45.obj O4'.out (by have := HGL.out; omega))
  have O5 := Lib.hid (s45.obj O5'.out (by have := HGL.out; omega))
  have sl5 : Slc 1 (fun b => W.heap.size ≤ b) w5 (.slice (some ⟨g, 0, none⟩) n cap1) n ((eps L).set i (.int .u64 ((ep : Int) + 1))) := by
    rw [hw5]
    exact (SL1.out.stay (Sep.setCell (fun k => k = w.heap.size) w4 _ _ (.inl rfl)) (fun b hb _ e => by have := S34.out.size; have hW3 := HW.out; rw [hW3] at hb; simp at hb; omega)).set hi
  have hs5 : Same w w5 := sep_chain S34.out s45 (fun k hk h => by have := HGL.out; omega)
  have HS5 := Lib.hid hs5
  have hrm5 : RM (fun b => F b ∧ b ≠ w.heap.size + 1 ∧ b ≠ w.heap.size + 2) w5 (.agg #[.slice wa n wc, .slice (some ⟨g, 0, none⟩) n cap1, .int .i64 cnt]) (bumpL L i) cnt := by
    have e1 : (bumpL L i).length = n := by rw [bumpL_len]; exact HNL.out.symm
    refine ⟨_, _, cs, rfl, ?_, ?_, ?_⟩
    · rw [e1]; exact Slc.stay (Slc.imp HWS.out (fun b hb hlt => ⟨hb, by omega, by omega⟩)) hs5 (fun _ _ _ x => x)
    · rw [e1, eps_bump, ← HEP.out]
      refine Slc.imp ?_ (fun b hb _ => hb)
      have h := sl5
      obtain ⟨hl, ⟨e, h0⟩ | ⟨b', off, cap', e, hB, hlt, hlc, hm, hc⟩⟩ := h
      · cases e
      · obtain ⟨⟨rfl, rfl⟩, rfl⟩ : (g = b' ∧ 0 = off) ∧ cap1 = cap' := by simpa using e
        have hgl := HGL.out
        exact ⟨by simpa using hl, .inr ⟨g, 0, cap1, rfl, ⟨HF.out g (by omega), by omega, by omega⟩, hlt, hlc, hm, by simpa using hc⟩⟩
    · refine rows_bump (RowsOf.stay ?_ hs5 (fun _ _ _ x => x))
      intro j hj
      obtain ⟨u, hu, hsl⟩ := HRW.out j hj
      exact ⟨u, hu, Slc.imp hsl (fun b hb hlt => ⟨hb, by omega, by omega⟩)⟩
  have hcap : capOf (bumpL L i) (i : Int) = .agg #[.int .i64 (i : Int), .int .u64 ((ep : Int) + 1)] := by
    have h := cap_bump (L := L) (i := i) (by have := HNL.out; omega)
    rw [← HEP.out] at h
    exact h
  obtain ⟨p0, p1, p2, pf⟩ := cells3x hb5
  have nq : ¬ (w.heap.size = w.heap.size + 1 ∨ w.heap.size = w.heap.size + 2) := by omega
  clear k0 k1 k2 kf hb5 sl5 hs5 s45 hw5 gcell gfree
  refine wp_region_held_drew (S := (fun v => v.cell? ⟨w.heap.size, 0, none⟩ = some (.slice wa n wc) ∧ v.cell? ⟨w.heap.size, 1, none⟩ = some (.slice (some ⟨g, 0, none⟩) n cap1) ∧ v.cell? ⟨w.heap.size, 2, none⟩ = some (.int .i64 cnt))) (by kernel_rfl) ?_ (fun hHeld => ?_)
  · exact ⟨(Sep.drew (fun _ => False) w5).cell p0 (fun x => x), (Sep.drew (fun _ => False) w5).cell p1 (fun x => x), (Sep.drew (fun _ => False) w5).cell p2 (fun x => x)⟩
  change wpAnyH _ _ _ _ _ 7 _ _ _
  refine wpAnyH_take (i := 0) (oi := ⟨some 30, _, _, _, _, _⟩) (v := ?v1) rfl (by kernel_rfl) (by kernel_rfl) (by kernel_rfl) (fun _ _ _ h => h) (Or.inl ⟨by kernel_rfl, ?h1⟩) hHeld ?_
  case h1 => intro w hSw; (try dsimp only at hSw); go_simp; try with_reducible rfl
  try simp only [Act.put, List.setIfInBounds_toArray, List.set_cons_zero, List.set_cons_succ]
  refine wpAnyH_take (i := 1) (oi := ⟨some 31, _, _, _, _, _⟩) (v := ?v2) rfl (by kernel_rfl) (by kernel_rfl) (by kernel_rfl) (fun _ _ _ h => h) (Or.inl ⟨by kernel_rfl, ?h2⟩) hHeld ?_
  case h2 => intro w hSw; (try dsimp only at hSw); go_simp; try with_reducible rfl
  try simp only [Act.put, List.setIfInBounds_toArray, List.set_cons_zero, List.set_cons_succ]
  refine wpAnyH_take (i := 2) (oi := ⟨some 32, _, _, _, _, _⟩) (v := ?v3) rfl (by kernel_rfl) (by kernel_rfl) (by kernel_rfl) (fun _ _ _ h => h) (Or.inl ⟨by kernel_rfl, ?h3⟩) hHeld ?_
  case h3 => intro w hSw; (try dsimp only at hSw); go_simp; try with_reducible rfl
  try simp only [Act.put, List.setIfInBounds_toArray, List.set_cons_zero, List.set_cons_succ]
  refine wpAnyH_ready (rs := [3]) (by kernel_rfl) (by simp) ?_
  refine AllReadyH.cons (o := ⟨some 33, _, _, _, _, _⟩) rfl (fun K hK => ?_) AllReadyH.nil
  rw [if_pos (by kernel_rfl)]
  go_simp
  refine (rcap (hrm5.stay (Sep.drew (fun k => k = w.heap.size + 1 ∨ k = w.heap.size + 2) w5) (fun b hb hlt x => by have := hb.2; omega)) (i : Int)).mono ?_
  rintro e wC8 ⟨rfl, hsC⟩
  rw [hcap]
  have hC8 : Sep (fun k => k = w.heap.size + 1 ∨ k = w.heap.size + 2) w5 wC8 := Sep.trans (Sep.drew (fun k => k = w.heap.size + 1 ∨ k = w.heap.size + 2) w5) (Same.sep hsC _)
  have o4_8 := Same.obj hsC O4.out
  have o5_8 := Same.obj hsC O5.out
  clear hsC
  refine hK.out _ _ ?_ (fun hHeld => ?_)
  · exact ⟨Sep.cell hC8 p0 nq, Sep.cell hC8 p1 nq, Sep.cell hC8 p2 nq⟩
  clear hK K
  try simp only [Act.put, List.setIfInBounds_toArray, List.set_cons_zero, List.set_cons_succ]
  refine wpAnyH_ready (rs := [4]) (by kernel_rfl) (by simp) ?_
  refine AllReadyH.cons (o := ⟨none, _, _, _, _, _⟩) rfl (fun K hK => ?_) AllReadyH.nil
  obtain ⟨t0, t1, t2, tf⟩ := cells3x o4_8
  rw [if_pos (by kernel_rfl)]
  go_simp
  obtain ⟨wT10, hwT⟩ : ∃ x, x = (((wC8.setCell ⟨w.heap.size + 1, 0, none⟩ (.slice wa n wc)).setCell ⟨w.heap.size + 1, 1, none⟩ (.slice (some ⟨g, 0, none⟩) n cap1)).setCell ⟨w.heap.size + 1, 2, none⟩ (.int .i64 cnt)) := ⟨_, rfl⟩
  rw [← hwT]
  have h7 : Sep (fun k => k = w.heap.size + 1) wC8 wT10 := by rw [hwT]; exact sep3 wC8 (w.heap.size + 1) (.slice wa n wc) (.slice (some ⟨g, 0, none⟩) n cap1) (.int .i64 cnt)
  have o4_10 : wT10.heap[w.heap.size + 1]? = some (.cells #[.slice wa n wc, .slice (some ⟨g, 0, none⟩) n cap1, .int .i64 cnt] 51) := by rw [hwT]; exact heap3 o4_8 rfl
  have o5_10 := h7.obj o5_8 (show ¬ (w.heap.size + 2 = w.heap.size + 1) by omega)
  have hT10 : Sep (fun k => k = w.heap.size + 1 ∨ k = w.heap.size + 2) w5 wT10 := Sep.trans hC8 (h7.mono fun _ _ e => .inl e)
  clear hwT h7 t0 t1 t2 tf
  refine hK.out _ _ ?_ (fun hHeld => ?_)
  · exact ⟨Sep.cell hT10 p0 nq, Sep.cell hT10 p1 nq, Sep.cell hT10 p2 nq⟩
  clear hK K
  try simp only [Act.put, List.setIfInBounds_toArray, List.set_cons_zero, List.set_cons_succ]
  refine wpAnyH_ready (rs := [5]) (by kernel_rfl) (by simp) ?_
  refine AllReadyH.cons (o := ⟨none, _, _, _, _, _⟩) rfl (fun K hK => ?_) AllReadyH.nil
  obtain ⟨t0, t1, tf⟩ := cells2 o5_10
  rw [if_pos (by kernel_rfl)]
  go_simp
  obtain ⟨wT12, hwT⟩ : ∃ x, x = ((wT10.setCell ⟨w.heap.size + 1 + 1, 0, none⟩ (.int .i64 (i : Int))).setCell ⟨w.heap.size + 1 + 1, 1, none⟩ (.int .u64 ((ep : Int) + 1))) := ⟨_, rfl⟩
  rw [← hwT]
  have h7 : Sep (fun k => k = w.heap.size + 2) wT10 wT12 := by rw [hwT]; exact sep2b wT10 (w.heap.size + 2) (.int .i64 (i : Int)) (.int .u64 ((ep : Int) + 1))
  have o5_12 : wT12.heap[w.heap.size + 2]? = some (.cells #[.int .i64 (i : Int), .int .u64 ((ep : Int) + 1)] 33) := by rw [hwT]; show ((wT10.setCell ⟨w.heap.size + 2, 0, none⟩ _).setCell ⟨w.heap.size + 2, 1, none⟩ _).heap[w.heap.size + 2]? = _; rw [heap_set_same (heap_set_same o5_10)]; rfl
  have o4_12 := h7.obj o4_10 (show ¬ (w.heap.size + 1 = w.heap.size + 2) by omega)
  have hT12 : Sep (fun k => k = w.heap.size + 1 ∨ k = w.heap.size + 2) w5 wT12 := Sep.trans hT10 (h7.mono fun _ _ e => .inr e)
  clear hwT h7 t0 t1 tf
  refine hK.out _ _ ?_ (fun hHeld => ?_)
  · exact ⟨Sep.cell hT12 p0 nq, Sep.cell hT12 p1 nq, Sep.cell hT12 p2 nq⟩
  clear hK K
  try simp only [Act.put, List.setIfInBounds_toArray, List.set_cons_zero, List.set_cons_succ]
  refine wpAnyH_take (i := 6) (oi := ⟨some 6, _, _, _, _, _⟩) (v := ?v4) rfl (by kernel_rfl) (by kernel_rfl) (by kernel_rfl) (fun _ _ _ h => h) (Or.inl ⟨by kernel_rfl, ?h4⟩) hHeld ?_
  case h4 => intro w hSw; (try dsimp only at hSw); go_simp; try with_reducible rfl
  try simp only [Act.put, List.setIfInBounds_toArray, List.set_cons_zero, List.set_cons_succ]
  refine wpAnyH_done (by kernel_rfl) ?_ _
  clear hHeld p0 p1 p2
  obtain ⟨r0, r1, r2, rf⟩ := cells3x o4_12
  obtain ⟨s0, s1, sf⟩ := cells2 o5_12
  go_wp2
  refine bodyPost_ret (v := .tuple #[.agg #[.slice wa n wc, .slice (some ⟨g, 0, none⟩) n cap1, .int .i64 cnt], .agg #[.int .i64 (i : Int), .int .u64 ((ep : Int) + 1)], .int .i64 0]) (by simp [results, Try.results30, go_sem, r0, r1, r2, s0, s1]) rfl ?_
  exact ⟨_, rfl, (hrm5.stay hT12 (fun b hb hlt x => by have := hb.2; omega)).imp (fun b hb _ => hb.1), sep_chain HS5.out hT12 (fun k hk h => by omega)⟩

theorem rbump_ok {F : Nat → Prop} {w : World} {v : Value} {L : List Reg} {cnt : Nat} (h : RM F w v L cnt) (i : Nat) (hi : i < L.length) (he : (L.getD i default).ep < 1000000) (hn : L.length ≤ 1000) (hF : ∀ b, w.heap.size ≤ b → F b) :
    Calls Try.prog 30 #[v, .int .i64 (i : Int)] w fun e w' => ∃ v', e = .returned (.tuple #[v', .agg #[.int .i64 (i : Int), .int .u64 (((L.getD i default).ep + 1 : Nat) : Int)], .int .i64 0]) ∧ RM F w' v' (bumpL L i) cnt ∧ Same w w' := by
  obtain ⟨wa, wc, ea, ec, rfl⟩ := h.form
  obtain ⟨wb, wo, eb, eo, ra, rc, rfl, rfl, _⟩ := h.at hi
  obtain ⟨W, E, cs, hv, h1, h2, h3⟩ := h
  simp only [Value.agg.injEq] at hv
  obtain ⟨rfl, rfl⟩ : Value.slice (some ⟨wb, wo, none⟩) L.length wc = W ∧ Value.slice (some ⟨eb, eo, none⟩) L.length ec = E := by simpa using hv
  exact rbump_at i rfl hi rfl he hn hF h1 h2 h3

set_option maxRecDepth 100000 in
theorem rbump_no {F : Nat → Prop} {w : World} {v : Value} {L : List Reg} {cnt : Nat} (h : RM F w v L cnt) (i : Int) (hi : i < 0 ∨ (L.length : Int) ≤ i) :
    Calls Try.prog 30 #[v, .int .i64 i] w fun e w' => e = .returned (.tuple #[v, .agg #[.int .i64 0, .int .u64 0], .int .i64 1]) ∧ Same w w' := by
  obtain ⟨wa, wc, ea, ec, rfl⟩ := h.form
  obtain ⟨n, hn⟩ : ∃ n, n = L.length := ⟨_, rfl⟩
  rw [← hn] at hi ⊢
  clear h hn
  have hz : (#[] : Array Value).zipIdx = #[] := rfl
  rcases hi with hi | hi
  · go_enter Try.func30, Try.ntmps30
    go_wp2
    exact bodyPost_ret (v := .tuple #[.agg #[.slice wa n wc, .slice ea n ec, .int .i64 cnt], .agg #[.int .i64 0, .int .u64 0], .int .i64 1]) (by simp [results, Try.results30, go_sem]) rfl ⟨rfl, ((Sep.alloc _ _ _).thenAlloc _).thenAlloc _⟩
  · have h0 : ¬ i < 0 := by omega
    go_enter Try.func30, Try.ntmps30
    go_wp2
    exact bodyPost_ret (v := .tuple #[.agg #[.slice wa n wc, .slice ea n ec, .int .i64 cnt], .agg #[.int .i64 0, .int .u64 0], .int .i64 1]) (by simp [results, Try.results30, go_sem]) rfl ⟨rfl, ((Sep.alloc _ _ _).thenAlloc _).thenAlloc _⟩
end Go.Proofs.Ytiljledgoflogaa

