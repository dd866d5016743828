/- The reference's Do, done. -/
import Derived.Test.YtiljledgoflogaaRb
import Derived.Test.YtiljledgoflogaaV
namespace Go.Proofs.Ytiljledgoflogaa
open Go.RowKit
set_option linter.unusedSimpArgs false
set_option linter.unusedVariables false

theorem o2lt {w : World} {B e size g n c k : Nat} {xs : List Value} (h : w.ownsRow B e size (.slice (some ⟨g, 0, none⟩) n c) k xs) : B ≤ g := by
  obtain ⟨_, ⟨e, _⟩ | ⟨g', cap', cur', e, hg, _⟩⟩ := h
  · cases e
  · obtain ⟨rfl, _⟩ : g = g' ∧ n = k ∧ c = cap' := by simpa using e
    exact hg
theorem o2ob {w : World} {B e size g n c k : Nat} {xs : List Value} (h : w.ownsRow B e size (.slice (some ⟨g, 0, none⟩) n c) k xs) : ∃ cur, w.heap[g]? = some (.cells cur e) := by
  obtain ⟨_, ⟨e, _⟩ | ⟨g', cap', cur', e, hg, hh, _⟩⟩ := h
  · cases e
  · obtain ⟨rfl, _⟩ : g = g' ∧ n = k ∧ c = cap' := by simpa using e
    exact ⟨cur', hh⟩
/-- A store into such a slice's own block. -/
theorem Slc.set {F : Nat → Prop} {w : World} {b n cap : Nat} {cs : List Value} {i : Nat} {u : Value} (h : Slc 1 F w (.slice (some ⟨b, 0, none⟩) n cap) n cs) (hi : i < n) : Slc 1 F (w.setCell ⟨b, i, none⟩ u) (.slice (some ⟨b, 0, none⟩) n cap) n (cs.set i u) := by
  obtain ⟨hl, ⟨e, h0⟩ | ⟨b', off, cap', e, hB, hlt, hlc, hm, hc⟩⟩ := h
  · cases e
  · obtain ⟨⟨rfl, rfl⟩, rfl⟩ : (b = b' ∧ 0 = off) ∧ cap = cap' := by simpa using e
    refine ⟨by rw [List.length_set]; exact hl, .inr ⟨b, 0, cap, rfl, hB, by simpa [World.setCell] using hlt, hlc, hm, fun j v hj => ?_⟩⟩
    have hcell : ∀ j u', w.cell? ⟨b, j, none⟩ = some u' → ∃ c T f, w.heap[b]? = some (.cells c T f) ∧ c[j]? = some u' := fun j u' h => by
      unfold World.cell? at h
      simp only at h
      split at h
      · rename_i c T f hh
        exact ⟨c, T, f, hh, h⟩
      · cases h
    have hjl : j < cs.length := by
      have := (List.getElem?_eq_some_iff.1 hj).1
      simpa using this
    obtain ⟨x, hx⟩ : ∃ x, cs[j]? = some x := ⟨_, List.getElem?_eq_getElem hjl⟩
    obtain ⟨c, T, f, hh, hcj⟩ := hcell _ _ (hc j x hx)
    rw [cell_of_heap (heap_set_same hh)]
    rw [List.getElem?_set] at hj
    rw [Nat.zero_add] at hcj ⊢
    have hjc : j < c.size := (Array.getElem?_eq_some_iff.1 hcj).1
    by_cases hij : i = j
    · subst hij
      rw [if_pos rfl, if_pos hjl] at hj
      simpa [hjc] using hj
    · rw [if_neg hij] at hj
      rw [Array.getElem?_setIfInBounds_ne hij]
      rw [hcj, ← hx]
      exact hj
theorem Slc.cellAt {F : Nat → Prop} {w : World} {b n cap : Nat} {cs : List Value} {i : Nat} {u : Value} (h : Slc 1 F w (.slice (some ⟨b, 0, none⟩) n cap) n cs) (hu : cs[i]? = some u) : w.cell? ⟨b, i, none⟩ = some u := by
  obtain ⟨hl, ⟨e, h0⟩ | ⟨b', off, cap', e, hB, hlt, hlc, hm, hc⟩⟩ := h
  · cases e
  · obtain ⟨⟨rfl, rfl⟩, rfl⟩ : (b = b' ∧ 0 = off) ∧ cap = cap' := by simpa using e
    simpa using hc i u hu
theorem eps_doL (L : List Reg) (i j : Nat) (op x y : Int) : eps (doL L i j op x y) = eps L := by
  unfold eps doL
  rw [List.map_set]
  apply List.ext_getElem?
  intro k
  rw [List.getElem?_set]
  split
  · subst_vars
    split
    · rename_i h
      rw [List.length_map] at h
      simp [List.getD, h]
    · rename_i h
      rw [List.getElem?_eq_none (by simpa using h)]
  · rfl
theorem doL_len (L : List Reg) (i j : Nat) (op x y : Int) : (doL L i j op x y).length = L.length := by simp [doL]
/-- What is left behind Do is the memory with the access done. -/
theorem rm_done {F : Nat → Prop} {w wE : World} {L : List Reg} {cnt g g2 cap1 cap2 rn ec i j : Nat} {ea : Option Addr} {cs : List Value} {op x y : Int} (hF : ∀ b, w.heap.size ≤ b → F b) (hs : Same w wE) (hi : i < L.length)
    (hE : Slc 1 F w (.slice ea L.length ec) L.length (eps L)) (hrows : RowsOf F w cs L) (hcl : cs.length = L.length)
    (h1 : Slc 1 (fun b => w.heap.size ≤ b) wE (.slice (some ⟨g, 0, none⟩) L.length cap1) L.length (cs.set i (.slice (some ⟨g2, 0, none⟩) rn cap2))) (h2 : Slc 1 (fun b => w.heap.size ≤ b) wE (.slice (some ⟨g2, 0, none⟩) rn cap2) rn (wds ((L.getD i default).ws.set j (nextW op ((L.getD i default).ws.getD j 0) x y)))) (hrn : rn = (L.getD i default).ws.length) :
    RM F wE (.agg #[.slice (some ⟨g, 0, none⟩) L.length cap1, .slice ea L.length ec, .int .i64 ((cnt + 1 : Nat) : Int)]) (doL L i j op x y) (cnt + 1) := by
  refine ⟨_, _, cs.set i (.slice (some ⟨g2, 0, none⟩) rn cap2), rfl, by rw [doL_len]; exact Slc.imp h1 fun b hb _ => hF b hb, by rw [doL_len, eps_doL]; exact Slc.same hE hs, fun k hk => ?_⟩
  rw [doL_len] at hk
  unfold doL
  rw [getD_set L i k _ hk]
  rw [List.getElem?_set]
  split
  · subst_vars
    refine ⟨_, by rw [if_pos (by omega)], ?_⟩
    show Slc 1 F wE _ (List.set _ _ _).length _
    rw [List.length_set]
    exact Slc.imp h2 fun b hb _ => hF b hb
  · obtain ⟨u, hu, hsl⟩ := hrows k hk
    exact ⟨u, hu, Slc.same hsl hs⟩
theorem rdo_end {F : Nat → Prop} {w wD : World} {L : List Reg} {cnt n g g2 cap1 cap2 rn ec i j eb eo : Nat} {cs : List Value} {op x y was n3 : Int} (hcnt : cnt < 1000000000) (hn : n ≤ n) (hnL : n = L.length) (hF : ∀ b, w.heap.size ≤ b → F b) (hs : Same w wD) (hi : i < n)
    (hE : Slc 1 F w (.slice (some ⟨eb, eo, none⟩) n ec) n (eps L)) (hrows : RowsOf F w cs L) (hcl : cs.length = n * 1) (h1 : Slc 1 (fun b => w.heap.size + 4 ≤ b) wD (.slice (some ⟨g, 0, none⟩) n cap1) n (cs.set i (.slice (some ⟨g2, 0, none⟩) rn cap2)))
    (h2 : Slc 1 (fun b => w.heap.size + 4 ≤ b) wD (.slice (some ⟨g2, 0, none⟩) rn cap2) rn ((wds (L.getD i default).ws).set j (.int .u64 n3))) (hrn : rn = (L.getD i default).ws.length) (hwas : was = (L.getD i default).ws.getD j 0) (hn3 : n3 = nextW op was x y) :
    ∃ v', Ending.returned (.tuple #[.agg #[.slice (some ⟨g, 0, none⟩) n cap1, .slice (some ⟨eb, eo, none⟩) n ec, .int .i64 ((cnt : Int) + 1)], .int .u64 was, .bool true]) = .returned (.tuple #[v', .int .u64 was, .bool true]) ∧
      RM F (((((wD.setCell ⟨w.heap.size, 0, none⟩ (.slice (some ⟨g, 0, none⟩) n cap1)).setCell ⟨w.heap.size, 2, none⟩ (.int .i64 ((cnt : Int) + 1))).setCell ⟨w.heap.size + 1 + 1 + 1, 0, none⟩ (.slice (some ⟨g, 0, none⟩) n cap1)).setCell ⟨w.heap.size + 1 + 1 + 1, 1, none⟩ (.slice (some ⟨eb, eo, none⟩) n ec)).setCell ⟨w.heap.size + 1 + 1 + 1, 2, none⟩ (.int .i64 ((cnt : Int) + 1))) v' (doL L i j op x y) (cnt + 1) ∧
      Same w (((((wD.setCell ⟨w.heap.size, 0, none⟩ (.slice (some ⟨g, 0, none⟩) n cap1)).setCell ⟨w.heap.size, 2, none⟩ (.int .i64 ((cnt : Int) + 1))).setCell ⟨w.heap.size + 1 + 1 + 1, 0, none⟩ (.slice (some ⟨g, 0, none⟩) n cap1)).setCell ⟨w.heap.size + 1 + 1 + 1, 1, none⟩ (.slice (some ⟨eb, eo, none⟩) n ec)).setCell ⟨w.heap.size + 1 + 1 + 1, 2, none⟩ (.int .i64 ((cnt : Int) + 1))) := by
  have hE5 : Sep (fun k => k = w.heap.size ∨ k = w.heap.size + 3) wD (((((wD.setCell ⟨w.heap.size, 0, none⟩ (.slice (some ⟨g, 0, none⟩) n cap1)).setCell ⟨w.heap.size, 2, none⟩ (.int .i64 ((cnt : Int) + 1))).setCell ⟨w.heap.size + 1 + 1 + 1, 0, none⟩ (.slice (some ⟨g, 0, none⟩) n cap1)).setCell ⟨w.heap.size + 1 + 1 + 1, 1, none⟩ (.slice (some ⟨eb, eo, none⟩) n ec)).setCell ⟨w.heap.size + 1 + 1 + 1, 2, none⟩ (.int .i64 ((cnt : Int) + 1))) :=
    (((((Sep.refl _ wD).thenSet (.inl (.inl rfl)) _).thenSet (.inl (.inl rfl)) _).thenSet (.inl (.inr rfl)) _).thenSet (.inl (.inr rfl)) _).thenSet (.inl (.inr rfl)) _
  have hSE := sep_chain hs hE5 (fun k hk h => by omega)
  have s1E := h1.stay hE5 (fun b hb _ h => by omega)
  have s2E := h2.stay hE5 (fun b hb _ h => by omega)
  subst hnL
  refine ⟨_, rfl, ?_, hSE⟩
  have hrd := rm_done (cnt := cnt) (op := op) (x := x) (y := y) hF hSE hi hE hrows (by omega) (Slc.imp s1E fun b hb _ => by omega) (by
    have : wds ((L.getD i default).ws.set j (nextW op ((L.getD i default).ws.getD j 0) x y)) = (wds (L.getD i default).ws).set j (.int .u64 n3) := by
      rw [hn3, hwas]
      unfold wds
      rw [List.map_set]
    rw [this]
    exact Slc.imp (G := fun b => w.heap.size ≤ b) s2E fun b hb _ => by omega) hrn
  rw [show ((cnt + 1 : Nat) : Int) = (cnt : Int) + 1 by omega] at hrd
  exact hrd
theorem info22 : (Try.prog.info? 22).map (fun i => (i.zero, i.size, i.bytes)) = some (some (.slice none 0 0), 1, 24) := by kernel_rfl
def ifI (c : Prop) [Decidable c] (a b : Int) : Int := if c then a else b
theorem ifI_yes {c : Prop} [Decidable c] {a b : Int} (h : c) : ifI c a b = a := if_pos h
theorem ifI_no {c : Prop} [Decidable c] {a b : Int} (h : ¬ c) : ifI c a b = b := if_neg h
theorem next_eq (op was x y : Int) : ifI (op = 3) (IntKind.u64.wrap (was + x)) (ifI (op = 2 ∧ was = x) y (ifI (op = 1) x was)) = nextW op was x y := by
  unfold ifI nextW
  by_cases h1 : op = 1
  · simp [h1]
  · by_cases h2 : op = 2
    · subst h2; simp
    · by_cases h3 : op = 3
      · subst h3; simp
      · simp [h1, h2, h3]

set_option maxRecDepth 100000 in
set_option maxHeartbeats 2000000 in
theorem rdo_at {F : Nat → Prop} {w : World} {L : List Reg} {cnt n : Nat} {wb wo eb eo rn rc rb ro : Nat} {wc ec : Nat} {was : Int} {cs : List Value} (i j : Nat) (ce op x y : Int) (h : RM F w (.agg #[.slice (some ⟨wb, wo, none⟩) n wc, .slice (some ⟨eb, eo, none⟩) n ec, .int .i64 cnt]) L cnt)
    (hF : ∀ b, w.heap.size ≤ b → F b) (hWS : Slc 1 F w (.slice (some ⟨wb, wo, none⟩) n wc) n cs) (hES : Slc 1 F w (.slice (some ⟨eb, eo, none⟩) n ec) n (eps L)) (hrows : RowsOf F w cs L) (hnL : n = L.length) (hrn : rn = (L.getD i default).ws.length) (hwas : was = (L.getD i default).ws.getD j 0) (hR : SlcU F w (.slice (some ⟨rb, ro, none⟩) rn rc) (L.getD i default).ws) (hn1 : n ≤ 1000) (hrn1 : rn ≤ 1000000) (hcnt : cnt < 1000000000)
    (hg : goodB L (i : Int) ce = true) (hi : i < n) (hcw0 : w.cell? ⟨wb, wo + i, none⟩ = some (.slice (some ⟨rb, ro, none⟩) rn rc)) (hcr0 : w.cell? ⟨rb, ro + j, none⟩ = some (.int .u64 was))
    (h2 : decide ((j : Int) < 0) = false) (h3 : decide (rn ≤ j) = false) (h4 : decide (op < 0) = false) (h5 : decide (3 < op) = false) (hj : j < rn) :
    Calls Try.prog 32 #[.agg #[.slice (some ⟨wb, wo, none⟩) n wc, .slice (some ⟨eb, eo, none⟩) n ec, .int .i64 cnt], .agg #[.int .i64 i, .int .u64 ce], .agg #[.int .i64 op, .int .i64 (j : Int), .int .u64 x, .int .u64 y]] w fun e w' => ∃ v', e = .returned (.tuple #[v', .int .u64 was, .bool true]) ∧ RM F w' v' (doL L i j op x y) (cnt + 1) ∧ Same w w' := by
  have HF := Lib.hid hF
  have HES := Lib.hid hES
  have HRW := Lib.hid hrows
  have HNL := Lib.hid hnL
  have HRN := Lib.hid hrn
  have HWAS := Lib.hid hwas
  have HWS := Lib.hid hWS
  have HR := Lib.hid hR
  obtain ⟨i1, hi1, hy0, hy1, hy2⟩ := info_parts info22
  obtain ⟨i0, hi0, hz0, hz1, hz2⟩ := info_parts info23
  have HI1 := Lib.hid hi1
  have HI0 := Lib.hid hi0
  have hbx : ∃ q, q = nextW op was x y := ⟨_, rfl⟩
  clear hF hES hrows hnL hrn hwas hWS hR hi1 hi0 hbx
  obtain ⟨W, hW, hs0, hsz, b0, b1, b2, b3⟩ := four_r w #[.slice (some ⟨wb, wo, none⟩) n wc, .slice (some ⟨eb, eo, none⟩) n ec, .int .i64 cnt] #[.int .i64 i, .int .u64 ce] #[.int .i64 op, .int .i64 j, .int .u64 x, .int .u64 y] #[.slice none 0 0, .slice none 0 0, .int .i64 0]
  have hrm := h.same hs0
  have hcw := hs0.cell hcw0
  have hcr := hs0.cell hcr0
  have g0 : (0 : Int) ≤ (i : Int) := Int.natCast_nonneg _
  have g1 : (i : Int) < (n : Int) := by omega
  have g2 : (0 : Int) ≤ (j : Int) := Int.natCast_nonneg _
  have g3 : (j : Int) < (rn : Int) := by omega
  obtain ⟨x0, x1, x2, xf⟩ := cells3x b0
  obtain ⟨y0, y1, yf⟩ := cells2 b1
  obtain ⟨z0, z1, z2, z3, zf⟩ := cells4x b2
  have HW := Lib.hid hW
  have HB0 := Lib.hid b0
  have HB3 := Lib.hid b3
  clear hW h b0 b1 b2 b3 hcw0 hcr0
  go_enter Try.func32, Try.ntmps32
  go_wp2_with fail
  rw [← HW.out]
  refine wp_region_held_drew (S := (fun v => v.cell? ⟨w.heap.size, 0, none⟩ = some (.slice (some ⟨wb, wo, none⟩) n wc) ∧ v.cell? ⟨w.heap.size, 1, none⟩ = some (.slice (some ⟨eb, eo, none⟩) n ec) ∧ v.cell? ⟨w.heap.size, 2, none⟩ = some (.int .i64 cnt) ∧ v.cell? ⟨w.heap.size + 1, 0, none⟩ = some (.int .i64 (i : Int)) ∧ v.cell? ⟨w.heap.size + 1, 1, none⟩ = some (.int .u64 ce) ∧ v.cell? ⟨w.heap.size + 2, 0, none⟩ = some (.int .i64 op) ∧ v.cell? ⟨w.heap.size + 2, 1, none⟩ = some (.int .i64 (j : Int)) ∧ v.cell? ⟨w.heap.size + 2, 2, none⟩ = some (.int .u64 x) ∧ v.cell? ⟨w.heap.size + 2, 3, none⟩ = some (.int .u64 y) ∧ v.cell? ⟨wb, wo + i, none⟩ = some (.slice (some ⟨rb, ro, none⟩) rn rc) ∧ v.cell? ⟨rb, ro + j, none⟩ = some (.int .u64 was) ∧ RM F v (.agg #[.slice (some ⟨wb, wo, none⟩) n wc, .slice (some ⟨eb, eo, none⟩) n ec, .int .i64 cnt]) L cnt ∧ Same W v)) (by kernel_rfl) ?_ (fun hHeld => ?_)
  · exact ⟨(Sep.drew (fun _ => False) W).cell x0 (fun x => x), (Sep.drew (fun _ => False) W).cell x1 (fun x => x), (Sep.drew (fun _ => False) W).cell x2 (fun x => x), (Sep.drew (fun _ => False) W).cell y0 (fun x => x), (Sep.drew (fun _ => False) W).cell y1 (fun x => x), (Sep.drew (fun _ => False) W).cell z0 (fun x => x), (Sep.drew (fun _ => False) W).cell z1 (fun x => x), (Sep.drew (fun _ => False) W).cell z2 (fun x => x), (Sep.drew (fun _ => False) W).cell z3 (fun x => x), (Sep.drew (fun _ => False) W).cell hcw (fun x => x), (Sep.drew (fun _ => False) W).cell hcr (fun x => x), hrm.same (Sep.drew _ _), Sep.drew _ _⟩
  change wpAnyH _ _ _ _ _ 31 _ _ _
  refine wpAnyH_take (i := 0) (oi := ⟨some 12, _, _, _, _, _⟩) (v := ?v1) rfl (by kernel_rfl) (by kernel_rfl) (by kernel_rfl) (fun _ _ _ h => h) (Or.inl ⟨by kernel_rfl, ?h1⟩) hHeld ?_
  case h1 => intro w hSw; (try dsimp only at hSw); go_simp; try with_reducible rfl
  try simp only [Act.put, List.setIfInBounds_toArray, List.set_cons_zero, List.set_cons_succ]
  refine wpAnyH_take (i := 1) (oi := ⟨some 13, _, _, _, _, _⟩) (v := ?v2) rfl (by kernel_rfl) (by kernel_rfl) (by kernel_rfl) (fun _ _ _ h => h) (Or.inl ⟨by kernel_rfl, ?h2⟩) hHeld ?_
  case h2 => intro w hSw; (try dsimp only at hSw); go_simp; try with_reducible rfl
  try simp only [Act.put, List.setIfInBounds_toArray, List.set_cons_zero, List.set_cons_succ]
  refine wpAnyH_ready (rs := [2]) (by kernel_rfl) (by simp) ?_
  refine AllReadyH.cons (o := ⟨some 14, _, _, _, _, _⟩) rfl (fun K hK => ?_) AllReadyH.nil
  rw [if_pos (by kernel_rfl)]
  go_simp
  refine (rgood hHeld.2.2.2.2.2.2.2.2.2.2.2.1 (i : Int) ce).mono ?_
  rintro e w2 ⟨rfl, hs⟩
  rw [hg]
  refine hK.out _ _ ?_ (fun hHeld => ?_)
  · exact ⟨Same.cell hs hHeld.1, Same.cell hs hHeld.2.1, Same.cell hs hHeld.2.2.1, Same.cell hs hHeld.2.2.2.1, Same.cell hs hHeld.2.2.2.2.1, Same.cell hs hHeld.2.2.2.2.2.1, Same.cell hs hHeld.2.2.2.2.2.2.1, Same.cell hs hHeld.2.2.2.2.2.2.2.1, Same.cell hs hHeld.2.2.2.2.2.2.2.2.1, Same.cell hs hHeld.2.2.2.2.2.2.2.2.2.1, Same.cell hs hHeld.2.2.2.2.2.2.2.2.2.2.1, RM.same hHeld.2.2.2.2.2.2.2.2.2.2.2.1 hs, Sep.trans hHeld.2.2.2.2.2.2.2.2.2.2.2.2 hs⟩
  clear hK K
  try simp only [Act.put, List.setIfInBounds_toArray, List.set_cons_zero, List.set_cons_succ]
  refine wpAnyH_take (i := 3) (oi := ⟨some 15, _, _, _, _, _⟩) (v := ?v4) rfl (by kernel_rfl) (by kernel_rfl) (by kernel_rfl) (fun _ _ _ h => h) (Or.inl ⟨by kernel_rfl, ?h4⟩) hHeld ?_
  case h4 => intro w hSw; (try dsimp only at hSw); go_simp; try with_reducible rfl
  try simp only [Act.put, List.setIfInBounds_toArray, List.set_cons_zero, List.set_cons_succ]
  refine wpAnyH_take (i := 4) (oi := ⟨some 16, _, _, _, _, _⟩) (v := ?v5) rfl (by kernel_rfl) (by kernel_rfl) (by kernel_rfl) (fun _ _ _ h => h) (Or.inl ⟨by kernel_rfl, ?h5⟩) hHeld ?_
  case h5 => intro w hSw; (try dsimp only at hSw); go_simp; try with_reducible rfl
  try simp only [Act.put, List.setIfInBounds_toArray, List.set_cons_zero, List.set_cons_succ]
  refine wpAnyH_take (i := 5) (oi := ⟨some 17, _, _, _, _, _⟩) (v := ?v6) rfl (by kernel_rfl) (by kernel_rfl) (by kernel_rfl) (fun _ _ _ h => h) (Or.inl ⟨by kernel_rfl, ?h6⟩) hHeld ?_
  case h6 => intro w hSw; (try dsimp only at hSw); go_simp; try with_reducible rfl
  try simp only [Act.put, List.setIfInBounds_toArray, List.set_cons_zero, List.set_cons_succ]
  refine wpAnyH_take (i := 6) (oi := ⟨some 18, _, _, _, _, _⟩) (v := ?v7) rfl (by kernel_rfl) (by kernel_rfl) (by kernel_rfl) (fun _ _ _ h => h) (Or.inl ⟨by kernel_rfl, ?h7⟩) hHeld ?_
  case h7 => intro w hSw; (try dsimp only at hSw); go_simp; try with_reducible rfl
  try simp only [Act.put, List.setIfInBounds_toArray, List.set_cons_zero, List.set_cons_succ]
  refine wpAnyH_take (i := 7) (oi := ⟨some 19, _, _, _, _, _⟩) (v := ?v8) rfl (by kernel_rfl) (by kernel_rfl) (by kernel_rfl) (fun _ _ _ h => h) (Or.inl ⟨by kernel_rfl, ?h8⟩) hHeld ?_
  case h8 => intro w hSw; (try dsimp only at hSw); go_simp; try with_reducible rfl
  try simp only [Act.put, List.setIfInBounds_toArray, List.set_cons_zero, List.set_cons_succ]
  refine wpAnyH_take (i := 8) (oi := ⟨some 20, _, _, _, _, _⟩) (v := ?v9) rfl (by kernel_rfl) (by kernel_rfl) (by kernel_rfl) (fun _ _ _ h => h) (Or.inl ⟨by kernel_rfl, ?h9⟩) hHeld ?_
  case h9 => intro w hSw; (try dsimp only at hSw); go_simp; try with_reducible rfl
  try simp only [Act.put, List.setIfInBounds_toArray, List.set_cons_zero, List.set_cons_succ]
  refine wpAnyH_take (i := 9) (oi := ⟨some 21, _, _, _, _, _⟩) (v := ?v10) rfl (by kernel_rfl) (by kernel_rfl) (by kernel_rfl) (fun _ _ _ h => h) (Or.inl ⟨by kernel_rfl, ?h10⟩) hHeld ?_
  case h10 => intro w hSw; (try dsimp only at hSw); go_simp; try with_reducible rfl
  try simp only [Act.put, List.setIfInBounds_toArray, List.set_cons_zero, List.set_cons_succ]
  refine wpAnyH_take (i := 10) (oi := ⟨some 22, _, _, _, _, _⟩) (v := ?v11) rfl (by kernel_rfl) (by kernel_rfl) (by kernel_rfl) (fun _ _ _ h => h) (Or.inl ⟨by kernel_rfl, ?h11⟩) hHeld ?_
  case h11 => intro w hSw; (try dsimp only at hSw); go_simp; try with_reducible rfl
  try simp only [Act.put, List.setIfInBounds_toArray, List.set_cons_zero, List.set_cons_succ]
  refine wpAnyH_take (i := 11) (oi := ⟨some 23, _, _, _, _, _⟩) (v := ?v12) rfl (by kernel_rfl) (by kernel_rfl) (by kernel_rfl) (fun _ _ _ h => h) (Or.inl ⟨by kernel_rfl, ?h12⟩) hHeld ?_
  case h12 => intro w hSw; (try dsimp only at hSw); go_simp; try with_reducible rfl
  try simp only [Act.put, List.setIfInBounds_toArray, List.set_cons_zero, List.set_cons_succ]
  refine wpAnyH_take (i := 12) (oi := ⟨some 24, _, _, _, _, _⟩) (v := ?v13) rfl (by kernel_rfl) (by kernel_rfl) (by kernel_rfl) (fun _ _ _ h => h) (Or.inl ⟨by kernel_rfl, ?h13⟩) hHeld ?_
  case h13 => intro w hSw; (try dsimp only at hSw); go_simp; try with_reducible rfl
  try simp only [Act.put, List.setIfInBounds_toArray, List.set_cons_zero, List.set_cons_succ]
  refine wpAnyH_take (i := 13) (oi := ⟨some 25, _, _, _, _, _⟩) (v := ?v14) rfl (by kernel_rfl) (by kernel_rfl) (by kernel_rfl) (fun _ _ _ h => h) (Or.inl ⟨by kernel_rfl, ?h14⟩) hHeld ?_
  case h14 => intro w hSw; (try dsimp only at hSw); go_simp; try with_reducible rfl
  try simp only [Act.put, List.setIfInBounds_toArray, List.set_cons_zero, List.set_cons_succ]
  refine wpAnyH_take (i := 14) (oi := ⟨some 26, _, _, _, _, _⟩) (v := ?v15) rfl (by kernel_rfl) (by kernel_rfl) (by kernel_rfl) (fun _ _ _ h => h) (Or.inl ⟨by kernel_rfl, ?h15⟩) hHeld ?_
  case h15 => intro w hSw; (try dsimp only at hSw); go_simp; try with_reducible rfl
  try simp only [Act.put, List.setIfInBounds_toArray, List.set_cons_zero, List.set_cons_succ]
  refine wpAnyH_take (i := 15) (oi := ⟨some 27, _, _, _, _, _⟩) (v := ?v16) rfl (by kernel_rfl) (by kernel_rfl) (by kernel_rfl) (fun _ _ _ h => h) (Or.inl ⟨by kernel_rfl, ?h16⟩) hHeld ?_
  case h16 => intro w hSw; (try dsimp only at hSw); go_simp; try with_reducible rfl
  try simp only [Act.put, List.setIfInBounds_toArray, List.set_cons_zero, List.set_cons_succ]
  refine wpAnyH_take (i := 16) (oi := ⟨some 28, _, _, _, _, _⟩) (v := ?v17) rfl (by kernel_rfl) (by kernel_rfl) (by kernel_rfl) (fun _ _ _ h => h) (Or.inl ⟨by kernel_rfl, ?h17⟩) hHeld ?_
  case h17 => intro w hSw; (try dsimp only at hSw); go_simp; try with_reducible rfl
  try simp only [Act.put, List.setIfInBounds_toArray, List.set_cons_zero, List.set_cons_succ]
  refine wpAnyH_take (i := 17) (oi := ⟨some 29, _, _, _, _, _⟩) (v := ?v18) rfl (by kernel_rfl) (by kernel_rfl) (by kernel_rfl) (fun _ _ _ h => h) (Or.inl ⟨by kernel_rfl, ?h18⟩) hHeld ?_
  case h18 => intro w hSw; (try dsimp only at hSw); go_simp; try with_reducible rfl
  try simp only [Act.put, List.setIfInBounds_toArray, List.set_cons_zero, List.set_cons_succ]
  refine wpAnyH_take (i := 18) (oi := ⟨some 30, _, _, _, _, _⟩) (v := ?v19) rfl (by kernel_rfl) (by kernel_rfl) (by kernel_rfl) (fun _ _ _ h => h) (Or.inl ⟨by kernel_rfl, ?h19⟩) hHeld ?_
  case h19 => intro w hSw; (try dsimp only at hSw); go_simp; try with_reducible rfl
  try simp only [Act.put, List.setIfInBounds_toArray, List.set_cons_zero, List.set_cons_succ]
  refine wpAnyH_take (i := 19) (oi := ⟨some 31, _, _, _, _, _⟩) (v := ?v20) rfl (by kernel_rfl) (by kernel_rfl) (by kernel_rfl) (fun _ _ _ h => h) (Or.inl ⟨by kernel_rfl, ?h20⟩) hHeld ?_
  case h20 => intro w hSw; (try dsimp only at hSw); go_simp; try with_reducible rfl
  try simp only [Act.put, List.setIfInBounds_toArray, List.set_cons_zero, List.set_cons_succ]
  refine wpAnyH_take (i := 20) (oi := ⟨some 32, _, _, _, _, _⟩) (v := ?v21) rfl (by kernel_rfl) (by kernel_rfl) (by kernel_rfl) (fun _ _ _ h => h) (Or.inl ⟨by kernel_rfl, ?h21⟩) hHeld ?_
  case h21 => intro w hSw; (try dsimp only at hSw); go_simp; try with_reducible rfl
  try simp only [Act.put, List.setIfInBounds_toArray, List.set_cons_zero, List.set_cons_succ]
  refine wpAnyH_take (i := 21) (oi := ⟨some 33, _, _, _, _, _⟩) (v := ?v22) rfl (by kernel_rfl) (by kernel_rfl) (by kernel_rfl) (fun _ _ _ h => h) (Or.inl ⟨by kernel_rfl, ?h22⟩) hHeld ?_
  case h22 => intro w hSw; (try dsimp only at hSw); go_simp; try with_reducible rfl
  try simp only [Act.put, List.setIfInBounds_toArray, List.set_cons_zero, List.set_cons_succ]
  refine wpAnyH_take (i := 22) (oi := ⟨some 34, _, _, _, _, _⟩) (v := ?v23) rfl (by kernel_rfl) (by kernel_rfl) (by kernel_rfl) (fun _ _ _ h => h) (Or.inl ⟨by kernel_rfl, ?h23⟩) hHeld ?_
  case h23 => intro w hSw; (try dsimp only at hSw); go_simp; try with_reducible rfl
  try simp only [Act.put, List.setIfInBounds_toArray, List.set_cons_zero, List.set_cons_succ]
  refine wpAnyH_take (i := 23) (oi := ⟨some 35, _, _, _, _, _⟩) (v := ?v24) rfl (by kernel_rfl) (by kernel_rfl) (by kernel_rfl) (fun _ _ _ h => h) (Or.inl ⟨by kernel_rfl, ?h24⟩) hHeld ?_
  case h24 => intro w hSw; (try dsimp only at hSw); go_simp; try with_reducible rfl
  try simp only [Act.put, List.setIfInBounds_toArray, List.set_cons_zero, List.set_cons_succ]
  refine wpAnyH_take (i := 24) (oi := ⟨some 36, _, _, _, _, _⟩) (v := ?v25) rfl (by kernel_rfl) (by kernel_rfl) (by kernel_rfl) (fun _ _ _ h => h) (Or.inl ⟨by kernel_rfl, ?h25⟩) hHeld ?_
  case h25 => intro w hSw; (try dsimp only at hSw); go_simp; try with_reducible rfl
  try simp only [Act.put, List.setIfInBounds_toArray, List.set_cons_zero, List.set_cons_succ]
  refine wpAnyH_take (i := 25) (oi := ⟨some 37, _, _, _, _, _⟩) (v := ?v26) rfl (by kernel_rfl) (by kernel_rfl) (by kernel_rfl) (fun _ _ _ h => h) (Or.inl ⟨by kernel_rfl, ?h26⟩) hHeld ?_
  case h26 => intro w hSw; (try dsimp only at hSw); go_simp; try with_reducible rfl
  try simp only [Act.put, List.setIfInBounds_toArray, List.set_cons_zero, List.set_cons_succ]
  refine wpAnyH_take (i := 26) (oi := ⟨some 38, _, _, _, _, _⟩) (v := ?v27) rfl (by kernel_rfl) (by kernel_rfl) (by kernel_rfl) (fun _ _ _ h => h) (Or.inl ⟨by kernel_rfl, ?h27⟩) hHeld ?_
  case h27 => intro w hSw; (try dsimp only at hSw); go_simp; try with_reducible rfl
  try simp only [Act.put, List.setIfInBounds_toArray, List.set_cons_zero, List.set_cons_succ]
  refine wpAnyH_take (i := 27) (oi := ⟨some 39, _, _, _, _, _⟩) (v := ?v28) rfl (by kernel_rfl) (by kernel_rfl) (by kernel_rfl) (fun _ _ _ h => h) (Or.inl ⟨by kernel_rfl, ?h28⟩) hHeld ?_
  case h28 => intro w hSw; (try dsimp only at hSw); go_simp; try with_reducible rfl
  try simp only [Act.put, List.setIfInBounds_toArray, List.set_cons_zero, List.set_cons_succ]
  refine wpAnyH_take (i := 28) (oi := ⟨some 40, _, _, _, _, _⟩) (v := ?v29) rfl (by kernel_rfl) (by kernel_rfl) (by kernel_rfl) (fun _ _ _ h => h) (Or.inl ⟨by kernel_rfl, ?h29⟩) hHeld ?_
  case h29 => intro w hSw; (try dsimp only at hSw); go_simp; try with_reducible rfl
  try simp only [Act.put, List.setIfInBounds_toArray, List.set_cons_zero, List.set_cons_succ]
  refine wpAnyH_take (i := 29) (oi := ⟨some 41, _, _, _, _, _⟩) (v := ?v30) rfl (by kernel_rfl) (by kernel_rfl) (by kernel_rfl) (fun _ _ _ h => h) (Or.inl ⟨by kernel_rfl, ?h30⟩) hHeld ?_
  case h30 => intro w hSw; (try dsimp only at hSw); go_simp; try with_reducible rfl
  try simp only [Act.put, List.setIfInBounds_toArray, List.set_cons_zero, List.set_cons_succ]
  refine wpAnyH_take (i := 30) (oi := ⟨some 42, _, _, _, _, _⟩) (v := ?v31) rfl (by kernel_rfl) (by kernel_rfl) (by kernel_rfl) (fun _ _ _ h => h) (Or.inl ⟨by kernel_rfl, ?h31⟩) hHeld ?_
  case h31 => intro w hSw; (try dsimp only at hSw); go_simp; try with_reducible rfl
  try simp only [Act.put, List.setIfInBounds_toArray, List.set_cons_zero, List.set_cons_succ]
  refine wpAnyH_done (by kernel_rfl) ?_ _
  have hWv := hHeld.2.2.2.2.2.2.2.2.2.2.2.2
  obtain ⟨k0, k1, k2, k3, k4, k5, k6, k7, k8, k9, k10, -⟩ := hHeld
  clear hrm xf yf zf x0 x1 x2 y0 y1 z0 z1 z2 z3 hcw hcr
  go_wp2
  refine wp_region_held_drew (S := (fun v => v.cell? ⟨w.heap.size, 0, none⟩ = some (.slice (some ⟨wb, wo, none⟩) n wc) ∧ v.cell? ⟨w.heap.size, 1, none⟩ = some (.slice (some ⟨eb, eo, none⟩) n ec) ∧ v.cell? ⟨w.heap.size, 2, none⟩ = some (.int .i64 cnt) ∧ v.cell? ⟨w.heap.size + 1, 0, none⟩ = some (.int .i64 (i : Int)) ∧ v.cell? ⟨w.heap.size + 1, 1, none⟩ = some (.int .u64 ce) ∧ v.cell? ⟨w.heap.size + 2, 0, none⟩ = some (.int .i64 op) ∧ v.cell? ⟨w.heap.size + 2, 1, none⟩ = some (.int .i64 (j : Int)) ∧ v.cell? ⟨w.heap.size + 2, 2, none⟩ = some (.int .u64 x) ∧ v.cell? ⟨w.heap.size + 2, 3, none⟩ = some (.int .u64 y) ∧ v.cell? ⟨wb, wo + i, none⟩ = some (.slice (some ⟨rb, ro, none⟩) rn rc) ∧ v.cell? ⟨rb, ro + j, none⟩ = some (.int .u64 was) ∧ Same w2 v)) (by kernel_rfl) ?_ (fun hHeld => ?_)
  · exact ⟨(Sep.drew (fun _ => False) w2).cell k0 (fun x => x), (Sep.drew (fun _ => False) w2).cell k1 (fun x => x), (Sep.drew (fun _ => False) w2).cell k2 (fun x => x), (Sep.drew (fun _ => False) w2).cell k3 (fun x => x), (Sep.drew (fun _ => False) w2).cell k4 (fun x => x), (Sep.drew (fun _ => False) w2).cell k5 (fun x => x), (Sep.drew (fun _ => False) w2).cell k6 (fun x => x), (Sep.drew (fun _ => False) w2).cell k7 (fun x => x), (Sep.drew (fun _ => False) w2).cell k8 (fun x => x), (Sep.drew (fun _ => False) w2).cell k9 (fun x => x), (Sep.drew (fun _ => False) w2).cell k10 (fun x => x), Sep.drew _ _⟩
  change wpAnyH _ _ _ _ _ 11 _ _ _
  refine wpAnyH_take (i := 0) (oi := ⟨some 44, _, _, _, _, _⟩) (v := ?v32) rfl (by kernel_rfl) (by kernel_rfl) (by kernel_rfl) (fun _ _ _ h => h) (Or.inl ⟨by kernel_rfl, ?h32⟩) hHeld ?_
  case h32 => intro w hSw; (try dsimp only at hSw); go_simp; try with_reducible rfl
  try simp only [Act.put, List.setIfInBounds_toArray, List.set_cons_zero, List.set_cons_succ]
  refine wpAnyH_take (i := 1) (oi := ⟨some 45, _, _, _, _, _⟩) (v := ?v33) rfl (by kernel_rfl) (by kernel_rfl) (by kernel_rfl) (fun _ _ _ h => h) (Or.inl ⟨by kernel_rfl, ?h33⟩) hHeld ?_
  case h33 => intro w hSw; (try dsimp only at hSw); go_simp; try with_reducible rfl
  try simp only [Act.put, List.setIfInBounds_toArray, List.set_cons_zero, List.set_cons_succ]
  refine wpAnyH_take (i := 2) (oi := ⟨some 46, _, _, _, _, _⟩) (v := ?v34) rfl (by kernel_rfl) (by kernel_rfl) (by kernel_rfl) (fun _ _ _ h => h) (Or.inl ⟨by kernel_rfl, ?h34⟩) hHeld ?_
  case h34 => intro w hSw; (try dsimp only at hSw); go_simp; try with_reducible rfl
  try simp only [Act.put, List.setIfInBounds_toArray, List.set_cons_zero, List.set_cons_succ]
  refine wpAnyH_take (i := 3) (oi := ⟨some 47, _, _, _, _, _⟩) (v := ?v35) rfl (by kernel_rfl) (by kernel_rfl) (by kernel_rfl) (fun _ _ _ h => h) (Or.inl ⟨by kernel_rfl, ?h35⟩) hHeld ?_
  case h35 => intro w hSw; (try dsimp only at hSw); go_simp; try with_reducible rfl
  try simp only [Act.put, List.setIfInBounds_toArray, List.set_cons_zero, List.set_cons_succ]
  refine wpAnyH_take (i := 4) (oi := ⟨some 48, _, _, _, _, _⟩) (v := ?v36) rfl (by kernel_rfl) (by kernel_rfl) (by kernel_rfl) (fun _ _ _ h => h) (Or.inl ⟨by kernel_rfl, ?h36⟩) hHeld ?_
  case h36 => intro w hSw; (try dsimp only at hSw); go_simp; try with_reducible rfl
  try simp only [Act.put, List.setIfInBounds_toArray, List.set_cons_zero, List.set_cons_succ]
  refine wpAnyH_take (i := 5) (oi := ⟨some 49, _, _, _, _, _⟩) (v := ?v37) rfl (by kernel_rfl) (by kernel_rfl) (by kernel_rfl) (fun _ _ _ h => h) (Or.inl ⟨by kernel_rfl, ?h37⟩) hHeld ?_
  case h37 => intro w hSw; (try dsimp only at hSw); go_simp; try with_reducible rfl
  try simp only [Act.put, List.setIfInBounds_toArray, List.set_cons_zero, List.set_cons_succ]
  refine wpAnyH_take (i := 6) (oi := ⟨some 50, _, _, _, _, _⟩) (v := ?v38) rfl (by kernel_rfl) (by kernel_rfl) (by kernel_rfl) (fun _ _ _ h => h) (Or.inl ⟨by kernel_rfl, ?h38⟩) hHeld ?_
  case h38 => intro w hSw; (try dsimp only at hSw); go_simp; try with_reducible rfl
  try simp only [Act.put, List.setIfInBounds_toArray, List.set_cons_zero, List.set_cons_succ]
  refine wpAnyH_take (i := 7) (oi := ⟨some 51, _, _, _, _, _⟩) (v := ?v39) rfl (by kernel_rfl) (by kernel_rfl) (by kernel_rfl) (fun _ _ _ h => h) (Or.inl ⟨by kernel_rfl, ?h39⟩) hHeld ?_
  case h39 => intro w hSw; (try dsimp only at hSw); go_simp; try with_reducible rfl
  try simp only [Act.put, List.setIfInBounds_toArray, List.set_cons_zero, List.set_cons_succ]
  refine wpAnyH_take (i := 8) (oi := ⟨some 52, _, _, _, _, _⟩) (v := ?v40) rfl (by kernel_rfl) (by kernel_rfl) (by kernel_rfl) (fun _ _ _ h => h) (Or.inl ⟨by kernel_rfl, ?h40⟩) hHeld ?_
  case h40 => intro w hSw; (try dsimp only at hSw); go_simp; try with_reducible rfl
  try simp only [Act.put, List.setIfInBounds_toArray, List.set_cons_zero, List.set_cons_succ]
  refine wpAnyH_take (i := 9) (oi := ⟨some 53, _, _, _, _, _⟩) (v := ?v41) rfl (by kernel_rfl) (by kernel_rfl) (by kernel_rfl) (fun _ _ _ h => h) (Or.inl ⟨by kernel_rfl, ?h41⟩) hHeld ?_
  case h41 => intro w hSw; (try dsimp only at hSw); go_simp; try with_reducible rfl
  try simp only [Act.put, List.setIfInBounds_toArray, List.set_cons_zero, List.set_cons_succ]
  refine wpAnyH_take (i := 10) (oi := ⟨some 9, _, _, _, _, _⟩) (v := ?v42) rfl (by kernel_rfl) (by kernel_rfl) (by kernel_rfl) (fun _ _ _ h => h) (Or.inl ⟨by kernel_rfl, ?h42⟩) hHeld ?_
  case h42 => intro w hSw; (try dsimp only at hSw); go_simp; try with_reducible rfl
  try simp only [Act.put, List.setIfInBounds_toArray, List.set_cons_zero, List.set_cons_succ]
  refine wpAnyH_done (by kernel_rfl) ?_ _
  have hWv2 : Same W w2.drew := hWv.trans (Sep.drew _ _)
  obtain ⟨w3, hw3⟩ : ∃ v, v = w2.drew := ⟨_, rfl⟩
  rw [← hw3] at hHeld hWv2 ⊢
  clear hw3 hWv k0 k1 k2 k3 k4 k5 k6 k7 k8 k9 k10
  obtain ⟨k0, k1, k2, k3, k4, k5, k6, k7, k8, k9, k10, -⟩ := hHeld
  go_upto_if 57 with fail
  go_cut [10] from 55 (fun s wx => s = .int .u64 (ifI (op = 1) x was) ∧ w3 = wx)
  case first =>
    by_cases h1 : op = 1
    · have h1b : (op == 1) = true := by simp [h1]
      go_wp2
      go_meet
      case rel => exact ⟨by rw [ifI_yes h1], rfl⟩
    · have h1b : (op == 1) = false := by simp [h1]
      go_wp2
      go_meet
      case rel => exact ⟨by rw [ifI_no h1], rfl⟩
  case rest =>
    obtain ⟨rfl, rfl⟩ := hcut
    obtain ⟨n1, hn1⟩ : ∃ n, n = ifI (op = 1) x was := ⟨_, rfl⟩
    rw [← hn1]
    have HN1 := Lib.hid hn1
    clear hn1
    obtain ⟨b2, hb2⟩ : ∃ b : Bool, b = decide (op = 2 ∧ was = x) := ⟨_, rfl⟩
    have HB2 := Lib.hid hb2
    clear hb2
    go_upto_region 7 with fail
    go_cut [68] from 57 (fun s wx => s = .bool b2 ∧ w3 = wx)
    case first =>
      by_cases h1 : op = 2
      · have h1b : (op == 2) = true := by simp [h1]
        go_wp2
        go_meet
        case rel => exact ⟨by rw [HB2.out]; simp only [h1, true_and]; by_cases h9 : was = x <;> simp [h9], rfl⟩
      · have h1b : (op == 2) = false := by simp [h1]
        go_wp2
        go_meet
        case rel => exact ⟨by rw [HB2.out]; simp [h1], rfl⟩
    case rest =>
      obtain ⟨rfl, rfl⟩ := hcut
      go_upto_if 68 with fail
      go_cut [10] from 57 (fun s wx => s = .int .u64 (ifI (op = 2 ∧ was = x) y n1) ∧ w3 = wx)
      case first =>
        cases hb : b2 with
        | true =>
          have h2' : op = 2 ∧ was = x := of_decide_eq_true (HB2.out.symm.trans hb)
          have H2 := Lib.hid h2'
          subst hb
          clear h2'
          go_wp2
          go_meet
          case rel => exact ⟨by rw [ifI_yes H2.out], rfl⟩
        | false =>
          have h2' : ¬ (op = 2 ∧ was = x) := of_decide_eq_false (HB2.out.symm.trans hb)
          have H2 := Lib.hid h2'
          subst hb
          clear h2'
          go_wp2
          go_meet
          case rel => exact ⟨by rw [ifI_no H2.out], rfl⟩
      case rest =>
        obtain ⟨rfl, rfl⟩ := hcut
        obtain ⟨n2, hn2⟩ : ∃ n, n = ifI (op = 2 ∧ was = x) y n1 := ⟨_, rfl⟩
        rw [← hn2]
        have HN2 := Lib.hid hn2
        clear hn2
        go_upto_if 73 with fail
        go_cut [10] from 57 (fun s wx => s = .int .u64 (ifI (op = 3) (IntKind.u64.wrap (was + x)) n2) ∧ w3 = wx)
        case first =>
          by_cases h1 : op = 3
          · have h1b : (op == 3) = true := by simp [h1]
            go_wp2
            go_meet
            case rel => exact ⟨by rw [ifI_yes h1], rfl⟩
          · have h1b : (op == 3) = false := by simp [h1]
            go_wp2
            go_meet
            case rel => exact ⟨by rw [ifI_no h1], rfl⟩
        case rest =>
          obtain ⟨rfl, rfl⟩ := hcut
          obtain ⟨n3, hn3⟩ : ∃ n, n = ifI (op = 3) (IntKind.u64.wrap (was + x)) n2 := ⟨_, rfl⟩
          rw [← hn3]
          have HN3 : Hid (n3 = nextW op was x y) := by
            show n3 = _
            rw [hn3, HN2.out, HN1.out, next_eq]
          clear hn3
          have hs03 : Same w w3 := hs0.trans hWv2
          have h3s : w.heap.size + 4 ≤ w3.heap.size := by have := hWv2.size; omega
          have own0 : (w3.alloc (.cells #[] 22)).ownsRow w3.heap.size 22 1 (.slice (some ⟨w3.heap.size, 0, none⟩) 0 0) 0 [] := World.ownsRow_made w3 #[] 0 (Nat.le_refl _) (by simp) rfl
          obtain ⟨hcsl, ⟨e, h0⟩ | ⟨wb', wo', wc', e, hWF, hWlt, hWlc, hWm, hWc⟩⟩ := HWS.out
          · cases e
          obtain ⟨⟨rfl, rfl⟩, rfl⟩ : (wb = wb' ∧ wo = wo') ∧ wc = wc' := by simpa using e
          have hnews1 := Slc.news (w := w) (w' := w3.alloc (.cells #[] 22)) (fun k hk => ((hs03.trans (Sep.alloc _ _ _)).block k hk (fun x => x))) hWlt hWc
          obtain ⟨hrcl, ⟨e2, h02⟩ | ⟨rb', ro', rc', e2, hRF, hRlt, hRlc, hRm, hRc⟩⟩ := HR.out
          · cases e2
          obtain ⟨⟨rfl, rfl⟩, -, rfl⟩ : (rb = rb' ∧ ro = ro') ∧ rn = (L.getD i default).ws.length ∧ rc = rc' := by simpa using e2
          have hone : ∀ u ∈ cs, u.oneCell' = true := fun u hu => by
            obtain ⟨q, hq, hqe⟩ := List.getElem_of_mem hu
            have hqL : q < L.length := by have := HNL.out; omega
            obtain ⟨u', hu', hsl⟩ := HRW.out q hqL
            obtain ⟨ra, rc, rfl⟩ := Slc.form hsl
            rw [List.getElem?_eq_getElem hq, hqe] at hu'
            obtain rfl : u = _ := by simpa using hu'
            rfl
          have q0 := fun o => (Sep.alloc (fun _ => False) w3 o).cell k0 (fun x => x)
          have OWN0 := Lib.hid own0
          have HCSL := Lib.hid hcsl
          have RCL : Hid ((wds (L.getD i default).ws).length = rn * 1) := by have := HRN.out; show _ = _; rw [wds_len, ← this]; omega
          have HNW1 := Lib.hid hnews1
          have HONE := Lib.hid hone
          have HWC0 := Lib.hid hWc
          have HRC0 := Lib.hid hRc
          clear own0 hcsl hnews1 hone hWc hRc e e2 hrcl
          go_wp2_with (first | (at_builtin; go_loud (refine wpList_append_own _ rfl (.tmp 78) (.tmp 80) 49 rfl w3.heap.size 22 i1 (.slice none 0 0) 1 24 Try.underlying49 HI1.out hy0 hy1 hy2 rfl (by decide) (.slice (some ⟨w3.heap.size, 0, none⟩) 0 0) 0 [] rfl OWN0.out ⟨wb, wo, none⟩ n wc cs rfl HCSL.out HNW1.out HONE.out (by unfold maxLen; omega) (by omega) (by simp) ?_)))
          intro v1 w4 o1 gr1 _
          have s34 : Same w3 w4 := grow_same (Sep.alloc _ w3 _) gr1 (fun k hk => by simp [Value.ownBlock] at hk; omega)
          have sl1 : Slc 1 (fun b => w3.heap.size ≤ b) w4 v1 n cs := Slc.owned (fun b hb => hb) o1
          obtain ⟨g, cap1, cur1, rfl, hgl, gob⟩ : ∃ g cap1 cur1, v1 = .slice (some ⟨g, 0, none⟩) n cap1 ∧ w3.heap.size ≤ g ∧ w4.heap[g]? = some (.cells cur1 22) := by
            obtain ⟨_, ⟨e, h0⟩ | ⟨g', cap', cur', e, hg', hh', _⟩⟩ := o1
            · omega
            · exact ⟨g', cap', cur', e, hg', hh'⟩
          obtain ⟨u, hu⟩ : ∃ u, cs[i]? = some u := ⟨_, List.getElem?_eq_getElem (by have := HCSL.out; omega)⟩
          have hcw3 : w.cell? ⟨wb, wo + i, none⟩ = some u := HWC0.out i u hu
          have gcell : w4.cell? ⟨g, i, none⟩ = some u := sl1.cellAt hu
          have hg4 := lt_of_block gob
          have m0 := Same.cell s34 k0
          have m1 := Same.cell s34 k3
          have m2 := Same.cell s34 k9
          have NEWS2 : Hid (∀ v, Same w4 v → ∀ j u, (wds (L.getD i default).ws)[j]? = some u → v.cell? ((⟨rb, ro, none⟩ : Addr).add j) = some u) :=
            Lib.hid fun v hv => Slc.news (w := w) (w' := v) (fun k hk => ((hs03.trans s34).trans hv).block k hk (fun x => x)) hRlt HRC0.out
          have M6 := Lib.hid (Same.cell s34 k6)
          have SL1 := Lib.hid (Slc.imp sl1 (G := fun b => w3.heap.size ≤ b ∧ b < w4.heap.size) fun b hb hlt => ⟨hb, hlt⟩)
          have S34 := Lib.hid s34
          have l34 := s34.size
          have hWb : wb < w.heap.size := hWlt
          clear o1 gr1 q0 sl1 s34 hu hcw3 k0 k1 k2 k3 k4 k5 k6 k7 k8 k9 k10
          go_wp2
          refine wp_region_held_drew (S := (fun v => v.cell? ⟨w.heap.size, 0, none⟩ = some (.slice (some ⟨wb, wo, none⟩) n wc) ∧ v.cell? ⟨w.heap.size + 1, 0, none⟩ = some (.int .i64 (i : Int)) ∧ v.cell? ⟨wb, wo + i, none⟩ = some (.slice (some ⟨rb, ro, none⟩) rn rc))) (by kernel_rfl) ?_ (fun hHeld => ?_)
          · exact ⟨(Sep.drew (fun _ => False) w4).cell m0 (fun x => x), (Sep.drew (fun _ => False) w4).cell m1 (fun x => x), (Sep.drew (fun _ => False) w4).cell m2 (fun x => x)⟩
          change wpAnyH _ _ _ _ _ 13 _ _ _
          refine wpAnyH_take (i := 0) (oi := ⟨some 82, _, _, _, _, _⟩) (v := ?v43) rfl (by kernel_rfl) (by kernel_rfl) (by kernel_rfl) (fun _ _ _ h => h) (Or.inl ⟨by kernel_rfl, ?h43⟩) hHeld ?_
          case h43 => intro w hSw; (try dsimp only at hSw); go_simp; try with_reducible rfl
          try simp only [Act.put, List.setIfInBounds_toArray, List.set_cons_zero, List.set_cons_succ]
          refine wpAnyH_take (i := 1) (oi := ⟨some 83, _, _, _, _, _⟩) (v := ?v44) rfl (by kernel_rfl) (by kernel_rfl) (by kernel_rfl) (fun _ _ _ h => h) (Or.inl ⟨by kernel_rfl, ?h44⟩) hHeld ?_
          case h44 => intro w hSw; (try dsimp only at hSw); go_simp; try with_reducible rfl
          try simp only [Act.put, List.setIfInBounds_toArray, List.set_cons_zero, List.set_cons_succ]
          refine wpAnyH_take (i := 2) (oi := ⟨some 84, _, _, _, _, _⟩) (v := ?v45) rfl (by kernel_rfl) (by kernel_rfl) (by kernel_rfl) (fun _ _ _ h => h) (Or.inl ⟨by kernel_rfl, ?h45⟩) hHeld ?_
          case h45 => intro w hSw; (try dsimp only at hSw); go_simp; try with_reducible rfl
          try simp only [Act.put, List.setIfInBounds_toArray, List.set_cons_zero, List.set_cons_succ]
          refine wpAnyH_take (i := 4) (oi := ⟨some 86, _, _, _, _, _⟩) (v := ?v46) rfl (by kernel_rfl) (by kernel_rfl) (by kernel_rfl) (fun _ _ _ h => h) (Or.inl ⟨by kernel_rfl, ?h46⟩) hHeld ?_
          case h46 => intro w hSw; (try dsimp only at hSw); go_simp; try with_reducible rfl
          try simp only [Act.put, List.setIfInBounds_toArray, List.set_cons_zero, List.set_cons_succ]
          refine wpAnyH_take (i := 5) (oi := ⟨some 87, _, _, _, _, _⟩) (v := ?v47) rfl (by kernel_rfl) (by kernel_rfl) (by kernel_rfl) (fun _ _ _ h => h) (Or.inl ⟨by kernel_rfl, ?h47⟩) hHeld ?_
          case h47 => intro w hSw; (try dsimp only at hSw); go_simp; try with_reducible rfl
          try simp only [Act.put, List.setIfInBounds_toArray, List.set_cons_zero, List.set_cons_succ]
          refine wpAnyH_take (i := 6) (oi := ⟨some 88, _, _, _, _, _⟩) (v := ?v48) rfl (by kernel_rfl) (by kernel_rfl) (by kernel_rfl) (fun _ _ _ h => h) (Or.inl ⟨by kernel_rfl, ?h48⟩) hHeld ?_
          case h48 => intro w hSw; (try dsimp only at hSw); go_simp; try with_reducible rfl
          try simp only [Act.put, List.setIfInBounds_toArray, List.set_cons_zero, List.set_cons_succ]
          refine wpAnyH_take (i := 7) (oi := ⟨some 89, _, _, _, _, _⟩) (v := ?v49) rfl (by kernel_rfl) (by kernel_rfl) (by kernel_rfl) (fun _ _ _ h => h) (Or.inl ⟨by kernel_rfl, ?h49⟩) hHeld ?_
          case h49 => intro w hSw; (try dsimp only at hSw); go_simp; try with_reducible rfl
          try simp only [Act.put, List.setIfInBounds_toArray, List.set_cons_zero, List.set_cons_succ]
          refine wpAnyH_take (i := 8) (oi := ⟨some 90, _, _, _, _, _⟩) (v := ?v50) rfl (by kernel_rfl) (by kernel_rfl) (by kernel_rfl) (fun _ _ _ h => h) (Or.inl ⟨by kernel_rfl, ?h50⟩) hHeld ?_
          case h50 => intro w hSw; (try dsimp only at hSw); go_simp; try with_reducible rfl
          try simp only [Act.put, List.setIfInBounds_toArray, List.set_cons_zero, List.set_cons_succ]
          refine wpAnyH_take (i := 9) (oi := ⟨some 91, _, _, _, _, _⟩) (v := ?v51) rfl (by kernel_rfl) (by kernel_rfl) (by kernel_rfl) (fun _ _ _ h => h) (Or.inl ⟨by kernel_rfl, ?h51⟩) hHeld ?_
          case h51 => intro w hSw; (try dsimp only at hSw); go_simp; try with_reducible rfl
          try simp only [Act.put, List.setIfInBounds_toArray, List.set_cons_zero, List.set_cons_succ]
          refine wpAnyH_ready (rs := [3]) (by kernel_rfl) (by simp) ?_
          refine AllReadyH.cons (o := ⟨some 85, _, _, _, _, _⟩) rfl (fun K hK => ?_) AllReadyH.nil
          rw [if_pos (by kernel_rfl)]
          go_simp
          obtain ⟨wA, hwA⟩ : ∃ x, x = (w4.alloc (.cells #[] 23)).drew := ⟨_, rfl⟩
          rw [← hwA]
          have hA : Same w4 wA := by rw [hwA]; exact (Sep.alloc _ w4 _).trans (Sep.drew _ _)
          have ownA : wA.ownsRow w4.heap.size 23 1 (.slice (some ⟨w4.heap.size, 0, none⟩) 0 0) 0 [] := by rw [hwA]; exact World.ownsRow_made w4 #[] 0 (Nat.le_refl _) (by simp) rfl
          have leA := hA.size
          clear hwA
          refine hK.out _ _ ?_ (fun hHeld => ?_)
          · exact ⟨Same.cell hA m0, Same.cell hA m1, Same.cell hA m2⟩
          clear hK K
          try simp only [Act.put, List.setIfInBounds_toArray, List.set_cons_zero, List.set_cons_succ]
          refine wpAnyH_ready (rs := [10]) (by kernel_rfl) (by simp) ?_
          refine AllReadyH.cons (o := ⟨some 92, _, _, _, _, _⟩) rfl (fun K hK => ?_) AllReadyH.nil
          rw [if_pos (by kernel_rfl)]
          refine wp_append_lies _ (.tmp 85) (.tmp 91) 22 rfl _ 23 i0 (.int .u64 0) 1 8 Try.underlying22 HI0.out hz0 hz1 hz2 rfl (by omega) (.slice (some ⟨w4.heap.size, 0, none⟩) 0 0) 0 [] rfl ownA ⟨rb, ro, none⟩ rn rc (wds (L.getD i default).ws) rfl RCL.out (NEWS2.out wA hA) (wds_one _) (by omega) (by unfold maxLen; omega) (by omega) leA _ rfl ?_
          intro g2 cap2 wB o2 gr2 hat2 hlt2
          have hB : Same w4 wB := grow_same hA gr2 (fun k hk => by simp [Value.ownBlock] at hk; omega)
          rw [Nat.zero_add, List.nil_append] at o2
          rw [Nat.zero_add]
          have O2 := Lib.hid o2
          have hg2 := o2lt o2
          obtain ⟨cur2, hob2⟩ := o2ob o2
          refine hK.out _ _ ?_ (fun hHeld => ?_)
          · exact ⟨Same.cell hB m0, Same.cell hB m1, Same.cell hB m2⟩
          clear hK K
          try simp only [Act.put, List.setIfInBounds_toArray, List.set_cons_zero, List.set_cons_succ]
          refine wpAnyH_take (i := 11) (oi := ⟨some 93, _, _, _, _, _⟩) (v := ?v52) rfl (by kernel_rfl) (by kernel_rfl) (by kernel_rfl) (fun _ _ _ h => h) (Or.inl ⟨by kernel_rfl, ?h52⟩) hHeld ?_
          case h52 => intro w hSw; (try dsimp only at hSw); go_simp; try with_reducible rfl
          try simp only [Act.put, List.setIfInBounds_toArray, List.set_cons_zero, List.set_cons_succ]
          refine wpAnyH_ready (rs := [12]) (by kernel_rfl) (by simp) ?_
          refine AllReadyH.cons (o := ⟨none, _, _, _, _, _⟩) rfl (fun K hK => ?_) AllReadyH.nil
          have tc := Same.cell hB gcell
          have tf : wB.frozen? ⟨g, i, none⟩ = false := free_of_heap (Same.obj hB gob)
          rw [if_pos (by kernel_rfl)]
          go_simp
          obtain ⟨wC, hwC⟩ : ∃ x, x = wB.setCell ⟨g, i, none⟩ (.slice (some ⟨g2, 0, none⟩) rn cap2) := ⟨_, rfl⟩
          rw [← hwC]
          have h7 : Sep (fun k => k = g) wB wC := by rw [hwC]; exact Sep.setCell _ _ _ _ (.inl rfl)
          have HWC := Lib.hid hwC
          clear hwC tc tf
          refine hK.out _ _ ?_ (fun hHeld => ?_)
          · exact ⟨h7.cell hHeld.1 (show ¬ (w.heap.size = g) by omega), h7.cell hHeld.2.1 (show ¬ (w.heap.size + 1 = g) by omega), h7.cell hHeld.2.2 (show ¬ (wb = g) by omega)⟩
          clear hK K
          try simp only [Act.put, List.setIfInBounds_toArray, List.set_cons_zero, List.set_cons_succ]
          refine wpAnyH_done (by kernel_rfl) ?_ _
          have lB := hB.size
          have sl1C : Slc 1 (fun b => w3.heap.size ≤ b ∧ b < w4.heap.size) wC (.slice (some ⟨g, 0, none⟩) n cap1) n (cs.set i (.slice (some ⟨g2, 0, none⟩) rn cap2)) := by rw [HWC.out]; exact (SL1.out.same hB).set hi
          have sl2C : Slc 1 (fun b => w4.heap.size ≤ b) wC (.slice (some ⟨g2, 0, none⟩) rn cap2) rn (wds (L.getD i default).ws) := (Slc.owned (fun b hb => hb) O2.out).stay h7 (fun b hb _ e => by omega)
          have p0 := hHeld.2.1
          have p1 : wC.cell? ⟨g, i, none⟩ = some (.slice (some ⟨g2, 0, none⟩) rn cap2) := sl1C.cellAt (by rw [List.getElem?_set, if_pos rfl, if_pos (by have := HCSL.out; omega)])
          have p2 := h7.cell (Same.cell hB M6.out) (show ¬ (w.heap.size + 2 = g) by omega)
          obtain ⟨u2, hu2⟩ : ∃ u, (wds (L.getD i default).ws)[j]? = some u := ⟨_, List.getElem?_eq_getElem (by have := RCL.out; omega)⟩
          have g2cell := sl2C.cellAt hu2
          have g2ob := h7.obj hob2 (show ¬ (g2 = g) by omega)
          have SL1C := Lib.hid sl1C
          have SL2C := Lib.hid sl2C
          have hBC : Same w3 wC := by
            have h := S34.out.trans hB
            exact same_then h hgl h7
          have HBC := Lib.hid hBC
          have lC := h7.size
          clear hHeld ownA gr2 hat2 hB h7 sl1C sl2C hu2 hob2 m0 m1 m2 gcell gob hBC
          go_wp2
          refine wp_region_held_drew (S := (fun v => v.cell? ⟨w.heap.size + 1, 0, none⟩ = some (.int .i64 (i : Int)) ∧ v.cell? ⟨g, i, none⟩ = some (.slice (some ⟨g2, 0, none⟩) rn cap2) ∧ v.cell? ⟨w.heap.size + 2, 1, none⟩ = some (.int .i64 (j : Int)))) (by kernel_rfl) ?_ (fun hHeld => ?_)
          · exact ⟨(Sep.drew (fun _ => False) wC).cell p0 (fun x => x), (Sep.drew (fun _ => False) wC).cell p1 (fun x => x), (Sep.drew (fun _ => False) wC).cell p2 (fun x => x)⟩
          change wpAnyH _ _ _ _ _ 10 _ _ _
          refine wpAnyH_take (i := 0) (oi := ⟨some 94, _, _, _, _, _⟩) (v := ?v53) rfl (by kernel_rfl) (by kernel_rfl) (by kernel_rfl) (fun _ _ _ h => h) (Or.inl ⟨by kernel_rfl, ?h53⟩) hHeld ?_
          case h53 => intro w hSw; (try dsimp only at hSw); go_simp; try with_reducible rfl
          try simp only [Act.put, List.setIfInBounds_toArray, List.set_cons_zero, List.set_cons_succ]
          refine wpAnyH_take (i := 1) (oi := ⟨some 95, _, _, _, _, _⟩) (v := ?v54) rfl (by kernel_rfl) (by kernel_rfl) (by kernel_rfl) (fun _ _ _ h => h) (Or.inl ⟨by kernel_rfl, ?h54⟩) hHeld ?_
          case h54 => intro w hSw; (try dsimp only at hSw); go_simp; try with_reducible rfl
          try simp only [Act.put, List.setIfInBounds_toArray, List.set_cons_zero, List.set_cons_succ]
          refine wpAnyH_take (i := 2) (oi := ⟨some 96, _, _, _, _, _⟩) (v := ?v55) rfl (by kernel_rfl) (by kernel_rfl) (by kernel_rfl) (fun _ _ _ h => h) (Or.inl ⟨by kernel_rfl, ?h55⟩) hHeld ?_
          case h55 => intro w hSw; (try dsimp only at hSw); go_simp; try with_reducible rfl
          try simp only [Act.put, List.setIfInBounds_toArray, List.set_cons_zero, List.set_cons_succ]
          refine wpAnyH_take (i := 3) (oi := ⟨some 97, _, _, _, _, _⟩) (v := ?v56) rfl (by kernel_rfl) (by kernel_rfl) (by kernel_rfl) (fun _ _ _ h => h) (Or.inl ⟨by kernel_rfl, ?h56⟩) hHeld ?_
          case h56 => intro w hSw; (try dsimp only at hSw); go_simp; try with_reducible rfl
          try simp only [Act.put, List.setIfInBounds_toArray, List.set_cons_zero, List.set_cons_succ]
          refine wpAnyH_take (i := 4) (oi := ⟨some 98, _, _, _, _, _⟩) (v := ?v57) rfl (by kernel_rfl) (by kernel_rfl) (by kernel_rfl) (fun _ _ _ h => h) (Or.inl ⟨by kernel_rfl, ?h57⟩) hHeld ?_
          case h57 => intro w hSw; (try dsimp only at hSw); go_simp; try with_reducible rfl
          try simp only [Act.put, List.setIfInBounds_toArray, List.set_cons_zero, List.set_cons_succ]
          refine wpAnyH_take (i := 5) (oi := ⟨some 99, _, _, _, _, _⟩) (v := ?v58) rfl (by kernel_rfl) (by kernel_rfl) (by kernel_rfl) (fun _ _ _ h => h) (Or.inl ⟨by kernel_rfl, ?h58⟩) hHeld ?_
          case h58 => intro w hSw; (try dsimp only at hSw); go_simp; try with_reducible rfl
          try simp only [Act.put, List.setIfInBounds_toArray, List.set_cons_zero, List.set_cons_succ]
          refine wpAnyH_take (i := 6) (oi := ⟨some 100, _, _, _, _, _⟩) (v := ?v59) rfl (by kernel_rfl) (by kernel_rfl) (by kernel_rfl) (fun _ _ _ h => h) (Or.inl ⟨by kernel_rfl, ?h59⟩) hHeld ?_
          case h59 => intro w hSw; (try dsimp only at hSw); go_simp; try with_reducible rfl
          try simp only [Act.put, List.setIfInBounds_toArray, List.set_cons_zero, List.set_cons_succ]
          refine wpAnyH_take (i := 7) (oi := ⟨some 101, _, _, _, _, _⟩) (v := ?v60) rfl (by kernel_rfl) (by kernel_rfl) (by kernel_rfl) (fun _ _ _ h => h) (Or.inl ⟨by kernel_rfl, ?h60⟩) hHeld ?_
          case h60 => intro w hSw; (try dsimp only at hSw); go_simp; try with_reducible rfl
          try simp only [Act.put, List.setIfInBounds_toArray, List.set_cons_zero, List.set_cons_succ]
          refine wpAnyH_take (i := 8) (oi := ⟨some 102, _, _, _, _, _⟩) (v := ?v61) rfl (by kernel_rfl) (by kernel_rfl) (by kernel_rfl) (fun _ _ _ h => h) (Or.inl ⟨by kernel_rfl, ?h61⟩) hHeld ?_
          case h61 => intro w hSw; (try dsimp only at hSw); go_simp; try with_reducible rfl
          try simp only [Act.put, List.setIfInBounds_toArray, List.set_cons_zero, List.set_cons_succ]
          refine wpAnyH_ready (rs := [9]) (by kernel_rfl) (by simp) ?_
          refine AllReadyH.cons (o := ⟨none, _, _, _, _, _⟩) rfl (fun K hK => ?_) AllReadyH.nil
          have tc := (Sep.drew (fun _ => False) wC).cell g2cell (fun x => x)
          have tf : wC.drew.frozen? ⟨g2, j, none⟩ = false := free_of_heap g2ob
          rw [if_pos (by kernel_rfl)]
          go_simp
          obtain ⟨wD, hwD⟩ : ∃ x, x = wC.drew.setCell ⟨g2, j, none⟩ (.int .u64 n3) := ⟨_, rfl⟩
          have hwD2 : wD = (wC.setCell ⟨g2, j, none⟩ (.int .u64 n3)).drew := hwD
          rw [← hwD2]
          have h8 : Sep (fun k => k = g2) wC wD := by rw [hwD2]; exact Sep.trans (Sep.setCell (fun k => k = g2) wC ⟨g2, j, none⟩ (.int .u64 n3) (.inl rfl)) (Sep.drew _ _)
          have HWD := Lib.hid hwD2
          clear hwD hwD2 tc tf
          refine hK.out _ _ ?_ (fun hHeld => ?_)
          · exact ⟨h8.cell p0 (show ¬ (w.heap.size + 1 = g2) by omega), h8.cell p1 (show ¬ (g = g2) by omega), h8.cell p2 (show ¬ (w.heap.size + 2 = g2) by omega)⟩
          clear hK K
          try simp only [Act.put, List.setIfInBounds_toArray, List.set_cons_zero, List.set_cons_succ]
          refine wpAnyH_done (by kernel_rfl) ?_ _
          have hCD : Same w3 wD := same_then HBC.out (by omega) h8
          have hbx := Same.obj (hWv2.trans hCD) HB0.out
          have hre := Same.obj (hWv2.trans hCD) HB3.out
          obtain ⟨t0, t1, t2, tf⟩ := cells3x hbx
          obtain ⟨r0, r1, r2, rf⟩ := cells3x hre
          have SL1D : Hid (Slc 1 (fun b => w.heap.size + 4 ≤ b) wD (.slice (some ⟨g, 0, none⟩) n cap1) n (cs.set i (.slice (some ⟨g2, 0, none⟩) rn cap2))) := Lib.hid ((Slc.imp (SL1C.out.stay h8 (fun b hb hlt e => by omega)) (fun b hb _ => by omega)))
          have SL2D : Hid (Slc 1 (fun b => w.heap.size + 4 ≤ b) wD (.slice (some ⟨g2, 0, none⟩) rn cap2) rn ((wds (L.getD i default).ws).set j (.int .u64 n3))) := by
            show Slc 1 _ wD _ rn _
            rw [HWD.out]
            exact ((Slc.imp SL2C.out (fun b hb _ => by omega)).set hj).same (Sep.drew _ _)
          have hS := Lib.hid (hs03.trans hCD)
          clear hHeld h8 hbx hre p0 p1 p2 g2cell g2ob hCD
          go_wp2
          refine bodyPost_ret (v := .tuple #[.agg #[.slice (some ⟨g, 0, none⟩) n cap1, .slice (some ⟨eb, eo, none⟩) n ec, .int .i64 ((cnt : Int) + 1)], .int .u64 was, .bool true]) (by simp [results, Try.results32, go_sem, r0, r1, r2]) rfl ?_
          clear t0 t1 t2 tf r0 r1 r2 rf
          exact rdo_end (cs := cs) hcnt (by have := HNL.out; omega) HNL.out HF.out hS.out hi HES.out HRW.out HCSL.out SL1D.out SL2D.out HRN.out HWAS.out HN3.out

theorem rdo_yes {F : Nat → Prop} {w : World} {L : List Reg} {cnt : Nat} {v : Value} (h : RM F w v L cnt) (hF : ∀ b, w.heap.size ≤ b → F b) (ci ce op at_ x y : Int) (hok : okB L ci ce op at_ = true) (hcnt : cnt < 1000000000) (hn1 : L.length ≤ 1000) (hrn1 : ∀ i, i < L.length → (L.getD i default).ws.length ≤ 1000000) :
    Calls Try.prog 32 #[v, .agg #[.int .i64 ci, .int .u64 ce], .agg #[.int .i64 op, .int .i64 at_, .int .u64 x, .int .u64 y]] w fun e w' => ∃ v', e = .returned (.tuple #[v', .int .u64 (peekOf L ci at_), .bool true]) ∧ RM F w' v' (doL L ci.toNat at_.toNat op x y) (cnt + 1) ∧ Same w w' := by
  have hg : goodB L ci ce = true := by
    unfold okB at hok
    simp only [Bool.and_eq_true] at hok
    exact hok.1
  obtain ⟨i, j, rfl, rfl, hi, hj, h0, h3⟩ := ok_parts hok
  obtain ⟨wa, wc, ea, ec, rfl⟩ := h.form
  have h' := h
  obtain ⟨W, E, cs, hv, hW, hE, hrows⟩ := h
  simp only [Value.agg.injEq] at hv
  obtain ⟨rfl, rfl⟩ : Value.slice wa L.length wc = W ∧ Value.slice ea L.length ec = E := by simpa using hv
  obtain ⟨wb, wo, eb, eo, ra, rc, rfl, rfl, _, hlw, hle, hcw, hce, hsl⟩ := h'.at hi
  obtain ⟨rb, ro, rfl, hrb, hc⟩ := SlcU.get hsl rfl j hj
  rw [Int.toNat_natCast, Int.toNat_natCast]
  have hp : peekOf L i j = (L.getD i default).ws.getD j 0 := by
    unfold peekOf
    rw [if_pos (by omega)]
    rfl
  rw [hp]
  exact rdo_at i j ce op x y h' hF hW hE hrows rfl rfl rfl hsl hn1 (hrn1 i hi) hcnt hg hi hcw hc (decide_eq_false (by omega)) (decide_eq_false (by omega)) (decide_eq_false (by omega)) (decide_eq_false (by omega)) hj

end Go.Proofs.Ytiljledgoflogaa
