/- The reference's New and Bump. -/
import Derived.Test.YtiljledgoflogaaRc
import Derived.Test.YtiljledgoflogaaX
import Derived.Deep.RegionLaw
namespace Go.Proofs.Ytiljledgoflogaa
open Go.RowKit
set_option linter.unusedSimpArgs false
set_option linter.unusedVariables false

theorem own_same {w w' : World} {B T size n : Nat} {v : Value} {xs : List Value} (h : w.ownsRow B T size v n xs) (hs : Same w w') : w'.ownsRow B T size v n xs := by
  obtain ⟨hl, h | ⟨g, cap, cur, e, hg, hh, h1, h2, h3, h4⟩⟩ := h
  · exact ⟨hl, .inl h⟩
  · exact ⟨hl, .inr ⟨g, cap, cur, e, hg, hs.obj hh, h1, h2, h3, h4⟩⟩
/-- So much of the reference's memory is made. -/
def RBld (B b4 : Nat) (w wr : World) (kW kE : Nat) (zs : List Int) (vW vE : Value) (D : Nat → Nat) : Prop :=
  B ≤ b4 ∧ wr.heap[b4]? = some (.cells #[vW, vE, .int .i64 0] 51) ∧ wr.ownsRow B 22 1 vW kW ((List.range kW).map fun i => .slice (some ⟨D i, 0, none⟩) (zs.getD i 0).toNat (zs.getD i 0).toNat) ∧ wr.ownsRow B 23 1 vE kE (List.replicate kE (.int .u64 1)) ∧
    (∀ i, i < kW → B ≤ D i ∧ wr.heap[D i]? = some (.cells (Array.replicate (zs.getD i 0).toNat (Value.int .u64 0)) 23) ∧ vE.ownBlock ≠ some (D i)) ∧ Below B w wr
theorem RBld.stepW {B b4 k : Nat} {w wr A2 A3 : World} {zs : List Int} {vW vE : Value} {D : Nat → Nat} {g cap n D' : Nat} (h : RBld B b4 w wr k k zs vW vE D) (hB : B ≤ wr.heap.size) (hn : (zs.getD k 0).toNat = n) (hs : Same wr A2) (hD1 : wr.heap.size ≤ D') (hD : A2.heap[D']? = some (.cells (Array.replicate n (Value.int .u64 0)) 23))
    (own : A3.ownsRow B 22 1 (.slice (some ⟨g, 0, none⟩) (k + 1) cap) (k + 1) ((List.range k).map (fun i => Value.slice (some ⟨D i, 0, none⟩) (zs.getD i 0).toNat (zs.getD i 0).toNat) ++ [.slice (some ⟨D', 0, none⟩) n n])) (grow : A2.grownBy A3 vW.ownBlock) :
    ∃ D2, RBld B b4 w (A3.setCell ⟨b4, 0, none⟩ (.slice (some ⟨g, 0, none⟩) (k + 1) cap)) (k + 1) k zs (.slice (some ⟨g, 0, none⟩) (k + 1) cap) vE D2 := by
  obtain ⟨hb4, hm, hW, hE, hall, hbel⟩ := h
  have hW2 := own_same hW hs
  have keep : ∀ {b : Nat} {c : Array Value} {U : TypeId}, A2.heap[b]? = some (.cells c U) → 22 ≠ U → A3.heap[b]? = some (.cells c U) := fun {b c U} hb hne => by
    rw [grow.block b (lt_of_block hb) (own_kind hW2 hb hne).symm]
    exact hb
  have old : ∀ {b : Nat} {c : Array Value} {U : TypeId}, wr.heap[b]? = some (.cells c U) → 22 ≠ U → A3.heap[b]? = some (.cells c U) := fun hb hne => keep (hs.obj hb) hne
  have hm3 := old hm (by decide)
  have hnE : vE.ownBlock ≠ some D' := fun e => by
    have := (hE.lt D' e).2
    omega
  refine ⟨fun i => if i = k then D' else D i, hb4, ?_, ?_, ?_, fun i hi => ?_, ?_⟩
  · rw [heap_set_same hm3]; rfl
  · have e : (List.range (k + 1)).map (fun i => Value.slice (some ⟨if i = k then D' else D i, 0, none⟩) (zs.getD i 0).toNat (zs.getD i 0).toNat) = (List.range k).map (fun i => Value.slice (some ⟨D i, 0, none⟩) (zs.getD i 0).toNat (zs.getD i 0).toNat) ++ [.slice (some ⟨D', 0, none⟩) n n] := by
      rw [List.range_succ, List.map_append]
      congr 1
      · apply List.map_congr_left
        intro i hi
        rw [List.mem_range] at hi
        rw [if_neg (by omega)]
      · simp [← hn]
    rw [e]
    exact ownsRow_setCell_other own (own_kind own hm3 (by decide)) _
  · refine ownsRow_setCell_other ?_ (own_kind hE hm (by decide)) _
    obtain ⟨hl, h | ⟨g', cap', cur, e, hg, hh, h1, h2, h3, h4⟩⟩ := hE
    · exact ⟨hl, .inl h⟩
    · exact ⟨hl, .inr ⟨g', cap', cur, e, hg, old hh (by decide), h1, h2, h3, h4⟩⟩
  · by_cases hik : i = k
    · subst hik
      simp only [if_pos]
      refine ⟨by omega, ?_, hnE⟩
      rw [heap_set_other (fun e => ?_), hn]
      · exact keep hD (by decide)
      · exact ne_of_kind hm3 (keep hD (by decide)) (by decide) e.symm
    · simp only [if_neg hik]
      obtain ⟨d1, hd, d3⟩ := hall i (by omega)
      refine ⟨d1, ?_, d3⟩
      rw [heap_set_other (ne_of_kind hd hm (by decide))]
      exact old hd (by decide)
  · exact ((hbel.trans ((Same.below hs).mono hB)).grown grow (Nat.le_trans hB hs.size) (fun b hb => (hW2.lt b hb).1)).setCell hb4 _
theorem RBld.stepE {B b4 k : Nat} {w wr A2 A3 : World} {zs : List Int} {vW vE : Value} {D : Nat → Nat} {g cap : Nat} (h : RBld B b4 w wr (k + 1) k zs vW vE D) (hB : B ≤ wr.heap.size) (hs : Same wr A2)
    (own : A3.ownsRow B 23 1 (.slice (some ⟨g, 0, none⟩) (k + 1) cap) (k + 1) (List.replicate k (.int .u64 1) ++ [.int .u64 1])) (grow : A2.grownBy A3 vE.ownBlock) (hat : vE.ownBlock = some g ∨ g = A2.heap.size) :
    RBld B b4 w (A3.setCell ⟨b4, 1, none⟩ (.slice (some ⟨g, 0, none⟩) (k + 1) cap)) (k + 1) (k + 1) zs vW (.slice (some ⟨g, 0, none⟩) (k + 1) cap) D := by
  obtain ⟨hb4, hm, hW, hE, hall, hbel⟩ := h
  have hE2 := own_same hE hs
  have old : ∀ {b : Nat} {c : Array Value} {U : TypeId}, wr.heap[b]? = some (.cells c U) → 23 ≠ U → A3.heap[b]? = some (.cells c U) := fun {b c U} hb hne => by
    have hb2 := hs.obj hb
    rw [grow.block b (lt_of_block hb2) (own_kind hE2 hb2 hne).symm]
    exact hb2
  have hm3 := old hm (by decide)
  have hD3 : ∀ i, i < k + 1 → A3.heap[D i]? = some (.cells (Array.replicate (zs.getD i 0).toNat (Value.int .u64 0)) 23) := fun i hi => by
    obtain ⟨d1, hd, d3⟩ := hall i hi
    have hd2 := hs.obj hd
    rw [grow.block _ (lt_of_block hd2) d3.symm]
    exact hd2
  refine ⟨hb4, by rw [heap_set_same hm3]; rfl, ?_, ?_, fun i hi => ?_, ?_⟩
  · refine ownsRow_setCell_other ?_ (own_kind hW hm (by decide)) _
    obtain ⟨hl, h | ⟨g', cap', cur, e, hg, hh, h1, h2, h3, h4⟩⟩ := hW
    · exact ⟨hl, .inl h⟩
    · exact ⟨hl, .inr ⟨g', cap', cur, e, hg, old hh (by decide), h1, h2, h3, h4⟩⟩
  · rw [List.replicate_succ']
    exact ownsRow_setCell_other own (own_kind own hm3 (by decide)) _
  · obtain ⟨d1, hd, d3⟩ := hall i hi
    refine ⟨d1, ?_, ?_⟩
    · rw [heap_set_other (ne_of_kind (hD3 i hi) hm3 (by decide))]; exact hD3 i hi
    · simp only [Value.ownBlock, ne_eq, Option.some.injEq]
      rintro rfl
      rcases hat with e | e
      · exact d3 e
      · have h1 := lt_of_block hd
        have h2 := hs.size
        omega
  · exact ((hbel.trans ((Same.below hs).mono hB)).grown grow (Nat.le_trans hB hs.size) (fun b hb => (hE2.lt b hb).1)).setCell hb4 _
theorem Slc.owned2 {size B n T : Nat} {F : Nat → Prop} {w : World} {v : Value} {cs : List Value} (hB : ∀ b, B ≤ b → v.ownBlock = some b → F b) (h : w.ownsRow B T size v n cs) : Slc size F w v n cs := by
  refine ⟨h.1, ?_⟩
  rcases h.2 with h0 | ⟨g, cap, cur, rfl, hg, hh, hn, hm, hc, ht⟩
  · exact .inl h0
  · refine .inr ⟨g, 0, cap, rfl, hB g hg rfl, lt_of_block hh, hn, hm, fun j u hj => ?_⟩
    have hjl : j < n * size := by
      rw [← h.1]
      exact (List.getElem?_eq_some_iff.1 hj).1
    rw [Nat.zero_add, h.cellAt j hjl, hj]
/-- What is made is such a memory. -/
theorem RBld.rm {B b4 : Nat} {w wr : World} {zs : List Int} {vW vE : Value} {D : Nat → Nat} {F : Nat → Prop} (h : RBld B b4 w wr zs.length zs.length zs vW vE D) (hF : ∀ b, B ≤ b → (vW.ownBlock = some b ∨ vE.ownBlock = some b ∨ ∃ i, i < zs.length ∧ D i = b) → F b) (hz : ∀ k, k < zs.length → zs.getD k 0 ≤ 16777216) : RM F wr (.agg #[vW, vE, .int .i64 (0 : Nat)]) (zs.map fun z => ⟨List.replicate z.toNat 0, 1⟩) 0 := by
  obtain ⟨hb4, hm, hW, hE, hall, hbel⟩ := h
  have e2 : eps (zs.map fun z => (⟨List.replicate z.toNat 0, 1⟩ : Reg)) = List.replicate zs.length (.int .u64 1) := by
    unfold eps
    rw [List.map_map]
    apply List.ext_getElem?
    intro i
    simp only [List.getElem?_map, List.getElem?_replicate, Function.comp]
    by_cases hi : i < zs.length
    · simp [hi]
    · rw [if_neg hi, List.getElem?_eq_none (by omega)]; rfl
  refine ⟨vW, vE, _, rfl, by rw [List.length_map]; exact Slc.owned2 (fun b hb h => hF b hb (.inl h)) hW, by rw [List.length_map, e2]; exact Slc.owned2 (fun b hb h => hF b hb (.inr (.inl h))) hE, fun i hi => ?_⟩
  rw [List.length_map] at hi
  obtain ⟨d1, hd, _⟩ := hall i hi
  refine ⟨.slice (some ⟨D i, 0, none⟩) (zs.getD i 0).toNat (zs.getD i 0).toNat, by simp [hi], ?_⟩
  have eL : ((zs.map fun z => (⟨List.replicate z.toNat 0, 1⟩ : Reg)).getD i default).ws = List.replicate (zs.getD i 0).toNat 0 := by simp [hi]
  show Slc 1 F wr _ _ _
  rw [eL]
  refine ⟨by rw [wds_len]; omega, .inr ⟨D i, 0, (zs.getD i 0).toNat, by rw [List.length_replicate], hF _ d1 (.inr (.inr ⟨i, hi, rfl⟩)), lt_of_block hd, by rw [List.length_replicate]; exact Nat.le_refl _, by have := hz i hi; unfold maxLen; omega, fun j u hj => ?_⟩⟩
  rw [cell_of_heap hd]
  rw [Nat.zero_add]
  unfold wds at hj
  rw [List.map_replicate] at hj
  simpa [List.getElem?_replicate, Array.getElem?_replicate] using hj

/-- The two blocks of a round. -/
abbrev two_w (w : World) (n : Nat) : World := (w.alloc (.cells (Array.replicate n (Value.int .u64 0)) 23)).alloc (.cells #[.slice (some ⟨w.heap.size, 0, none⟩) n n] 22)
theorem two_w0 (w : World) (n : Nat) : (two_w w n).heap[w.heap.size]? = some (.cells (Array.replicate n (Value.int .u64 0)) 23) := heap_at2_0 _ _ _
theorem two_w1 (w : World) (n : Nat) : (two_w w n).heap[w.heap.size + 1]? = some (.cells #[.slice (some ⟨w.heap.size, 0, none⟩) n n] 22) := heap_at2_1 _ _ _
theorem two_far {wr A3 : World} {n b : Nat} {v : Value} {c : Array Value} {U : TypeId} (grow : (two_w wr n).drew.grownBy A3 v.ownBlock) (hb : wr.heap[b]? = some (.cells c U)) (hne : v.ownBlock ≠ some b) : A3.heap[b]? = some (.cells c U) := by
  have h2 : (two_w wr n).heap[b]? = some (.cells c U) := Same.obj (((Sep.alloc _ _ _)).thenAlloc _) hb
  rw [grow.block b (lt_of_block h2) hne.symm]
  exact h2

def RMade (F : Nat → Prop) (w : World) (zs : List Int) (e : Ending) (w' : World) : Prop := ∃ v, e = .returned (.tuple #[v, .bool true]) ∧ RM F w' v (zs.map fun z => ⟨List.replicate z.toNat 0, 1⟩) 0 ∧ Same w w'

set_option maxRecDepth 100000 in
set_option maxHeartbeats 2000000 in
theorem rnew_ok {F : Nat → Prop} (a : Option Addr) (cap : Nat) (zs : List Int) (w : World) (hF : ∀ b, w.heap.size ≤ b → F b) (hr : RowI w a zs) (hok : sizesOk zs) : Calls Try.prog 29 #[.slice a zs.length cap] w (RMade F w zs) := by
  obtain ⟨h65, hz⟩ := hok
  have HZ := Lib.hid hz
  clear hz
  have hnn : ∀ k, k ≤ zs.length → 0 ≤ sumTo zs k ∧ sumTo zs k ≤ 16777216 := by
    intro k
    induction k with
    | zero => intro _; rw [sumTo_zero]; omega
    | succ k ih =>
      intro hk
      have h1 := ih (by omega)
      have h2 := HZ.out k (by omega)
      rw [sumTo_succ zs k (by omega)]
      omega
  have HN := Lib.hid hnn
  have HF := Lib.hid hF
  clear hnn hF
  go_enter Try.func29, Try.ntmps29
  go_wp2
  go_loop [5, 6] (fun s t => ∃ k : Nat, k ≤ zs.length ∧ t = .int .i64 k ∧ s = .int .i64 (sumTo zs k)) (fun _ t => zs.length - (intOf t).toNat)
  case atStart => exact ⟨0, by omega, rfl, by rw [sumTo_zero]⟩
  case round =>
    obtain ⟨k, hk, rfl, rfl⟩ := hrel
    by_cases hlt : k < zs.length
    · obtain ⟨b, off, rfl, hbl, hcell⟩ := hr.resolve_left (fun e => by have h0 : zs.length = 0 := (by rw [e]; rfl); omega)
      have hx := hcell k hlt
      have hx2 := fun o o2 => ((Sep.alloc (fun _ => False) w o).thenAlloc o2).cell hx (fun x => x)
      obtain ⟨h1, h2⟩ := HZ.out k hlt
      obtain ⟨h3, h4⟩ := HN.out k (by omega)
      have h5 := sumTo_succ zs k hlt
      have h6 : ¬ (k : Int) ≥ 65 := by omega
      obtain ⟨x, hxe⟩ : ∃ x, x = zs.getD k 0 := ⟨_, rfl⟩
      obtain ⟨y, hye⟩ : ∃ y, y = sumTo zs k := ⟨_, rfl⟩
      rw [← hxe] at hx hx2 h1 h2 h5
      rw [← hye] at h2 h3 h4 h5 ⊢
      have H5 := Lib.hid h5
      clear hxe hye hcell h5 hx
      go_wp2
      go_round
      case rel => exact ⟨k + 1, by omega, by go_num, by rw [H5.out]⟩
      case measure => simp [intOf]; omega
    · obtain ⟨i1, hi1, hy0, hy1, hy2⟩ := info_parts info22
      obtain ⟨i0, hi0, hz0, hz1, hz2⟩ := info_parts info23
      have HI1 := Lib.hid hi1
      have HI0 := Lib.hid hi0
      clear hi1 hi0
      go_wp2_with fail
      obtain ⟨B, hBe⟩ : ∃ B, B = w.heap.size := ⟨_, rfl⟩
      rw [← hBe]
      have HB := Lib.hid hBe
      clear hBe
      go_loopw [7] (fun t wr => ∃ (k : Nat) (vW vE : Value) (D : Nat → Nat), k ≤ zs.length ∧ t = .int .i64 k ∧ RBld B (B + 1) w wr k k zs vW vE D ∧ wr.heap[B]? = some (.cells #[.slice none 0 0, .slice none 0 0, .int .i64 0] 51)) (fun t _ => zs.length - (intOf t).toNat)
      case atStart =>
        rw [HB.out]
        exact ⟨0, .slice none 0 0, .slice none 0 0, fun _ => 0, by omega, rfl, ⟨by omega, heap_at2_1 _ _ _, World.ownsRow_nil _ _ _ _, World.ownsRow_nil _ _ _ _, fun i hi => by omega, ((Below.refl _ _).alloc (Nat.le_refl _) _).alloc (by simp) _⟩, heap_at2_0 _ _ _⟩
      case round =>
        obtain ⟨k, vW, vE, D, hk, rfl, hbd, hres⟩ := hrel
        have hbel := hbd.2.2.2.2.2
        by_cases hlt : k < zs.length
        · obtain ⟨b, off, rfl, hbl, hcell⟩ := hr.resolve_left (fun e => by have h0 : zs.length = 0 := (by rw [e]; rfl); omega)
          have hx : wr.cell? ⟨b, off + k, none⟩ = some (.int .i64 (zs.getD k 0)) := (hbel.cell (by rw [HB.out]; exact hbl)).trans (hcell k hlt)
          obtain ⟨h1, h2⟩ := HZ.out k hlt
          obtain ⟨h3, h4⟩ := HN.out k (by omega)
          obtain ⟨n, hn⟩ : ∃ n : Nat, zs.getD k 0 = n := ⟨(zs.getD k 0).toNat, by omega⟩
          rw [hn] at hx h1 h2
          have hn16 : n ≤ 16777216 := by omega
          have HNN := Lib.hid hn
          have hmk := mkWords n hn16
          have hph := hbd.2.1
          have hown := hbd.2.2.1
          have hownE := hbd.2.2.2.1
          have hBs : B ≤ wr.heap.size := by have := lt_of_block hph; omega
          have cp : wr.cell? ⟨B + 1, 0, none⟩ = some vW := by rw [cell_of_heap hph]; rfl
          have hne : vW.ownBlock ≠ some (B + 1) := own_kind hown hph (by decide)
          have hneR : vW.ownBlock ≠ some B := own_kind hown hres (by decide)
          have hneE : vE.ownBlock ≠ some B := own_kind hownE hres (by decide)
          have hl1 : ∀ o, (wr.alloc o).cell? ⟨B + 1, 0, none⟩ = some vW := fun o => (Sep.alloc (fun _ => False) wr o).cell cp (fun x => x)
          have hl2 : ∀ o o', ((wr.alloc o).alloc o').cell? ⟨B + 1, 0, none⟩ = some vW := fun o o' => (Sep.alloc (fun _ => False) _ o').cell (hl1 o) (fun x => x)
          have HPH := Lib.hid hph
          have HRES := Lib.hid hres
          have HOWN := Lib.hid hown
          obtain ⟨xs, hxs⟩ : ∃ xs, xs = (List.range k).map fun i => Value.slice (some ⟨D i, 0, none⟩) (zs.getD i 0).toNat (zs.getD i 0).toNat := ⟨_, rfl⟩
          rw [← hxs] at hown
          have HXS := Lib.hid hxs
          have HBD := Lib.hid hbd
          clear hcell hn h2 h3 h4 hph hxs hbd hres hownE
          go_wp2_with fail
          go_region_law ((refine step_append_lies _ (by rfl) _ _ _ (by rfl) B 22 i1 _ 1 24 Try.underlying49 HI1.out hy0 hy1 hy2 rfl (by omega) vW k xs (by rfl) (((hown.alloc _).alloc _).drew) ⟨wr.heap.size + 1, 0, none⟩ 1 1 [.slice (some ⟨wr.heap.size, 0, none⟩) n n] (by rfl) (by rfl) (World.news_of_block (cs := #[.slice (some ⟨wr.heap.size, 0, none⟩) n n]) (t := 22) (fr := (0, 0)) (two_w1 wr n)) (by simp [Value.oneCell']) (by omega) (by unfold maxLen; omega) (by omega) (by simp; omega) (wr.heap.size + 2) (by simp) ?_; intro gg cap w1 hown1 hgrow hat hlt1; have c1 := cell_of_heap (j := 0) (two_far hgrow HPH.out hne); have f1 := free_of_heap (j := 0) (two_far hgrow HPH.out hne); simp only [List.getElem?_toArray, List.getElem?_cons_zero] at c1))
          all_goals
            rw [HXS.out] at hown1
            obtain ⟨D2, hb2⟩ := RBld.stepW (n := n) HBD.out hBs (by rw [HNN.out]; rfl) (A2 := (two_w wr n).drew) (((Sep.alloc _ _ _).thenAlloc _).trans (Sep.drew _ _)) (Nat.le_refl _) (two_w0 wr n) hown1 hgrow
            have hres2 := heap_set_other (v := .slice (some ⟨gg, 0, none⟩) (k + 1) cap) (j := 0) (b := B + 1) (k := B) (w := w1) (by omega)
            rw [two_far hgrow HRES.out hneR] at hres2
            obtain ⟨w2, hw2⟩ : ∃ x, x = w1.setCell ⟨B + 1, 0, none⟩ (.slice (some ⟨gg, 0, none⟩) (k + 1) cap) := ⟨_, rfl⟩
            rw [← hw2] at hb2 hres2 ⊢
            have hBs2 : B ≤ w2.heap.size := by have := lt_of_block hres2; omega
            have hm2 := hb2.2.1
            have hownE := hb2.2.2.2.1
            obtain ⟨es, hes⟩ : ∃ es : List Value, es = List.replicate k (Value.int .u64 1) := ⟨_, rfl⟩
            rw [← hes] at hownE
            have HES := Lib.hid hes
            have HM2 := Lib.hid hm2
            have HB2 := Lib.hid hb2
            have HR2 := Lib.hid hres2
            have q1 : w2.cell? ⟨B + 1, 1, none⟩ = some vE := by rw [cell_of_heap hm2]; rfl
            have ql : ∀ o, (w2.alloc o).cell? ⟨B + 1, 1, none⟩ = some vE := fun o => (Sep.alloc (fun _ => False) w2 o).cell q1 (fun x => x)
            have hneM : vE.ownBlock ≠ some (B + 1) := own_kind hownE hm2 (by decide)
            have hneR2 : vE.ownBlock ≠ some B := own_kind hownE hres2 (by decide)
            clear hw2 hown1 hgrow hat hlt1 c1 f1 hb2 hres2 hm2 hes hl1 hl2 hown cp
            go_wp2_with (first | (at_builtin; go_loud (refine wpList_append_lies _ rfl (.tmp 56) (.tmp 57) 22 rfl B 23 i0 (.int .u64 0) 1 8 Try.underlying22 HI0.out hz0 hz1 hz2 rfl (by decide) vE k es rfl (own_same hownE (Sep.alloc _ _ _)) ⟨w2.heap.size, 0, none⟩ 1 1 [.int .u64 1] rfl rfl (World.news_of_block (cs := #[.int .u64 1]) (t := 23) (fr := (0, 0)) (heap_alloc_new _ _)) (by simp [Value.oneCell']) (by omega) (by unfold maxLen; omega) (by omega) (by simp; omega) _ rfl ?_)))
            intro g2 cap2 w3 own3 gr3 hat3 hlt3
            rw [HES.out] at own3
            have hb3 := RBld.stepE HB2.out hBs2 (Sep.alloc _ _ _) own3 gr3 (by simpa using hat3)
            have bm3 : w3.heap[B + 1]? = some (.cells #[.slice (some ⟨gg, 0, none⟩) (k + 1) cap, vE, .int .i64 0] 51) := by
              have h := (Sep.alloc (fun _ => False) w2 (.cells #[.int .u64 1] 23)).obj HM2.out (fun x => x)
              rw [gr3.block (B + 1) (lt_of_block h) hneM.symm]
              exact h
            have br3 : w3.heap[B]? = some (.cells #[.slice none 0 0, .slice none 0 0, .int .i64 0] 51) := by
              have h := (Sep.alloc (fun _ => False) w2 (.cells #[.int .u64 1] 23)).obj HR2.out (fun x => x)
              rw [gr3.block B (lt_of_block h) hneR2.symm]
              exact h
            have c3 : w3.cell? ⟨B + 1, 1, none⟩ = some vE := by rw [cell_of_heap bm3]; rfl
            have f3 := free_of_heap (j := 1) bm3
            have BR3 := Lib.hid br3
            have HB3 := Lib.hid hb3
            clear own3 gr3 hat3 hlt3 hb3 bm3 br3
            go_wp2
            go_roundw
            case rel => exact ⟨k + 1, _, _, D2, by omega, by go_num, HB3.out, by rw [heap_set_other (by omega)]; exact BR3.out⟩
            case measure => simp [intOf]; omega
        · have hk' : k = zs.length := by omega
          have HK := Lib.hid hk'
          obtain ⟨wa, wc, ea, ec, hvW, hvE⟩ : ∃ wa wc ea ec, vW = .slice wa k wc ∧ vE = .slice ea k ec := by
            obtain ⟨wa, wc, h1⟩ := (Slc.owned (F := fun _ => True) (fun _ _ => trivial) hbd.2.2.1).form
            obtain ⟨ea, ec, h2⟩ := (Slc.owned (F := fun _ => True) (fun _ _ => trivial) hbd.2.2.2.1).form
            exact ⟨wa, wc, ea, ec, h1, h2⟩
          subst hvW hvE
          obtain ⟨t0, t1, t2, tf⟩ := cells3x hbd.2.1
          obtain ⟨r0, r1, r2, rf⟩ := cells3x hres
          have HBD := Lib.hid hbd
          have HRS := Lib.hid hres
          clear hk' hbd hres
          go_wp2
          refine bodyPost_ret (v := .tuple #[.agg #[.slice wa k wc, .slice ea k ec, .int .i64 0], .bool true]) (by simp [results, Try.results29, go_sem, r0, r1, r2]) rfl ?_
          have hbd := HBD.out
          rw [HK.out] at hbd ⊢
          have hrm := hbd.rm (F := fun b => F b ∧ b ≠ B) (fun b hb h => ⟨HF.out b (by rw [← HB.out]; exact hb), fun e => by
            subst e
            rcases h with h | h | ⟨i, hi, h⟩
            · exact own_kind hbd.2.2.1 HRS.out (by decide) h
            · exact own_kind hbd.2.2.2.1 HRS.out (by decide) h
            · exact ne_of_kind (hbd.2.2.2.2.1 i hi).2.1 HRS.out (by decide) h⟩) (fun k hk => by have := HZ.out k hk; have := HN.out k (by omega); omega)
          have h3 := sep3 wr B (.slice wa zs.length wc) (.slice ea zs.length ec) (.int .i64 0)
          have hbl := hbel
          rw [HB.out] at hbl
          have hsm := same_then (same_of_below hbl) (by rw [HB.out]; exact Nat.le_refl _) h3
          exact ⟨_, rfl, (hrm.stay h3 (fun b hb _ => hb.2)).imp fun b hb _ => hb.1, hsm⟩

end Go.Proofs.Ytiljledgoflogaa
