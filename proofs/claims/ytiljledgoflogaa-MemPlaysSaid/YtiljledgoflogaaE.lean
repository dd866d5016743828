/- Contract of New of package mem: where the sizes may be, the memory that is made; else ErrArg. -/
import Derived.Test.YtiljledgoflogaaD
import Derived.Deep.RegionLaw
import Derived.Deep.AppendLies
namespace Go.Proofs.Ytiljledgoflogaa
open Go.RowKit

theorem info130 : (Try.prog.info? 130).map (fun i => (i.zero, i.size, i.bytes)) = some (some (.pointer none), 1, 8) := by kernel_rfl
theorem info23 : (Try.prog.info? 23).map (fun i => (i.zero, i.size, i.bytes)) = some (some (.int .u64 0), 1, 8) := by kernel_rfl
theorem mkWords (n : Nat) (h : n ≤ 16777216) (w : World) : (Instr.makeSlice 22 (.int .i64 n) (.int .i64 n)).run Try.prog w = .ok (.slice (some ⟨w.heap.size, 0, none⟩) n n) (w.alloc (.cells (Array.replicate n (Value.int .u64 0)) 23)) := by
  obtain ⟨i0, hi, hz0, hz1, hz2⟩ := info_parts info23
  have := run_makeSlice (P := Try.prog) (w := w) 22 23 i0 (.int .u64 0) Try.underlying22 hi hz0 .i64 .i64 n n (by omega) (by omega) (by rw [hz1]; omega) (by rw [hz2]; omega) (by omega)
  rw [this, hz1]
  have e : madeCells (Value.int .u64 0).cells ((n : Int).toNat * 1) = (Array.replicate n (Value.int .u64 0)) := by
    apply Array.toList_inj.1
    change (madeCells #[.int .u64 0] (n * 1)).toList = _
    rw [Nat.mul_one, toList_madeCells_one]
    simp
  rw [e]
  rfl

/-- What is known of a slice of numbers that came in. -/
def RowI (w : World) (a : Option Addr) (l : List Int) : Prop := l = [] ∨ ∃ b off, a = some ⟨b, off, none⟩ ∧ b < w.heap.size ∧ ∀ i, i < l.length → w.cell? ⟨b, off + i, none⟩ = some (.int .i64 (l.getD i 0))

/-- So much of the memory is made. -/
def Building (B : Nat) (w0 wr : World) (p k : Nat) (zs : List Int) (v : Value) (R D : Nat → Nat) : Prop :=
  B ≤ p ∧ p < wr.heap.size ∧ wr.heap[p]? = some (.cells #[v, .int .i64 0] 129) ∧ wr.ownsRow B 130 1 v k ((List.range k).map fun i => .pointer (some ⟨R i, 0, none⟩)) ∧
    (∀ i, i < k → B ≤ R i ∧ R i < wr.heap.size ∧ B ≤ D i ∧ D i < wr.heap.size ∧ wr.heap[R i]? = some (.cells #[.slice (some ⟨D i, 0, none⟩) (zs.getD i 0).toNat (zs.getD i 0).toNat, .int .u64 1] 132) ∧ wr.heap[D i]? = some (.cells (Array.replicate (zs.getD i 0).toNat (Value.int .u64 0)) 23)) ∧
    (∀ i j, i < k → j < k → (R i = R j ∨ D i = D j) → i = j) ∧ Below B w0 wr

theorem own_kind {w : World} {B T k : Nat} {v : Value} {xs : List Value} (h : w.ownsRow B T 1 v k xs) {b : Nat} {c : Array Value} {U : TypeId} {f : Nat × Nat} (hb : w.heap[b]? = some (.cells c U f)) (hne : T ≠ U) : v.ownBlock ≠ some b := by
  rcases h.2 with ⟨rfl, _⟩ | ⟨g, cap, cur, rfl, _, hg, _⟩
  · simp [Value.ownBlock]
  · simp only [Value.ownBlock, ne_eq, Option.some.injEq]
    rintro rfl
    exact ne_of_kind hg hb hne rfl

/-- The three blocks of a round. -/
abbrev three (w : World) (n : Nat) : World := ((w.alloc (.cells (Array.replicate n (Value.int .u64 0)) 23)).alloc (.cells #[.slice (some ⟨w.heap.size, 0, none⟩) n n, .int .u64 1] 132)).alloc (.cells #[.pointer (some ⟨w.heap.size + 1, 0, none⟩)] 130)
theorem three_size (w : World) (n : Nat) : (three w n).heap.size = w.heap.size + 3 := by simp
theorem three_old (w : World) (n : Nat) {b : Nat} (h : b < w.heap.size) : (three w n).heap[b]? = w.heap[b]? := by
  rw [Below.heap_alloc _ _ _ (by simp; omega), Below.heap_alloc _ _ _ (by simp; omega), Below.heap_alloc _ _ _ h]
theorem three_0 (w : World) (n : Nat) : (three w n).heap[w.heap.size]? = some (.cells (Array.replicate n (Value.int .u64 0)) 23) := by
  rw [Below.heap_alloc _ _ _ (by simp; omega), Below.heap_alloc _ _ _ (by simp)]; exact heap_alloc_new _ _
theorem three_1 (w : World) (n : Nat) : (three w n).heap[w.heap.size + 1]? = some (.cells #[.slice (some ⟨w.heap.size, 0, none⟩) n n, .int .u64 1] 132) := by
  rw [Below.heap_alloc _ _ _ (by simp)]
  simpa using heap_alloc_new (w.alloc (.cells (Array.replicate n (Value.int .u64 0)) 23)) (.cells #[.slice (some ⟨w.heap.size, 0, none⟩) n n, .int .u64 1] 132)
theorem three_2 (w : World) (n : Nat) : (three w n).heap[w.heap.size + 2]? = some (.cells #[.pointer (some ⟨w.heap.size + 1, 0, none⟩)] 130) := by
  have e : ((w.alloc (.cells (Array.replicate n (Value.int .u64 0)) 23)).alloc (.cells #[.slice (some ⟨w.heap.size, 0, none⟩) n n, .int .u64 1] 132)).heap.size = w.heap.size + 2 := by simp
  rw [← e]
  exact heap_alloc_new _ _

theorem three_far {wr w1 : World} {n B : Nat} {v : Value} {c : Array Value} {U : TypeId} (grow : (three wr n).drew.grownBy w1 v.ownBlock) (hb : wr.heap[B]? = some (.cells c U)) (hne : v.ownBlock ≠ some B) : w1.heap[B]? = some (.cells c U) := by
  have hlt := lt_of_block hb
  rw [grow.block B (by show B < (three wr n).heap.size; rw [three_size]; omega) hne.symm]
  exact (three_old wr n hlt).trans hb
theorem undrew {w w1 : World} {row : Option Nat} (g : w.drew.grownBy w1 row) : w.grownBy w1 row := ⟨g.os, g.tape, g.output, g.size, g.block⟩

/-- A round more. -/
theorem Building.step {B : Nat} {w0 wr w1 : World} {p k n : Nat} {zs : List Int} {v : Value} {g cap : Nat} {R D : Nat → Nat} (h : Building B w0 wr p k zs v R D) (hn : (zs.getD k 0).toNat = n) (hB : B ≤ wr.heap.size)
    (own : w1.ownsRow B 130 1 (.slice (some ⟨g, 0, none⟩) (k + 1) cap) (k + 1) ((List.range k).map (fun i => Value.pointer (some ⟨R i, 0, none⟩)) ++ [.pointer (some ⟨wr.heap.size + 1, 0, none⟩)]))
    (grow : (three wr n).grownBy w1 v.ownBlock) :
    ∃ R' D', Building B w0 (w1.setCell ⟨p, 0, none⟩ (.slice (some ⟨g, 0, none⟩) (k + 1) cap)) p (k + 1) zs (.slice (some ⟨g, 0, none⟩) (k + 1) cap) R' D' := by
  obtain ⟨hp, hps, hph, hown, hall, hinj, hbel⟩ := h
  have hs1 : wr.heap.size + 3 ≤ w1.heap.size := by have := grow.size; rw [three_size] at this; exact this
  have old : ∀ {b : Nat} {c : Array Value} {U : TypeId}, wr.heap[b]? = some (.cells c U) → 130 ≠ U → w1.heap[b]? = some (.cells c U) := fun {b c U} hb hne => by
    have hlt := lt_of_block hb
    rw [grow.block b (by rw [three_size]; omega) (own_kind hown hb hne).symm, three_old _ _ hlt]
    exact hb
  have new : ∀ {b : Nat} {c : Array Value} {U : TypeId}, (three wr n).heap[b]? = some (.cells c U) → wr.heap.size ≤ b → w1.heap[b]? = some (.cells c U) := fun {b c U} hb hge => by
    have hlt := lt_of_block hb
    rw [grow.block b hlt (fun e => by have := (hown.lt b e.symm).2; omega)]
    exact hb
  have hp1 := old hph (by decide)
  have n0 := new (three_0 wr n) (Nat.le_refl _)
  have n1 := new (three_1 wr n) (by omega)
  have hRD : ∀ i, i < k → R i ≠ wr.heap.size + 1 ∧ D i ≠ wr.heap.size := fun i hi => by have := hall i hi; omega
  refine ⟨fun i => if i = k then wr.heap.size + 1 else R i, fun i => if i = k then wr.heap.size else D i, hp, by simp [World.setCell]; omega, ?_, ?_, fun i hi => ?_, fun i j hi hj he => ?_, ?_⟩
  · rw [heap_set_same hp1]; rfl
  · have e : (List.range (k + 1)).map (fun i => Value.pointer (some ⟨if i = k then wr.heap.size + 1 else R i, 0, none⟩)) = (List.range k).map (fun i => Value.pointer (some ⟨R i, 0, none⟩)) ++ [.pointer (some ⟨wr.heap.size + 1, 0, none⟩)] := by
      rw [List.range_succ, List.map_append]
      congr 1
      · apply List.map_congr_left
        intro i hi
        rw [List.mem_range] at hi
        rw [if_neg (by omega)]
      · simp
    rw [e]
    exact ownsRow_setCell_other own (own_kind own hp1 (by decide)) _
  · by_cases hik : i = k
    · subst hik
      simp only [if_pos]
      refine ⟨by omega, by simp [World.setCell]; omega, by omega, by simp [World.setCell]; omega, ?_, ?_⟩
      · rw [heap_set_other (by omega), hn]; exact n1
      · rw [heap_set_other (by omega), hn]; exact n0
    · simp only [if_neg hik]
      obtain ⟨r1, r2, d1, d2, hr, hd⟩ := hall i (by omega)
      refine ⟨r1, by simp [World.setCell]; omega, d1, by simp [World.setCell]; omega, ?_, ?_⟩
      · rw [heap_set_other (ne_of_kind hr hph (by decide))]; exact old hr (by decide)
      · rw [heap_set_other (ne_of_kind hd hph (by decide))]; exact old hd (by decide)
  · by_cases hik : i = k <;> by_cases hjk : j = k
    · omega
    · subst hik
      simp only [if_pos, if_neg hjk] at he
      have := hRD j (by omega)
      omega
    · subst hjk
      simp only [if_pos, if_neg hik] at he
      have := hRD i (by omega)
      omega
    · simp only [if_neg hik, if_neg hjk] at he
      exact hinj i j (by omega) (by omega) he
  · refine (Below.trans hbel ?_).setCell hp _
    exact ((((Below.refl _ _).alloc hB _).alloc (by simp; omega) _).alloc (by simp; omega) _).grown grow (by rw [three_size]; omega) (fun b hb => (hown.lt b hb).1)

/-- What is made. -/
theorem Building.mem {B : Nat} {w0 wr : World} {p : Nat} {zs : List Int} {v : Value} {R D : Nat → Nat} (h : Building B w0 wr p zs.length zs v R D) : Mem B wr.heap.size wr p (zs.map fun z => ⟨List.replicate z.toNat 0, 1⟩) 0 := by
  obtain ⟨hp, hps, hph, hown, hall, hinj, hbel⟩ := h
  have hget : ∀ i, i < zs.length → ((zs.map fun z => (⟨List.replicate z.toNat 0, 1⟩ : Reg)).getD i default) = ⟨List.replicate (zs.getD i 0).toNat 0, 1⟩ := fun i hi => by simp [hi]
  have rest : (∀ i, i < (zs.map fun z => (⟨List.replicate z.toNat 0, 1⟩ : Reg)).length → B ≤ R i ∧ R i < wr.heap.size ∧ B ≤ D i ∧ D i < wr.heap.size ∧
      wr.heap[R i]? = some (.cells #[.slice (some ⟨D i, 0, none⟩) ((zs.map fun z => (⟨List.replicate z.toNat 0, 1⟩ : Reg)).getD i default).ws.length ((zs.map fun z => (⟨List.replicate z.toNat 0, 1⟩ : Reg)).getD i default).ws.length, .int .u64 ((zs.map fun z => (⟨List.replicate z.toNat 0, 1⟩ : Reg)).getD i default).ep] 132) ∧
      wr.heap[D i]? = some (.cells (((zs.map fun z => (⟨List.replicate z.toNat 0, 1⟩ : Reg)).getD i default).ws.map (Value.int .u64)).toArray 23)) := fun i hi => by
    rw [List.length_map] at hi
    rw [hget i hi]
    obtain ⟨r1, r2, d1, d2, hr, hd⟩ := hall i hi
    exact ⟨r1, r2, d1, d2, by simpa using hr, by simpa using hd⟩
  rcases hown.2 with ⟨rfl, h0⟩ | ⟨g, cap, cur, rfl, hg, hgh, hn, hm, hc, ht⟩
  · refine ⟨0, 0, none, R, D, hp, hps, Nat.le_refl _, by rw [hph, List.length_map, h0]; rfl, fun h => ?_, rest, ?_⟩
    · rw [List.length_map] at h; omega
    · rw [List.length_map]; exact hinj
  · refine ⟨g, cap, some ⟨g, 0, none⟩, R, D, hp, hps, Nat.le_refl _, by rw [hph, List.length_map]; rfl, fun h => ⟨rfl, hg, lt_of_block hgh, cur, hgh, fun i hi => ?_⟩, rest, ?_⟩
    · rw [List.length_map] at hi
      have e : cur[i]? = (cur.toList.take (zs.length * 1))[i]? := by
        rw [List.getElem?_take, if_pos (by omega)]
        simp
      rw [e, ht]
      simp [hi]
    · rw [List.length_map]; exact hinj

/-- The sum of the first sizes. -/
def sumTo (zs : List Int) (k : Nat) : Int := (zs.take k).foldl (· + ·) 0
theorem sumTo_zero (zs : List Int) : sumTo zs 0 = 0 := by simp [sumTo]
theorem sumTo_succ (zs : List Int) (k : Nat) (h : k < zs.length) : sumTo zs (k + 1) = sumTo zs k + zs.getD k 0 := by
  unfold sumTo
  rw [List.take_succ_eq_append_getElem h, List.foldl_append]
  simp [h]
/-- May such a memory be made? -/
def sizesOk (zs : List Int) : Prop := zs.length ≤ 65 ∧ ∀ k, k < zs.length → 0 ≤ zs.getD k 0 ∧ zs.getD k 0 ≤ 16777216 - sumTo zs k

def Made (w : World) (zs : List Int) (e : Ending) (w' : World) : Prop := ∃ p, e = .returned (.tuple #[.pointer (some ⟨p, 0, none⟩), .int .i64 0]) ∧ Mem w.heap.size w'.heap.size w' p (zs.map fun z => ⟨List.replicate z.toNat 0, 1⟩) 0 ∧ Same w w'

set_option maxRecDepth 100000 in
theorem new_ok (a : Option Addr) (cap : Nat) (zs : List Int) (w : World) (hr : RowI w a zs) (hok : sizesOk zs) : Calls Try.prog 21 #[.slice a zs.length cap] w (Made w zs) := by
  obtain ⟨h65, hz⟩ := hok
  have HZ := Lib.hid hz
  clear hz
  have hnn : ∀ k, k ≤ zs.length → 0 ≤ sumTo zs k ∧ sumTo zs k ≤ 16777216 := by
    intro k
    induction k with
    | zero => intro _; rw [sumTo_zero]; omega
    | succ k ih =>
      intro hk
      have h1 := ih (by omega)
      have h2 := HZ.out k (by omega)
      rw [sumTo_succ zs k (by omega)]
      omega
  have HN := Lib.hid hnn
  clear hnn
  go_enter Try.func21, Try.ntmps21
  go_wp2
  go_loop [4, 6, 15] (fun s _ t => ∃ k : Nat, k ≤ zs.length ∧ t = .int .i64 k ∧ s = .int .i64 (16777216 - sumTo zs k)) (fun _ _ t => zs.length - (intOf t).toNat)
  case atStart => exact ⟨0, by omega, rfl, by rw [sumTo_zero]; rfl⟩
  case round =>
    obtain ⟨k, hk, rfl, rfl⟩ := hrel
    by_cases hlt : k < zs.length
    · obtain ⟨b, off, rfl, hbl, hcell⟩ := hr.resolve_left (fun e => by have h0 : zs.length = 0 := (by rw [e]; rfl); omega)
      have hx := hcell k hlt
      obtain ⟨h1, h2⟩ := HZ.out k hlt
      obtain ⟨h3, h4⟩ := HN.out k (by omega)
      have h5 := sumTo_succ zs k hlt
      obtain ⟨x, hxe⟩ : ∃ x, x = zs.getD k 0 := ⟨_, rfl⟩
      obtain ⟨y, hye⟩ : ∃ y, y = sumTo zs k := ⟨_, rfl⟩
      rw [← hxe] at hx h1 h2 h5
      rw [← hye] at h2 h3 h4 h5 ⊢
      have H5 := Lib.hid h5
      clear hxe hye hcell h5
      go_wp2
      go_round
      case rel => exact ⟨k + 1, by omega, by go_num, by rw [H5.out]; go_num⟩
      case measure => simp [intOf]; omega
    · go_wp2_with fail
      obtain ⟨i0, hi0, hz0, hz1, hz2⟩ := info_parts info130
      obtain ⟨B, hBe⟩ : ∃ B, B = w.heap.size := ⟨_, rfl⟩
      rw [← hBe]
      have HB := Lib.hid hBe
      clear hBe
      go_loopw [9, 34] (fun _ t wr => ∃ (k : Nat) (v : Value) (R D : Nat → Nat), k ≤ zs.length ∧ t = .int .i64 k ∧ Building B w wr B k zs v R D) (fun _ t _ => zs.length - (intOf t).toNat)
      case atStart =>
        rw [HB.out]
        exact ⟨0, .slice none 0 0, fun _ => 0, fun _ => 0, by omega, rfl, Nat.le_refl _, by simp, heap_alloc_new _ _, World.ownsRow_nil _ _ _ _, fun i hi => by omega, fun i j hi => by omega, (Below.refl _ _).alloc (Nat.le_refl _) _⟩
      case round =>
        obtain ⟨k, v, R, D, hk, rfl, hbd⟩ := hrel
        have hbel := hbd.2.2.2.2.2.2
        by_cases hlt : k < zs.length
        · obtain ⟨b, off, rfl, hbl, hcell⟩ := hr.resolve_left (fun e => by have h0 : zs.length = 0 := (by rw [e]; rfl); omega)
          have hx : wr.cell? ⟨b, off + k, none⟩ = some (.int .i64 (zs.getD k 0)) := (hbel.cell (by rw [HB.out]; exact hbl)).trans (hcell k hlt)
          obtain ⟨h1, h2⟩ := HZ.out k hlt
          obtain ⟨h3, h4⟩ := HN.out k (by omega)
          obtain ⟨n, hn⟩ : ∃ n : Nat, zs.getD k 0 = n := ⟨(zs.getD k 0).toNat, by omega⟩
          rw [hn] at hx h1 h2
          have hn16 : n ≤ 16777216 := by omega
          have HNN := Lib.hid hn
          have hmk := mkWords n hn16
          have hsz : B < wr.heap.size := hbd.2.1
          have hph := hbd.2.2.1
          have hown := hbd.2.2.2.1
          have cp : wr.cell? ⟨B, 0, none⟩ = some v := by rw [cell_of_heap hph]; rfl
          have fp := free_of_heap (j := 0) hph
          have hne : v.ownBlock ≠ some B := own_kind hown hph (by decide)
          have hl1 : ∀ o, (wr.alloc o).cell? ⟨B, 0, none⟩ = some v := fun o => (Sep.alloc (fun _ => False) wr o).cell cp (fun x => x)
          have hl2 : ∀ o o', ((wr.alloc o).alloc o').cell? ⟨B, 0, none⟩ = some v := fun o o' => (Sep.alloc (fun _ => False) _ o').cell (hl1 o) (fun x => x)
          have hl3 : ∀ o o' o'', (((wr.alloc o).alloc o').alloc o'').cell? ⟨B, 0, none⟩ = some v := fun o o' o'' => (Sep.alloc (fun _ => False) _ o'').cell (hl2 o o') (fun x => x)
          have HPH := Lib.hid hph
          obtain ⟨xs, hxs⟩ : ∃ xs, xs = (List.range k).map fun i => Value.pointer (some ⟨R i, 0, none⟩) := ⟨_, rfl⟩
          rw [← hxs] at hown
          have HXS := Lib.hid hxs
          clear hcell hn h2 h3 h4 hph hxs
          go_wp2_with fail
          go_region_law ((refine step_append_lies _ (by rfl) _ _ _ (by rfl) B 130 i0 _ 1 8 Try.underlying127 hi0 hz0 hz1 hz2 rfl (by omega) v k xs (by rfl) ((((hown.alloc _).alloc _).alloc _).drew) ⟨wr.heap.size + 2, 0, none⟩ 1 1 [.pointer (some ⟨wr.heap.size + 1, 0, none⟩)] (by rfl) (by rfl) (World.news_of_block (cs := #[.pointer (some ⟨wr.heap.size + 1, 0, none⟩)]) (t := 130) (fr := (0, 0)) (three_2 wr n)) (by simp [Value.oneCell']) (by omega) (by unfold maxLen; omega) (by omega) (by simp; omega) (wr.heap.size + 3) (by simp) ?_; intro gg cap w1 hown1 hgrow hat hlt1; have c1 := cell_of_heap (j := 0) (three_far hgrow HPH.out hne); have f1 := free_of_heap (j := 0) (three_far hgrow HPH.out hne); simp only [List.getElem?_toArray, List.getElem?_cons_zero] at c1))
          all_goals
            go_wp2
            go_roundw
            case rel =>
              rw [HXS.out] at hown1
              obtain ⟨R', D', hb'⟩ := Building.step (n := n) hbd (by rw [HNN.out]; rfl) (Nat.le_of_lt hsz) hown1 (undrew hgrow)
              exact ⟨k + 1, _, R', D', by omega, by go_num, hb'⟩
            case measure => simp [intOf]; omega
        · have hk' : k = zs.length := by omega
          have HK := Lib.hid hk'
          clear hk'
          go_wp2
          go_ret2
          rw [HK.out] at hbd
          have hm := hbd.mem
          rw [HB.out] at hm hbel ⊢
          exact ⟨_, rfl, hm, same_of_below hbel⟩

/-- Sizes of which no memory is made. -/
def sizesBad (zs : List Int) : Prop := 65 < zs.length ∨ (zs.length ≤ 65 ∧ ∃ k, k < zs.length ∧ (zs.getD k 0 < 0 ∨ 16777216 - sumTo zs k < zs.getD k 0) ∧ ∀ j, j < k → 0 ≤ zs.getD j 0 ∧ zs.getD j 0 ≤ 16777216 - sumTo zs j)

set_option maxRecDepth 100000 in
theorem new_no (a : Option Addr) (cap : Nat) (zs : List Int) (w : World) (hr : RowI w a zs) (hbad : sizesBad zs) : Calls Try.prog 21 #[.slice a zs.length cap] w fun e w' => e = .returned (.tuple #[.pointer none, .int .i64 1]) ∧ w = w' := by
  rcases hbad with h65 | ⟨h65, b, hb, hbz, hz⟩
  · go_enter Try.func21, Try.ntmps21
    go_wp2
    go_ret2
    exact ⟨rfl, rfl⟩
  · have HZ := Lib.hid hz
    clear hz
    have hnn : ∀ k, k ≤ b → 0 ≤ sumTo zs k ∧ sumTo zs k ≤ 16777216 := by
      intro k
      induction k with
      | zero => intro _; rw [sumTo_zero]; omega
      | succ k ih =>
        intro hk
        have h1 := ih (by omega)
        have h2 := HZ.out k (by omega)
        rw [sumTo_succ zs k (by omega)]
        omega
    have HN := Lib.hid hnn
    have HBZ := Lib.hid hbz
    clear hnn hbz
    go_enter Try.func21, Try.ntmps21
    go_wp2
    go_loop [4, 6, 15] (fun s _ t => ∃ k : Nat, k ≤ b ∧ t = .int .i64 k ∧ s = .int .i64 (16777216 - sumTo zs k)) (fun _ _ t => zs.length - (intOf t).toNat)
    case atStart => exact ⟨0, by omega, rfl, by rw [sumTo_zero]; rfl⟩
    case round =>
      obtain ⟨k, hk, rfl, rfl⟩ := hrel
      obtain ⟨bb, off, rfl, hbl, hcell⟩ := hr.resolve_left (fun e => by have h0 : zs.length = 0 := (by rw [e]; rfl); omega)
      have hlt : k < zs.length := by omega
      have hx := hcell k hlt
      obtain ⟨h3, h4⟩ := HN.out k (by omega)
      have h5 := sumTo_succ zs k hlt
      by_cases hlb : k < b
      · obtain ⟨h1, h2⟩ := HZ.out k hlb
        obtain ⟨x, hxe⟩ : ∃ x, x = zs.getD k 0 := ⟨_, rfl⟩
        obtain ⟨y, hye⟩ : ∃ y, y = sumTo zs k := ⟨_, rfl⟩
        rw [← hxe] at hx h1 h2 h5
        rw [← hye] at h2 h3 h4 h5 ⊢
        have H5 := Lib.hid h5
        clear hxe hye hcell h5
        go_wp2
        go_round
        case rel => exact ⟨k + 1, by omega, by go_num, by rw [H5.out]; go_num⟩
        case measure => simp [intOf]; omega
      · have hkb : k = b := by omega
        have hbz := HBZ.out
        rw [← hkb] at hbz
        obtain ⟨x, hxe⟩ : ∃ x, x = zs.getD k 0 := ⟨_, rfl⟩
        obtain ⟨y, hye⟩ : ∃ y, y = sumTo zs k := ⟨_, rfl⟩
        rw [← hxe] at hx hbz h5
        rw [← hye] at hbz h3 h4 h5 ⊢
        clear hxe hye hcell h5 hkb
        by_cases hneg : x < 0
        · clear hbz
          go_wp2
          go_ret2
          exact ⟨rfl, rfl⟩
        · have hbig : 16777216 - y < x := by omega
          clear hbz
          go_wp2
          go_ret2
          exact ⟨rfl, rfl⟩
end Go.Proofs.Ytiljledgoflogaa
