/- MemPlays: few; the reference's New where it refuses; calls that came in. -/
import Derived.Test.YtiljledgoflogaaPa
import Derived.Deep.Strs
namespace Go.Proofs.Ytiljledgoflogaa
open Go.RowKit Go.Deep Go.ChangeShapes
set_option linter.unusedSimpArgs false
set_option linter.unusedVariables false

theorem RowI.same {w w' : World} {a : Option Addr} {l : List Int} (h : RowI w a l) (hs : Same w w') : RowI w' a l := by
  rcases h with h | ⟨b, off, rfl, hb, h1⟩
  · exact .inl h
  · exact .inr ⟨b, off, rfl, Nat.lt_of_lt_of_le hb hs.size, fun i hi => Same.cell hs (h1 i hi)⟩

/-- What few answers. -/
def Few2R (zs : List Int) (w : World) (e : Ending) (w' : World) : Prop := ∃ r : Bool, e = .returned (.bool r) ∧ w = w' ∧ (r = true → zs.length ≤ 66 ∧ ∀ k, k < zs.length → zs.getD k 0 ≤ 200)
/-- few's loop. -/
def Few2L (zs : List Int) (n : Nat) (w : World) (s t : Value) (wr : World) : Prop := w = wr ∧ ∃ k m : Nat, k ≤ n ∧ k ≤ 66 ∧ t = .int .i64 k ∧ s = .int .i64 m ∧ m ≤ 200 * k ∧ ∀ j, j < k → zs.getD j 0 ≤ 200

set_option maxRecDepth 100000 in
theorem few2_any (a : Option Addr) (n cap : Nat) (zs : List Int) (w : World) (hn : n = zs.length) (hr : RowI w a zs) : Calls Try.prog 28 #[.slice a n cap] w (Few2R zs w) := by
  have HR := Lib.hid hr
  have HN := Lib.hid hn
  clear hr hn
  go_enter Try.func28, Try.ntmps28
  go_wp2
  go_loopw [3, 4] (fun s t wr => Few2L zs n w s t wr) (fun _ t _ => n - (intOf t).toNat)
  case atStart => exact ⟨rfl, 0, 0, by omega, by omega, rfl, rfl, by omega, fun j hj => by omega⟩
  case round =>
    obtain ⟨rfl, k, m, hk, hk2, rfl, rfl, hm, hten⟩ := hrel
    have HTEN := Lib.hid hten
    clear hten
    by_cases hlt : k < n
    · by_cases h66 : k < 66
      · have hkl : k < zs.length := by rw [← HN.out]; exact hlt
        rcases HR.out with rfl | ⟨b, off, rfl, hb, h1⟩
        · simp at hkl
        have hc := h1 k hkl
        obtain ⟨x, hx⟩ : ∃ x, x = zs.getD k 0 := ⟨_, rfl⟩
        rw [← hx] at hc
        have HX := Lib.hid hx
        clear h1 hx hkl
        by_cases h200 : x ≤ 200
        · by_cases hneg : x < 0
          · go_wp2
            go_roundw
            case rel => exact ⟨rfl, k + 1, m, by omega, by omega, by go_num, by go_num, by omega, fun j hj => by
              rcases Nat.lt_succ_iff_lt_or_eq.mp hj with h | rfl
              · exact HTEN.out j h
              · rw [← HX.out]; exact h200⟩
            case measure => simp [intOf]; omega
          · obtain ⟨y, rfl⟩ : ∃ y : Nat, x = y := ⟨x.toNat, by omega⟩
            go_wp2
            go_roundw
            case rel => exact ⟨rfl, k + 1, m + y, by omega, by omega, by go_num, by go_num, by omega, fun j hj => by
              rcases Nat.lt_succ_iff_lt_or_eq.mp hj with h | rfl
              · exact HTEN.out j h
              · rw [← HX.out]; exact h200⟩
            case measure => simp [intOf]; omega
        · go_wp2
          go_ret
          exact ⟨false, rfl, rfl, fun h => by cases h⟩
      · have h66' : ¬ (n : Int) ≤ 66 := by omega
        go_wp2
        go_ret
        exact ⟨false, rfl, rfl, fun h => by cases h⟩
    · obtain rfl : k = n := by omega
      have h66' : (k : Int) ≤ 66 := by omega
      by_cases h600 : (m : Int) ≤ 600
      · go_wp2
        go_ret
        exact ⟨true, by first | rfl | (simp; omega), rfl, fun _ => ⟨by rw [← HN.out]; exact hk2, fun j hj => HTEN.out j (by rw [HN.out]; exact hj)⟩⟩
      · go_wp2
        go_ret
        exact ⟨false, by first | rfl | (simp; omega), rfl, fun h => by cases h⟩

/-- Sizes that New refuses: the first one that it does not take. -/
def RBad (zs : List Int) : Prop := ∃ b, b < zs.length ∧ b ≤ 65 ∧ (b = 65 ∨ zs.getD b 0 < 0 ∨ 16777216 - sumTo zs b < zs.getD b 0) ∧ ∀ j, j < b → 0 ≤ zs.getD j 0 ∧ zs.getD j 0 ≤ 16777216 - sumTo zs j

set_option maxRecDepth 100000 in
set_option maxHeartbeats 2000000 in
theorem rnew_no (a : Option Addr) (cap : Nat) (zs : List Int) (w : World) (hr : RowI w a zs) (hbad : RBad zs) : Calls Try.prog 29 #[.slice a zs.length cap] w fun e w' => e = .returned (.tuple #[.agg #[.slice none 0 0, .slice none 0 0, .int .i64 0], .bool false]) ∧ Same w w' := by
  obtain ⟨b, hb, h65, hbz, hz⟩ := hbad
  have HZ := Lib.hid hz
  clear hz
  have hnn : ∀ k, k ≤ b → 0 ≤ sumTo zs k ∧ sumTo zs k ≤ 16777216 := by
    intro k
    induction k with
    | zero => intro _; rw [sumTo_zero]; omega
    | succ k ih =>
      intro hk
      have h1 := ih (by omega)
      have h2 := HZ.out k (by omega)
      rw [sumTo_succ zs k (by omega)]
      omega
  have HN := Lib.hid hnn
  have HBZ := Lib.hid hbz
  clear hnn hbz
  go_enter Try.func29, Try.ntmps29
  go_wp2
  go_loop [5, 6] (fun s t => ∃ k : Nat, k ≤ b ∧ t = .int .i64 k ∧ s = .int .i64 (sumTo zs k)) (fun _ t => zs.length - (intOf t).toNat)
  case atStart => exact ⟨0, by omega, rfl, by rw [sumTo_zero]⟩
  case round =>
    obtain ⟨k, hk, rfl, rfl⟩ := hrel
    obtain ⟨bb, off, rfl, hbl, hcell⟩ := hr.resolve_left (fun e => by have h0 : zs.length = 0 := (by rw [e]; rfl); omega)
    have hlt : k < zs.length := by omega
    have hx := hcell k hlt
    have hx2 := fun o o2 => ((Sep.alloc (fun _ => False) w o).thenAlloc o2).cell hx (fun x => x)
    obtain ⟨h3, h4⟩ := HN.out k (by omega)
    have h5 := sumTo_succ zs k hlt
    by_cases hlb : k < b
    · obtain ⟨h1, h2⟩ := HZ.out k hlb
      have h6 : ¬ (k : Int) ≥ 65 := by omega
      obtain ⟨x, hxe⟩ : ∃ x, x = zs.getD k 0 := ⟨_, rfl⟩
      obtain ⟨y, hye⟩ : ∃ y, y = sumTo zs k := ⟨_, rfl⟩
      rw [← hxe] at hx hx2 h1 h2 h5
      rw [← hye] at h2 h3 h4 h5 ⊢
      have H5 := Lib.hid h5
      clear hxe hye hcell h5 hx
      go_wp2
      go_round
      case rel => exact ⟨k + 1, by omega, by go_num, by rw [H5.out]⟩
      case measure => simp [intOf]; omega
    · have hkb : k = b := by omega
      have hbz := HBZ.out
      rw [← hkb] at hbz
      obtain ⟨x, hxe⟩ : ∃ x, x = zs.getD k 0 := ⟨_, rfl⟩
      obtain ⟨y, hye⟩ : ∃ y, y = sumTo zs k := ⟨_, rfl⟩
      rw [← hxe] at hx hx2 hbz h5
      rw [← hye] at hbz h3 h4 h5 ⊢
      clear hxe hye hcell h5 hkb hx
      rcases (show (k : Int) ≥ 65 ∨ (¬ (k : Int) ≥ 65 ∧ (x < 0 ∨ (¬ x < 0 ∧ 16777216 - y < x))) by omega) with h | ⟨h, h7 | ⟨h7, h8⟩⟩
      · clear hbz
        go_wp2
        exact bodyPost_ret (v := .tuple #[.agg #[.slice none 0 0, .slice none 0 0, .int .i64 0], .bool false]) (by simp [results, Try.results29, go_sem]) rfl ⟨rfl, (Sep.alloc _ _ _).thenAlloc _⟩
      · clear hbz
        go_wp2
        exact bodyPost_ret (v := .tuple #[.agg #[.slice none 0 0, .slice none 0 0, .int .i64 0], .bool false]) (by simp [results, Try.results29, go_sem]) rfl ⟨rfl, (Sep.alloc _ _ _).thenAlloc _⟩
      · clear hbz
        go_wp2
        exact bodyPost_ret (v := .tuple #[.agg #[.slice none 0 0, .slice none 0 0, .int .i64 0], .bool false]) (by simp [results, Try.results29, go_sem]) rfl ⟨rfl, (Sep.alloc _ _ _).thenAlloc _⟩

/-- Small sizes: New takes them, or the first that it does not take is told. -/
theorem small_sizes {zs : List Int} (h66 : zs.length ≤ 66) (h : ∀ k, k < zs.length → zs.getD k 0 ≤ 200) : (sizesOk zs ∧ zs.length ≤ 65 ∧ ∀ k, k < zs.length → 0 ≤ zs.getD k 0) ∨ (sizesBad zs ∧ RBad zs) := by
  have hsum : ∀ k, k ≤ zs.length → sumTo zs k ≤ 200 * k := by
    intro k
    induction k with
    | zero => intro _; rw [sumTo_zero]; omega
    | succ k ih =>
      intro hk
      have h1 := ih (by omega)
      have h2 := h k (by omega)
      rw [sumTo_succ zs k (by omega)]
      omega
  have first : ∀ n, n ≤ zs.length → (∀ k, k < n → 0 ≤ zs.getD k 0) ∨ ∃ b, b < n ∧ zs.getD b 0 < 0 ∧ ∀ j, j < b → 0 ≤ zs.getD j 0 := by
    intro n
    induction n with
    | zero => intro _; exact .inl fun k hk => by omega
    | succ n ih =>
      intro hn
      rcases ih (by omega) with h1 | ⟨b, hb, h2, h3⟩
      · by_cases h0 : 0 ≤ zs.getD n 0
        · refine .inl fun k hk => ?_
          rcases Nat.lt_succ_iff_lt_or_eq.mp hk with h | rfl
          · exact h1 k h
          · exact h0
        · exact .inr ⟨n, by omega, by omega, h1⟩
      · exact .inr ⟨b, by omega, h2, h3⟩
  have take : ∀ j, j < zs.length → 0 ≤ zs.getD j 0 → 0 ≤ zs.getD j 0 ∧ zs.getD j 0 ≤ 16777216 - sumTo zs j := by
    intro j hj h0
    have := h j hj
    have := hsum j (by omega)
    omega
  by_cases h65 : zs.length ≤ 65
  · rcases first zs.length (Nat.le_refl _) with h1 | ⟨b, hb, h2, h3⟩
    · exact .inl ⟨⟨h65, fun k hk => take k hk (h1 k hk)⟩, h65, h1⟩
    · have h4 : ∀ j, j < b → 0 ≤ zs.getD j 0 ∧ zs.getD j 0 ≤ 16777216 - sumTo zs j := fun j hj => take j (by omega) (h3 j hj)
      exact .inr ⟨.inr ⟨h65, b, hb, .inl h2, h4⟩, b, hb, by omega, .inr (.inl h2), h4⟩
  · refine .inr ⟨.inl (by omega), ?_⟩
    rcases first 65 (by omega) with h1 | ⟨b, hb, h2, h3⟩
    · exact ⟨65, by omega, by omega, .inl rfl, fun j hj => take j (by omega) (h1 j hj)⟩
    · exact ⟨b, by omega, by omega, .inr (.inl h2), fun j hj => take j (by omega) (h3 j hj)⟩

/-- A call of a memory. -/
structure MCall where
  kind : Int
  ci : Int
  ce : Int
  A : Acc
instance : Inhabited MCall := ⟨⟨0, 0, 0, default⟩⟩
theorem cells55 : Try.prog.cellsOf 55 = 7 := by kernel_rfl
theorem cells33 : Try.prog.cellsOf 33 = 2 := by kernel_rfl

/-- Calls that came in, in a row. -/
def ArgC (w : World) (a : Option Addr) (ls : List MCall) : Prop :=
  ls = [] ∨ ∃ b off, a = some ⟨b, off, none⟩ ∧ b < w.heap.size ∧ ∀ i, i < ls.length → w.cell? ⟨b, off + i * 7, none⟩ = some (.int .i64 (ls.getD i default).kind) ∧ w.cell? ⟨b, off + i * 7 + 1, none⟩ = some (.int .i64 (ls.getD i default).ci) ∧ w.cell? ⟨b, off + i * 7 + 2, none⟩ = some (.int .u64 (ls.getD i default).ce) ∧
    w.cell? ⟨b, off + i * 7 + 3, none⟩ = some (.int .i64 (ls.getD i default).A.op) ∧ w.cell? ⟨b, off + i * 7 + 4, none⟩ = some (.int .i64 (ls.getD i default).A.at_) ∧ w.cell? ⟨b, off + i * 7 + 5, none⟩ = some (.int .u64 (ls.getD i default).A.x) ∧ w.cell? ⟨b, off + i * 7 + 6, none⟩ = some (.int .u64 (ls.getD i default).A.y)

section
variable {H : Type} {enc : TypeId × Value → H} {w : World} {fuel : Nat} {a : Option Addr} {len cap : Nat} {x : DataW H × List MemPlace}
set_option maxRecDepth 100000 in
theorem open_rowC (hf : DataW.trod enc Try.prog w 0 (fun _ => true) true fuel 47 (Value.cells (.slice a len cap)).toList = some x) : ∃ ls : List MCall, ls.length = len ∧ ArgC w a ls := by
  rcases open_slice Try.underlying47 hf with ⟨hcs, _⟩ | ⟨y, l, c, m, n, D, Pl, hcs, _, hl, hm, hz, _, hcell⟩
  · simp [Value.cells] at hcs
    obtain ⟨rfl, rfl, rfl⟩ := hcs
    exact ⟨[], rfl, .inl rfl⟩
  · simp [Value.cells] at hcs
    obtain ⟨rfl, rfl, rfl⟩ := hcs
    have each : ∀ i, i < len → ∃ z : MCall, w.cell? (y.add (i * 7)) = some (.int .i64 z.kind) ∧ w.cell? ((y.add (i * 7)).add 1) = some (.int .i64 z.ci) ∧ w.cell? ((y.add (i * 7)).add 2) = some (.int .u64 z.ce) ∧ w.cell? ((y.add (i * 7)).add 3) = some (.int .i64 z.A.op) ∧ w.cell? ((y.add (i * 7)).add 4) = some (.int .i64 z.A.at_) ∧
        w.cell? ((y.add (i * 7)).add 5) = some (.int .u64 z.A.x) ∧ w.cell? ((y.add (i * 7)).add 6) = some (.int .u64 z.A.y) := by
      intro i hi
      obtain ⟨cs, h1, h2⟩ := hcell i (by have : m = cap := by simpa using hz
                                         omega)
      rw [cells55] at h1
      obtain ⟨_, hlen, hget⟩ := World.cells?_some h1
      obtain ⟨y0, y1, y2, n', _, _, h3, h4, h5⟩ := Go.Deep.trod_struct3 Try.underlying55 h2
      match cs, hlen with
      | [c0, c1, c2, c3, c4, c5, c6], _ =>
        simp only [cells3, cells33, cells25, List.drop_zero, List.drop_succ_cons, List.take_succ_cons, List.take_zero] at h3 h4 h5
        obtain ⟨v0, e0, _, w0⟩ := DataW.trod_int Try.underlying3 h3
        obtain ⟨k0, k1, n2, _, _, h6, h7⟩ := Go.ChangeShapes.trod_struct2 Try.underlying33 h4
        simp only [cells3, cells23, List.drop_zero, List.drop_succ_cons, List.take_succ_cons, List.take_zero] at h6 h7
        obtain ⟨v1, e1, _, _⟩ := DataW.trod_int Try.underlying3 h6
        obtain ⟨v2, e2, _, _⟩ := DataW.trod_int Try.underlying23 h7
        obtain ⟨j0, j1, j2, j3, n3, _, _, g3, g4, g5, g6⟩ := Go.Joins.trod_struct4 Try.underlying25 h5
        simp only [cells3, cells23, List.drop_zero, List.drop_succ_cons, List.take_succ_cons, List.take_zero] at g3 g4 g5 g6
        obtain ⟨v3, e3, _, _⟩ := DataW.trod_int Try.underlying3 g3
        obtain ⟨v4, e4, _, _⟩ := DataW.trod_int Try.underlying3 g4
        obtain ⟨v5, e5, _, _⟩ := DataW.trod_int Try.underlying23 g5
        obtain ⟨v6, e6, _, _⟩ := DataW.trod_int Try.underlying23 g6
        simp at e0 e1 e2 e3 e4 e5 e6
        have q0 := hget 0 (by omega)
        have q1 := hget 1 (by omega)
        have q2 := hget 2 (by omega)
        have q3 := hget 3 (by omega)
        have q4 := hget 4 (by omega)
        have q5 := hget 5 (by omega)
        have q6 := hget 6 (by omega)
        simp at q0 q1 q2 q3 q4 q5 q6
        refine ⟨⟨v0, v1, v2, ⟨v3, v4, v5, v6⟩⟩, ?_, ?_, ?_, ?_, ?_, ?_, ?_⟩
        · rw [← e0, ← q0]; unfold Addr.add; simp
        · rw [← e1, ← q1]
        · rw [← e2, ← q2]
        · rw [← e3, ← q3]
        · rw [← e4, ← q4]
        · rw [← e5, ← q5]
        · rw [← e6, ← q6]
    obtain ⟨V, hV⟩ := choose_lt each
    refine ⟨(List.range len).map V, by simp, ?_⟩
    cases len with
    | zero => exact .inl (by simp)
    | succ k =>
      have h0 : w.cell? (y.add 0) = some (.int .i64 (V 0).kind) := by simpa using (hV 0 (by omega)).1
      obtain ⟨b, off, s⟩ := y
      obtain rfl : s = none := bare_of_cell h0
      refine .inr ⟨b, off, rfl, ?_, fun i hi => ?_⟩
      · rw [add_bare] at h0; exact lt_of_cell h0
      · simp at hi
        have h1 := hV i (by omega)
        simp only [add_bare] at h1
        have e : ((List.range (k + 1)).map V).getD i default = V i := by simp [List.getD, hi]
        rw [e]
        exact h1
end
end Go.Proofs.Ytiljledgoflogaa
