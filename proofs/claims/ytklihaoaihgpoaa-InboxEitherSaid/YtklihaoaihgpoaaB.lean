/- The walks of awake, InboxFull: true, whatever the input, and nothing that was there is written. -/
import Derived.Test.YtklihaoaihgpoaaA
import Derived.Lib.Hide
import Derived.Outline
namespace Go.Proofs.Ytklihaoaihgpoaa
open Go.RowKit Go.Conc

theorem sep_none {w w' : World} (h : Sep (fun _ => False) w w') : Below w.heap.size w w' := h.below (fun _ x => x.elim) (Nat.le_refl _)

theorem awake_ok (w : World) : Calls Try.prog 7 #[] w fun e w' => e = .returned (.bool true) ∧ Below w.heap.size w w' := by
  go_enter Try.func7, Try.ntmps7
  go_wp2_with fail
  refine (newI 1 1 rfl (by omega) (by omega) _).mono ?_
  rintro e w1 ⟨p, c, rfl, hb, hp, hc, hs⟩
  go_wp2_with fail
  refine (putI_room 5 hb (by simp)).mono ?_
  rintro e w2 ⟨rfl, hb2, hs2⟩
  go_wp2_with fail
  refine (lenI hb2).mono ?_
  rintro e w3 ⟨rfl, rfl⟩
  go_wp2
  go_ret
  exact ⟨rfl, (sep_none hs).trans (hs2.one hc hs.size)⟩

/-- The numbers from a on, n of them. -/
def seqI (a n : Nat) : List Value := (List.range' a n).map fun j => Value.int .i64 (j : Nat)
theorem seqI_len (a n : Nat) : (seqI a n).length = n := by simp [seqI]
theorem seqI_snoc (a n : Nat) : seqI a n ++ [Value.int .i64 ((a + n : Nat) : Int)] = seqI a (n + 1) := by
  simp [seqI, List.range'_concat]
theorem seqI_cons (a n : Nat) : seqI a (n + 1) = Value.int .i64 (a : Nat) :: seqI (a + 1) n := by
  simp [seqI, List.range'_succ]

theorem full_walk (m k : Nat) (hm : m ≤ 255) (hk : k ≤ 255) (w : World) : Calls Try.prog 5 #[.int .u8 m, .int .u8 k] w fun e w' => e = .returned (.bool true) ∧ Below w.heap.size w w' := by
  go_enter Try.func5, Try.ntmps5
  go_wp2_with fail
  refine (awake_ok _).mono ?_
  rintro e w0 ⟨rfl, bel0⟩
  go_wp2_with fail
  refine (newI (m + 1) _ (by omega) (by omega) (by omega) _).mono ?_
  rintro e w1 ⟨p, c, rfl, hb, hp, hc, hs⟩
  have bel1 : Below w.heap.size w w1 := bel0.trans ((sep_none hs).mono bel0.size)
  have hp' : w.heap.size ≤ p := Nat.le_trans bel0.size hp
  have hc' : w.heap.size ≤ c := Nat.le_trans bel0.size hc
  clear hp hc hs bel0
  go_wp2
  go_loopw [8] (fun i wr => ∃ j : Nat, j ≤ m + 1 ∧ i = .int .i64 j ∧ Box 55 wr p c (m + 1) (seqI 0 j) ∧ Below w.heap.size w wr) (fun i _ => m + 1 - (intOf i).toNat)
  case atStart => exact ⟨0, by omega, rfl, hb, bel1⟩
  case round =>
    clear hb bel1
    obtain ⟨j, hj, rfl, hb, bel1⟩ := hrel
    by_cases hlt : j < m + 1
    · go_wp2_with (go_at_call 15; refine (putI_room _ hb (by rw [seqI_len]; omega)).mono ?_; rintro e w2 ⟨rfl, hb2, hs2⟩)
      go_roundw
      case rel => exact ⟨j + 1, by omega, by go_num, by have := seqI_snoc 0 j; simp only [Nat.zero_add] at this; rw [← this]; exact hb2, bel1.trans (hs2.one hc' bel1.size)⟩
      case measure => simp [intOf]; omega
    · rw [show j = m + 1 by omega] at hb
      go_wp2
      go_loopw [9] (fun i wr => ∃ j : Nat, j ≤ k ∧ i = .int .i64 j ∧ Box 55 wr p c (m + 1) (seqI j (m + 1)) ∧ Below w.heap.size w wr) (fun i _ => k - (intOf i).toNat)
      case atStart => exact ⟨0, by omega, rfl, hb, bel1⟩
      case round =>
        clear hb bel1
        obtain ⟨j, hj, rfl, hb, bel1⟩ := hrel
        by_cases hlt : j < k
        · go_wp2_with fail
          refine (putI_full _ hb (by rw [seqI_len]; omega)).mono ?_
          rintro e w2 ⟨rfl, rfl⟩
          go_wp2_with fail
          refine (lenI hb).mono ?_
          rintro e w2 ⟨rfl, rfl⟩
          rw [seqI_len]
          go_wp2_with fail
          rw [seqI_cons] at hb
          refine (takeI_some hb).mono ?_
          rintro e w2 ⟨rfl, hb2, hs2⟩
          go_wp2_with fail
          refine (putI_room _ hb2 (by rw [seqI_len]; omega)).mono ?_
          rintro e w3 ⟨rfl, hb3, hs3⟩
          go_wp2
          go_roundw
          case rel => exact ⟨j + 1, by omega, by go_num, by rw [← seqI_snoc]; have e : ((j + 1 + m : Nat) : Int) = 1 + (m : Int) + j := (by omega); rw [e]; exact hb3, bel1.trans ((hs2.trans hs3).one hc' bel1.size)⟩
          case measure => simp [intOf]; omega
        · obtain rfl : j = k := by omega
          go_wp2_with fail
          refine (lenI hb).mono ?_
          rintro e w2 ⟨rfl, rfl⟩
          rw [seqI_len]
          go_wp2_with fail
          refine (sizeI hb).mono ?_
          rintro e w2 ⟨rfl, rfl⟩
          go_wp2
          go_ret
          exact ⟨rfl, bel1⟩

/-- What is known of a slice of numbers that came in: its cells, as far as it is long. -/
def RowI (w : World) (a : Option Addr) (l : List Int) : Prop := l = [] ∨ ∃ b off, a = some ⟨b, off, none⟩ ∧ b < w.heap.size ∧ ∀ i, i < l.length → w.cell? ⟨b, off + i, none⟩ = some (.int .i64 (l.getD i 0))
theorem RowI.stay {w w' : World} {a : Option Addr} {l : List Int} (h : RowI w a l) (hb : Below w.heap.size w w') : RowI w' a l := by
  rcases h with h | ⟨b, off, ha, hlt, hc⟩
  · exact .inl h
  · exact .inr ⟨b, off, ha, Nat.lt_of_lt_of_le hlt hb.size, fun i hi => (hb.cell hlt).trans (hc i hi)⟩

def ints (l : List Int) : List Value := l.map (Value.int .i64)
theorem ints_len (l : List Int) : (ints l).length = l.length := by simp [ints]
theorem ints_take (l : List Int) (k : Nat) (h : k < l.length) : ints (l.take k) ++ [.int .i64 (l.getD k 0)] = ints (l.take (k + 1)) := by
  rw [List.take_succ_eq_append_getElem h]
  unfold ints
  rw [List.map_append]
  simp [h]
theorem ints_drop (l : List Int) (k : Nat) (h : k < l.length) : ints (l.drop k) = .int .i64 (l.getD k 0) :: ints (l.drop (k + 1)) := by
  rw [List.drop_eq_getElem_cons h]
  unfold ints
  rw [List.map_cons]
  simp [h]

/-- Either: the first box holds something. -/
theorem either_one {p c q ca : Nat} {x : Int} {l : List Value} {w : World} (ha : Box 55 w p c ca (.int .i64 x :: l)) :
    Calls Try.prog 17 #[.pointer (some ⟨p, 0, none⟩), .pointer (some ⟨q, 0, none⟩)] w fun e w' => e = .returned (.tuple #[.int .i64 x, .int .i64 1]) ∧ Box 55 w' p c ca l ∧ Sep (· = c) w w' := by
  go_enter Try.func17, Try.ntmps17
  go_wp2_with fail
  refine (takeI_some ha).mono ?_
  rintro e w2 ⟨rfl, hb2, hs2⟩
  go_wp2
  go_ret2
  exact ⟨rfl, hb2, hs2⟩
theorem either_two {p c q d ca cb : Nat} {x : Int} {l : List Value} {w : World} (ha : Box 55 w p c ca []) (hb : Box 55 w q d cb (.int .i64 x :: l)) :
    Calls Try.prog 17 #[.pointer (some ⟨p, 0, none⟩), .pointer (some ⟨q, 0, none⟩)] w fun e w' => e = .returned (.tuple #[.int .i64 x, .int .i64 2]) ∧ Box 55 w' q d cb l ∧ Sep (· = d) w w' := by
  go_enter Try.func17, Try.ntmps17
  go_wp2_with fail
  refine (takeI_none ha).mono ?_
  rintro e w2 ⟨rfl, rfl⟩
  go_wp2_with fail
  refine (takeI_some hb).mono ?_
  rintro e w2 ⟨rfl, hb2, hs2⟩
  go_wp2
  go_ret2
  exact ⟨rfl, hb2, hs2⟩
theorem either_none {p c q d ca cb : Nat} {w : World} (ha : Box 55 w p c ca []) (hb : Box 55 w q d cb []) :
    Calls Try.prog 17 #[.pointer (some ⟨p, 0, none⟩), .pointer (some ⟨q, 0, none⟩)] w fun e w' => e = .returned (.tuple #[.int .i64 0, .int .i64 0]) ∧ w = w' := by
  go_enter Try.func17, Try.ntmps17
  go_wp2_with fail
  refine (takeI_none ha).mono ?_
  rintro e w2 ⟨rfl, rfl⟩
  go_wp2_with fail
  refine (takeI_none hb).mono ?_
  rintro e w2 ⟨rfl, rfl⟩
  go_wp2
  go_ret2
  exact ⟨rfl, rfl⟩

theorem either_long (a0 a1 : Option Addr) (n0 n1 c0 c1 : Nat) (h : 40 < n0 ∨ 40 < n1) (w : World) :
    Calls Try.prog 6 #[.slice a0 n0 c0, .slice a1 n1 c1] w fun e w' => e = .returned (.bool true) ∧ Below w.heap.size w w' := by
  by_cases h0 : 40 < n0
  · clear h
    go_enter Try.func6, Try.ntmps6
    go_wp2_with fail
    refine (awake_ok _).mono ?_
    rintro e w0 ⟨rfl, bel0⟩
    go_wp2_with fail
    refine (awake_ok _).mono ?_
    rintro e w1 ⟨rfl, bel1⟩
    go_wp2
    go_ret
    exact ⟨rfl, bel0.trans (bel1.mono bel0.size)⟩
  · have h1 : 40 < n1 := by omega
    clear h
    go_enter Try.func6, Try.ntmps6
    go_wp2_with fail
    refine (awake_ok _).mono ?_
    rintro e w0 ⟨rfl, bel0⟩
    go_wp2_with fail
    refine (awake_ok _).mono ?_
    rintro e w1 ⟨rfl, bel1⟩
    go_wp2
    go_ret
    exact ⟨rfl, bel0.trans (bel1.mono bel0.size)⟩

set_option maxRecDepth 100000 in
theorem either_walk (a0 a1 : Option Addr) (c0 c1 : Nat) (l k : List Int) (hl : l.length ≤ 40) (hk : k.length ≤ 40) (w : World) (r0 : RowI w a0 l) (r1 : RowI w a1 k) :
    Calls Try.prog 6 #[.slice a0 l.length c0, .slice a1 k.length c1] w fun e w' => e = .returned (.bool true) ∧ Below w.heap.size w w' := by
  go_enter Try.func6, Try.ntmps6
  go_wp2_with fail
  refine (awake_ok _).mono ?_
  rintro e w0 ⟨rfl, bel0⟩
  go_wp2_with fail
  refine (newI 40 _ (by omega) (by omega) (by omega) _).mono ?_
  rintro e w1 ⟨p, c, rfl, hb, hp, hc, hs⟩
  have bel1 : Below w.heap.size w w1 := bel0.trans ((sep_none hs).mono bel0.size)
  have hp' : w.heap.size ≤ p := Nat.le_trans bel0.size hp
  have hc' : w.heap.size ≤ c := Nat.le_trans bel0.size hc
  clear hp hc hs bel0
  go_wp2_with fail
  refine (newI 40 _ (by omega) (by omega) (by omega) _).mono ?_
  rintro e w2 ⟨q, d, rfl, hd, hq, hd1, hs⟩
  have bel2 : Below w.heap.size w w2 := bel1.trans ((sep_none hs).mono bel1.size)
  have hq' : w.heap.size ≤ q := Nat.le_trans bel1.size hq
  have hd' : w.heap.size ≤ d := Nat.le_trans bel1.size hd1
  have n1 : c ≠ d := by have := hb.ltc; omega
  have n2 : c ≠ q := by have := hb.ltc; omega
  have n3 : d ≠ p := by have := hb.ltp; omega
  have hb2 := hb.stay hs (fun x => x) (fun x => x)
  clear hb bel1 hs hq hd1
  go_wp2
  go_loopw [9] (fun i wr => ∃ j : Nat, j ≤ l.length ∧ i = .int .i64 j ∧ Box 55 wr p c 40 (ints (l.take j)) ∧ Box 55 wr q d 40 [] ∧ Below w.heap.size w wr) (fun i _ => l.length - (intOf i).toNat)
  case atStart => exact ⟨0, by omega, rfl, hb2, hd, bel2⟩
  case round =>
    clear hb2 hd bel2
    obtain ⟨j, hj, rfl, hb, hd, bel⟩ := hrel
    by_cases hlt : j < l.length
    · obtain ⟨b, off, rfl, hbl, hcell⟩ := r0.resolve_left (fun e => by simp [e] at hlt)
      have hx : wr.cell? ⟨b, off + j, none⟩ = some (.int .i64 (l.getD j 0)) := (bel.cell hbl).trans (hcell j hlt)
      clear hcell
      obtain ⟨x, hxe⟩ : ∃ x, x = l.getD j 0 := ⟨_, rfl⟩
      rw [← hxe] at hx
      have HX := Lib.hid hxe
      clear hxe
      go_wp2_with (go_at_call 15; refine (putI_room _ hb (by rw [ints_len, List.length_take]; omega)).mono ?_; rintro e w2 ⟨rfl, hb2, hs2⟩)
      go_roundw
      case rel => exact ⟨j + 1, by omega, by go_num, by rw [← ints_take l j hlt, ← HX.out]; exact hb2, hd.stay hs2 (fun e => n2 e.symm) (fun e => n1 e.symm), bel.trans (hs2.one hc' bel.size)⟩
      case measure => simp [intOf]; omega
    · rw [List.take_of_length_le (by omega)] at hb
      go_wp2
      go_loopw [10] (fun i wr => ∃ j : Nat, j ≤ k.length ∧ i = .int .i64 j ∧ Box 55 wr p c 40 (ints l) ∧ Box 55 wr q d 40 (ints (k.take j)) ∧ Below w.heap.size w wr) (fun i _ => k.length - (intOf i).toNat)
      case atStart => exact ⟨0, by omega, rfl, hb, hd, bel⟩
      case round =>
        clear hb hd bel
        obtain ⟨j, hj, rfl, hb, hd, bel⟩ := hrel
        by_cases hlt : j < k.length
        · obtain ⟨b, off, rfl, hbl, hcell⟩ := r1.resolve_left (fun e => by simp [e] at hlt)
          have hx : wr.cell? ⟨b, off + j, none⟩ = some (.int .i64 (k.getD j 0)) := (bel.cell hbl).trans (hcell j hlt)
          clear hcell
          obtain ⟨x, hxe⟩ : ∃ x, x = k.getD j 0 := ⟨_, rfl⟩
          rw [← hxe] at hx
          have HX := Lib.hid hxe
          clear hxe
          go_wp2_with (go_at_call 15; refine (putI_room _ hd (by rw [ints_len, List.length_take]; omega)).mono ?_; rintro e w2 ⟨rfl, hb2, hs2⟩)
          go_roundw
          case rel => exact ⟨j + 1, by omega, by go_num, hb.stay hs2 (fun e => n3 e.symm) n1, by rw [← ints_take k j hlt, ← HX.out]; exact hb2, bel.trans (hs2.one hd' bel.size)⟩
          case measure => simp [intOf]; omega
        · rw [List.take_of_length_le (by omega)] at hd
          go_wp2
          go_loopw [11] (fun i wr => ∃ j : Nat, j ≤ l.length + k.length ∧ i = .int .i64 j ∧ Box 55 wr p c 40 (ints (l.drop j)) ∧ Box 55 wr q d 40 (ints (k.drop (j - l.length))) ∧ Below w.heap.size w wr) (fun i _ => l.length + k.length - (intOf i).toNat)
          case atStart => exact ⟨0, by omega, rfl, hb, by simpa using hd, bel⟩
          case round =>
            clear hb hd bel
            obtain ⟨j, hj, rfl, hb, hd, bel⟩ := hrel
            by_cases hlt : j < l.length + k.length
            · by_cases h1 : j < l.length
              · obtain ⟨b, off, rfl, hbl, hcell⟩ := r0.resolve_left (fun e => by simp [e] at h1)
                have hx : wr.cell? ⟨b, off + j, none⟩ = some (.int .i64 (l.getD j 0)) := (bel.cell hbl).trans (hcell j h1)
                clear hcell
                obtain ⟨x, hxe⟩ : ∃ x, x = l.getD j 0 := ⟨_, rfl⟩
                rw [ints_drop l j h1, ← hxe] at hb
                rw [← hxe] at hx
                clear hxe
                go_wp2_with fail
                refine (either_one hb).mono ?_
                rintro e w2 ⟨rfl, hb2, hs2⟩
                have hx2 : w2.cell? ⟨b, off + j, none⟩ = some (.int .i64 x) := ((hs2.one hc' bel.size).cell hbl).trans hx
                go_wp2
                go_roundw
                case rel => exact ⟨j + 1, by omega, by go_num, hb2, by have := hd.stay hs2 (fun e => n2 e.symm) (fun e => n1 e.symm); rw [show j - l.length = j + 1 - l.length by omega] at this; exact this, bel.trans (hs2.one hc' bel.size)⟩
                case measure => simp [intOf]; omega
              · obtain ⟨b, off, rfl, hbl, hcell⟩ := r1.resolve_left (fun e => by have h0 : k.length = 0 := (by rw [e]; rfl); omega)
                have hx : wr.cell? ⟨b, off + (j - l.length), none⟩ = some (.int .i64 (k.getD (j - l.length) 0)) := (bel.cell hbl).trans (hcell (j - l.length) (by omega))
                clear hcell
                obtain ⟨x, hxe⟩ : ∃ x, x = k.getD (j - l.length) 0 := ⟨_, rfl⟩
                rw [ints_drop k (j - l.length) (by omega), ← hxe] at hd
                rw [List.drop_eq_nil_of_le (by omega)] at hb
                rw [← hxe] at hx
                clear hxe
                go_wp2_with fail
                refine (either_two hb hd).mono ?_
                rintro e w2 ⟨rfl, hb2, hs2⟩
                have hx2 : w2.cell? ⟨b, off + (j - l.length), none⟩ = some (.int .i64 x) := ((hs2.one hd' bel.size).cell hbl).trans hx
                go_wp2
                go_roundw
                case rel => exact ⟨j + 1, by omega, by go_num, by rw [List.drop_eq_nil_of_le (by omega)]; exact hb.stay hs2 (fun e => n3 e.symm) n1, by rw [show j + 1 - l.length = j - l.length + 1 by omega]; exact hb2, bel.trans (hs2.one hd' bel.size)⟩
                case measure => simp [intOf]; omega
            · rw [List.drop_eq_nil_of_le (by omega)] at hb hd
              go_wp2_with fail
              refine (either_none hb hd).mono ?_
              rintro e w2 ⟨rfl, rfl⟩
              go_wp2_with fail
              refine (lenI hb).mono ?_
              rintro e w2 ⟨rfl, rfl⟩
              go_wp2_with fail
              refine (lenI hd).mono ?_
              rintro e w2 ⟨rfl, rfl⟩
              go_wp2
              go_ret
              exact ⟨rfl, bel⟩
end Go.Proofs.Ytklihaoaihgpoaa
