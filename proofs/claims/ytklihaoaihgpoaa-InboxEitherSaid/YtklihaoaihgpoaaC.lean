/- The walk of InboxTexts: true, whatever the input, and nothing that was there is written. -/
import Derived.Test.YtklihaoaihgpoaaB
namespace Go.Proofs.Ytklihaoaihgpoaa
open Go.RowKit Go.Conc

/-- What is known of a slice of texts that came in: its cells, as far as it is long. -/
def RowS (w : World) (a : Option Addr) (l : List ByteArray) : Prop := l = [] ∨ ∃ b off, a = some ⟨b, off, none⟩ ∧ b < w.heap.size ∧ ∀ i, i < l.length → w.cell? ⟨b, off + i, none⟩ = some (.string (l.getD i ByteArray.empty))

def txts (l : List ByteArray) : List Value := l.map Value.string
theorem txts_len (l : List ByteArray) : (txts l).length = l.length := by simp [txts]
theorem txts_take (l : List ByteArray) (k : Nat) (h : k < l.length) : txts (l.take k) ++ [.string (l.getD k ByteArray.empty)] = txts (l.take (k + 1)) := by
  rw [List.take_succ_eq_append_getElem h]
  unfold txts
  rw [List.map_append]
  simp [h]
theorem txts_drop (l : List ByteArray) (n k : Nat) (h : k < l.length) (hn : k < n) : txts ((l.take n).drop k) = .string (l.getD k ByteArray.empty) :: txts ((l.take n).drop (k + 1)) := by
  rw [List.drop_eq_getElem_cons (by simp; omega)]
  unfold txts
  rw [List.map_cons]
  simp [h]
theorem txts_over (l : List ByteArray) (n k : Nat) (h : l.length ≤ k ∨ n ≤ k) : txts ((l.take n).drop k) = [] := by
  rw [List.drop_eq_nil_of_le (by simp; omega)]
  rfl

theorem texts_long (a0 : Option Addr) (n0 c0 : Nat) (z : Int) (h : 30 < n0) (w : World) :
    Calls Try.prog 3 #[.slice a0 n0 c0, .int .u8 z] w fun e w' => e = .returned (.bool true) ∧ Below w.heap.size w w' := by
  go_enter Try.func3, Try.ntmps3
  go_wp2_with fail
  refine (awake_ok _).mono ?_
  rintro e w0 ⟨rfl, bel0⟩
  go_wp2_with fail
  refine (awake_ok _).mono ?_
  rintro e w1 ⟨rfl, bel1⟩
  go_wp2
  go_ret
  exact ⟨rfl, bel0.trans (bel1.mono bel0.size)⟩

set_option maxRecDepth 100000 in
theorem texts_walk (a0 : Option Addr) (c0 : Nat) (l : List ByteArray) (m : Nat) (hl : l.length ≤ 30) (hm : m ≤ 255) (w : World) (r0 : RowS w a0 l) :
    Calls Try.prog 3 #[.slice a0 l.length c0, .int .u8 m] w fun e w' => e = .returned (.bool true) ∧ Below w.heap.size w w' := by
  go_enter Try.func3, Try.ntmps3
  go_wp2_with fail
  refine (awake_ok _).mono ?_
  rintro e w0 ⟨rfl, bel0⟩
  go_wp2_with fail
  refine (newS (m % 40 + 1) _ (by omega) (by omega) (by omega) _).mono ?_
  rintro e w1 ⟨p, c, rfl, hb, hp, hc, hs⟩
  have bel1 : Below w.heap.size w w1 := bel0.trans ((sep_none hs).mono bel0.size)
  have hp' : w.heap.size ≤ p := Nat.le_trans bel0.size hp
  have hc' : w.heap.size ≤ c := Nat.le_trans bel0.size hc
  clear hp hc hs bel0
  go_wp2
  go_loopw [8] (fun i wr => ∃ j : Nat, j ≤ l.length ∧ i = .int .i64 j ∧ Box 52 wr p c (m % 40 + 1) (txts (l.take (min j (m % 40 + 1)))) ∧ Below w.heap.size w wr) (fun i _ => l.length - (intOf i).toNat)
  case atStart => exact ⟨0, by omega, rfl, by simpa [txts] using hb, bel1⟩
  case round =>
    clear hb bel1
    obtain ⟨j, hj, rfl, hb, bel⟩ := hrel
    by_cases hlt : j < l.length
    · obtain ⟨b, off, rfl, hbl, hcell⟩ := r0.resolve_left (fun e => by have h0 : l.length = 0 := (by rw [e]; rfl); omega)
      have hx : wr.cell? ⟨b, off + j, none⟩ = some (.string (l.getD j ByteArray.empty)) := (bel.cell hbl).trans (hcell j hlt)
      clear hcell
      obtain ⟨x, hxe⟩ : ∃ x, x = l.getD j ByteArray.empty := ⟨_, rfl⟩
      rw [← hxe] at hx
      have HX := Lib.hid hxe
      clear hxe
      by_cases hr : j < m % 40 + 1
      · rw [Nat.min_eq_left (by omega)] at hb
        have hd : decide ((j : Int) < 1 + (m : Int) % 40) = true := decide_eq_true (by omega)
        go_wp2_with fail
        refine (putS_room _ hb (by rw [txts_len, List.length_take]; omega)).mono ?_
        rintro e w2 ⟨rfl, hb2, hs2⟩
        go_wp2
        go_roundw
        case rel => exact ⟨j + 1, by omega, by go_num, by rw [Nat.min_eq_left (by omega), ← txts_take l j hlt, ← HX.out]; exact hb2, bel.trans (hs2.one hc' bel.size)⟩
        case measure => simp [intOf]; omega
      · rw [Nat.min_eq_right (by omega)] at hb
        have hd : decide ((j : Int) < 1 + (m : Int) % 40) = false := decide_eq_false (by omega)
        go_wp2_with fail
        refine (putS_full _ hb (by rw [txts_len, List.length_take]; omega)).mono ?_
        rintro e w2 ⟨rfl, rfl⟩
        go_wp2
        go_roundw
        case rel => exact ⟨j + 1, by omega, by go_num, by rw [Nat.min_eq_right (by omega)]; exact hb, bel⟩
        case measure => simp [intOf]; omega
    · have hb2 : Box 52 wr p c (m % 40 + 1) (txts (l.take (m % 40 + 1))) := by
        by_cases hr : j < m % 40 + 1
        · rw [Nat.min_eq_left (by omega)] at hb
          rw [List.take_of_length_le (by omega)] at hb ⊢
          exact hb
        · rw [Nat.min_eq_right (by omega)] at hb
          exact hb
      clear hb
      go_wp2
      go_loopw [9] (fun i wr => ∃ j : Nat, j ≤ l.length ∧ i = .int .i64 j ∧ Box 52 wr p c (m % 40 + 1) (txts ((l.take (m % 40 + 1)).drop j)) ∧ Below w.heap.size w wr) (fun i _ => l.length - (intOf i).toNat)
      case atStart => exact ⟨0, by omega, rfl, by simpa using hb2, bel⟩
      case round =>
        clear hb2 bel
        obtain ⟨j, hj, rfl, hb, bel⟩ := hrel
        by_cases hlt : j < l.length
        · by_cases hr : j < m % 40 + 1
          · obtain ⟨b, off, rfl, hbl, hcell⟩ := r0.resolve_left (fun e => by have h0 : l.length = 0 := (by rw [e]; rfl); omega)
            have hx : wr.cell? ⟨b, off + j, none⟩ = some (.string (l.getD j ByteArray.empty)) := (bel.cell hbl).trans (hcell j hlt)
            clear hcell
            obtain ⟨x, hxe⟩ : ∃ x, x = l.getD j ByteArray.empty := ⟨_, rfl⟩
            rw [txts_drop l _ j hlt hr, ← hxe] at hb
            rw [← hxe] at hx
            clear hxe
            go_wp2_with fail
            refine (takeS_some hb).mono ?_
            rintro e w2 ⟨rfl, hb2, hs2⟩
            have hx2 : w2.cell? ⟨b, off + j, none⟩ = some (.string x) := ((hs2.one hc' bel.size).cell hbl).trans hx
            go_wp2
            go_roundw
            case rel => exact ⟨j + 1, by omega, by go_num, hb2, bel.trans (hs2.one hc' bel.size)⟩
            case measure => simp [intOf]; omega
          · rw [txts_over _ _ _ (by omega)] at hb
            go_wp2_with fail
            refine (takeS_none hb).mono ?_
            rintro e w2 ⟨rfl, rfl⟩
            go_wp2
            go_ret
            exact ⟨rfl, bel⟩
        · rw [txts_over _ _ _ (by omega)] at hb
          go_wp2_with fail
          refine (takeS_none hb).mono ?_
          rintro e w2 ⟨rfl, rfl⟩
          go_wp2
          go_ret
          exact ⟨rfl, bel⟩
end Go.Proofs.Ytklihaoaihgpoaa
