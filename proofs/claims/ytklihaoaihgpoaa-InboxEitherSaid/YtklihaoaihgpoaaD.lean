/- The walk of InboxPlays: true, whatever the input, and nothing that was there is written. -/
import Derived.Test.YtklihaoaihgpoaaB
import Derived.Laws.AppendOwnNone
namespace Go.Proofs.Ytklihaoaihgpoaa
open Go.RowKit Go.Conc

theorem info3 : (Try.prog.info? 3).map (fun i => (i.zero, i.size, i.bytes)) = some (some (.int .i64 0), 1, 8) := by kernel_rfl

/-- A slice of numbers that reads as l, in blocks from B on. -/
def Slc (B : Nat) (w : World) (v : Value) (l : List Int) : Prop :=
  (v = .slice none 0 0 ∧ l = []) ∨ ∃ b off cap, v = .slice (some ⟨b, off, none⟩) l.length cap ∧ B ≤ b ∧ b < w.heap.size ∧ l.length ≤ cap ∧ cap ≤ maxLen ∧ ∀ i, i < l.length → w.cell? ⟨b, off + i, none⟩ = some (.int .i64 (l.getD i 0))
theorem Slc.stay {B : Nat} {w w' : World} {v : Value} {l : List Int} {S : Nat → Prop} (h : Slc B w v l) (hs : Sep S w w') (hn : ∀ b, B ≤ b → b < w.heap.size → (∃ off n cap, v = .slice (some ⟨b, off, none⟩) n cap) → ¬ S b) : Slc B w' v l := by
  rcases h with h | ⟨b, off, cap, rfl, hB, hlt, hlc, hm, hc⟩
  · exact .inl h
  · exact .inr ⟨b, off, cap, rfl, hB, Nat.lt_of_lt_of_le hlt hs.size, hlc, hm, fun i hi => (World.cell?_of_block (w := w) (hs.block b hlt (hn b hB hlt ⟨_, _, _, rfl⟩))).trans (hc i hi)⟩
theorem Slc.len {B : Nat} {w : World} {v : Value} {l : List Int} (h : Slc B w v l) : ∃ a cap, v = .slice a l.length cap := by
  rcases h with ⟨rfl, rfl⟩ | ⟨b, off, cap, rfl, _⟩
  · exact ⟨none, 0, rfl⟩
  · exact ⟨_, _, rfl⟩
/-- What append leaves, as such a slice. -/
theorem Slc.owned {B B' : Nat} {w : World} {v : Value} {l : List Int} (hB : B ≤ B') (h : w.ownsRow B' 3 1 v l.length (ints l)) : Slc B w v l := by
  rcases h.2 with ⟨rfl, h0⟩ | ⟨g, cap, cur, rfl, hg, hh, hn, hm, hc, ht⟩
  · exact .inl ⟨rfl, List.length_eq_zero_iff.1 h0⟩
  · refine .inr ⟨g, 0, cap, rfl, by omega, lt_of_block hh, hn, hm, fun i hi => ?_⟩
    rw [Nat.zero_add, h.cellAt i (by omega)]
    simp [ints, hi]

theorem rput_full {B n : Nat} {z x : Int} {v : Value} {l : List Int} {w : World} (hv : Slc B w v l) (hz : z = n) (hl : n ≤ l.length) :
    Calls Try.prog 14 #[v, .int .i64 z, .int .i64 x] w fun e w' => e = .returned (.tuple #[v, .bool false]) ∧ w = w' := by
  subst hz
  obtain ⟨a, cap, rfl⟩ := hv.len
  go_enter Try.func14, Try.ntmps14
  go_wp2
  go_ret2
  exact ⟨rfl, rfl⟩

def Put (B : Nat) (w : World) (l : List Int) (x : Int) (e : Ending) (w' : World) : Prop := ∃ v', e = .returned (.tuple #[v', .bool true]) ∧ Slc B w' v' (l ++ [x]) ∧ Sep (fun _ => False) w w'

theorem put_end {B : Nat} {w w1 w2 : World} {v1 v2 : Value} {l : List Int} {x : Int} (hB : B ≤ w.heap.size)
    (g1 : (w.alloc (.cells #[] 3)).grownBy w1 (Value.ownBlock (.slice (some ⟨w.heap.size, 0, none⟩) 0 0))) (o1 : w1.ownsRow w.heap.size 3 1 v1 l.length (ints l))
    (o2 : w2.ownsRow w.heap.size 3 1 v2 (l.length + 1) (ints l ++ [.int .i64 x])) (g2 : (w1.alloc (.cells #[.int .i64 x] 3)).grownBy w2 v1.ownBlock) :
    Put B w l x (.returned (.tuple #[v2, .bool true])) w2 := by
  refine ⟨v2, rfl, Slc.owned (B' := w.heap.size) hB ?_, ?_⟩
  · rw [List.length_append]
    simpa [ints] using o2
  · have b1 : Below w.heap.size w w1 := ((Below.refl _ _).alloc (Nat.le_refl _) _).grown g1 (by simp) (fun k hk => by simp [Value.ownBlock] at hk; omega)
    have b2 : Below w.heap.size w w2 := (b1.alloc b1.size _).grown g2 (by have := b1.size; simp; omega) (fun k hk => (o1.lt k hk).1)
    exact ⟨b2.os, b2.tape, b2.output, b2.size, fun k hk _ => b2.block k hk⟩

theorem one_new (w : World) (s : Nat) (hs : w.heap.size = s) (x : Value) (T : TypeId) : ∀ j u, [x][j]? = some u → (w.alloc (.cells #[x] T)).cell? ((⟨s, 0, none⟩ : Addr).add j) = some u := by
  intro j u hj
  match j, hj with
  | 0, hj =>
    simp at hj
    subst hj hs
    simp [Addr.add]
theorem one_int (x : Int) : ∀ u ∈ [Value.int .i64 x], u.oneCell' = true := by
  intro u hu
  simp at hu
  subst hu
  rfl
theorem ints_cells {w w' : World} {b off : Nat} {l : List Int} (hb : ∀ k, k < w.heap.size → w'.heap[k]? = w.heap[k]?) (hlt : b < w.heap.size) (hc : ∀ i, i < l.length → w.cell? ⟨b, off + i, none⟩ = some (.int .i64 (l.getD i 0))) :
    ∀ j u, (ints l)[j]? = some u → w'.cell? ((⟨b, off, none⟩ : Addr).add j) = some u := by
  intro j u hj
  have hj' : j < l.length := by
    rcases Nat.lt_or_ge j l.length with h | h
    · exact h
    · simp [ints, h] at hj
  have h := (World.cell?_of_block (w := w) (w' := w') (a := ⟨b, off + j, none⟩) (hb b hlt)).trans (hc j hj')
  simp [ints, hj'] at hj
  subst hj
  rw [show (⟨b, off, none⟩ : Addr).add j = ⟨b, off + j, none⟩ by unfold Addr.add; split <;> simp_all]
  simpa [hj'] using h
theorem ints_one (l : List Int) : ∀ u ∈ ints l, u.oneCell' = true := by
  intro u hu
  simp [ints] at hu
  obtain ⟨x, _, rfl⟩ := hu
  rfl

theorem rput_room {B n : Nat} {z x : Int} {v : Value} {l : List Int} {w : World} (hv : Slc B w v l) (hz : z = n) (hl : l.length < n) (hn : n ≤ 4096) (hB : B ≤ w.heap.size) :
    Calls Try.prog 14 #[v, .int .i64 z, .int .i64 x] w (Put B w l x) := by
  subst hz
  obtain ⟨i0, hi, hz0, hz1, hz2⟩ := info_parts info3
  rcases hv with ⟨rfl, rfl⟩ | ⟨b, off, cap, rfl, hBb, hlt, hlc, hm, hc⟩
  · simp at hl
    go_enter Try.func14, Try.ntmps14
    go_wp2_with (first
      | (at_builtin; refine wpList_append_own_none rfl (.tmp 13) (.tmp 14) 37 rfl w.heap.size 3 i0 1 Try.underlying37 hi (.slice (some ⟨w.heap.size, 0, none⟩) 0 0) 0 [] rfl (World.ownsRow_made w #[] 0 (Nat.le_refl _) (by simp) rfl) rfl ?_)
      | (at_builtin; go_loud (refine wpList_append_own _ rfl (.tmp 15) (.tmp 17) 37 rfl w.heap.size 3 i0 (.int .i64 0) 1 8 Try.underlying37 hi hz0 hz1 hz2 rfl (by decide) (.slice (some ⟨w.heap.size, 0, none⟩) 0 0) 0 [] rfl ((World.ownsRow_made w #[] 0 (Nat.le_refl _) (by simp) rfl).alloc _) ⟨w.heap.size + 1, 0, none⟩ 1 1 [.int .i64 x] rfl rfl (one_new _ _ (by simp) _ _) (one_int x) (by unfold maxLen; omega) (by omega) (by simp; omega) ?_)))
    intro v2 w2 o2 g2 _
    go_wp2
    go_ret2
    exact put_end (l := []) hB (World.grownBy.refl _ _) (World.ownsRow_made w #[] 0 (Nat.le_refl _) (by simp) rfl) o2 g2
  · obtain ⟨n0, hn0⟩ : ∃ n0, n0 = l.length := ⟨_, rfl⟩
    rw [← hn0] at hl hlc
    have H := Lib.hid hn0
    rw [← hn0]
    clear hn0
    go_enter Try.func14, Try.ntmps14
    go_wp2_with (first
      | (at_builtin; go_loud (refine wpList_append_own _ rfl (.tmp 13) (.tmp 14) 37 rfl w.heap.size 3 i0 (.int .i64 0) 1 8 Try.underlying37 hi hz0 hz1 hz2 rfl (by decide) (.slice (some ⟨w.heap.size, 0, none⟩) 0 0) 0 [] rfl (World.ownsRow_made w #[] 0 (Nat.le_refl _) (by simp) rfl) ⟨b, off, none⟩ n0 cap (ints l) rfl (by rw [H.out]; simp [ints]) (ints_cells (w := w) (fun k hk => Below.heap_alloc _ _ _ hk) hlt hc) (ints_one l) (by unfold maxLen; omega) (by omega) (by simp) ?_)))
    intro v1 w1 o1 g1 _
    go_wp2_with (first
      | (at_builtin; go_loud (refine wpList_append_own _ rfl (.tmp 15) (.tmp 17) 37 rfl w.heap.size 3 i0 (.int .i64 0) 1 8 Try.underlying37 hi hz0 hz1 hz2 rfl (by decide) v1 n0 (ints l) rfl (o1.alloc _) ⟨w1.heap.size, 0, none⟩ 1 1 [.int .i64 x] rfl rfl (one_new _ _ rfl _ _) (one_int x) (by unfold maxLen; omega) (by omega) (by have := g1.size; simp at this ⊢; omega) ?_)))
    intro v2 w2 o2 g2 _
    go_wp2
    go_ret2
    rw [H.out] at o1 o2
    exact put_end hB g1 o1 o2 g2

theorem Slc.stayBox {B : Nat} {w w' : World} {v : Value} {l : List Int} {T : TypeId} {p c cap : Nat} {q : List Value} (h : Slc B w v l) (hb : Box T w p c cap q) (hs : Sep (· = c) w w') : Slc B w' v l := by
  rcases h with h | ⟨b, off, cap, rfl, hB, hlt, hlc, hm, hc⟩
  · exact .inl h
  · refine .inr ⟨b, off, cap, rfl, hB, Nat.lt_of_lt_of_le hlt hs.size, hlc, hm, fun i hi => ?_⟩
    refine (World.cell?_of_block (w := w) (hs.block b hlt ?_)).trans (hc i hi)
    rintro rfl
    obtain ⟨_, s, r, h⟩ := hb
    have := hc i hi
    simp [World.cell?, h] at this
theorem Slc.sep {B : Nat} {w w' : World} {v : Value} {l : List Int} (h : Slc B w v l) (hs : Sep (fun _ => False) w w') : Slc B w' v l := h.stay hs (fun _ _ _ _ x => x)

/-- What is known of a slice of calls that came in. -/
def RowC (w : World) (a : Option Addr) (l : List (Bool × Int)) : Prop :=
  l = [] ∨ ∃ b off, a = some ⟨b, off, none⟩ ∧ b < w.heap.size ∧ ∀ i, i < l.length → w.cell? ⟨b, off + i * 2, none⟩ = some (.bool (l.getD i (false, 0)).1) ∧ w.cell? ⟨b, off + i * 2 + 1, none⟩ = some (.int .i64 (l.getD i (false, 0)).2)

theorem plays_long (a0 : Option Addr) (n0 c0 : Nat) (z : Int) (h : 80 < n0) (w : World) :
    Calls Try.prog 4 #[.int .i64 z, .slice a0 n0 c0] w fun e w' => e = .returned (.bool true) ∧ Below w.heap.size w w' := by
  go_enter Try.func4, Try.ntmps4
  go_wp2_with fail
  refine (awake_ok _).mono ?_
  rintro e w0 ⟨rfl, bel0⟩
  go_wp2_with fail
  refine (awake_ok _).mono ?_
  rintro e w1 ⟨rfl, bel1⟩
  go_wp2
  go_ret
  exact ⟨rfl, bel0.trans (bel1.mono bel0.size)⟩

set_option maxRecDepth 100000 in
theorem plays_no (a0 : Option Addr) (n0 c0 : Nat) (z : Int) (h : n0 ≤ 80) (hz : z < 1 ∨ 4096 < z) (w : World) :
    Calls Try.prog 4 #[.int .i64 z, .slice a0 n0 c0] w fun e w' => e = .returned (.bool true) ∧ Below w.heap.size w w' := by
  rcases hz with hz | hz
  · go_enter Try.func4, Try.ntmps4
    go_wp2_with fail
    refine (awake_ok _).mono ?_
    rintro e w0 ⟨rfl, bel0⟩
    go_wp2_with fail
    refine (newI_no z (.inl hz) _).mono ?_
    rintro e w1 ⟨rfl, rfl⟩
    go_wp2
    go_ret
    exact ⟨rfl, bel0⟩
  · have hz' : ¬ z < 1 := by omega
    go_enter Try.func4, Try.ntmps4
    go_wp2_with fail
    refine (awake_ok _).mono ?_
    rintro e w0 ⟨rfl, bel0⟩
    go_wp2_with fail
    refine (newI_no z (.inr hz) _).mono ?_
    rintro e w1 ⟨rfl, rfl⟩
    go_wp2
    go_ret
    exact ⟨rfl, bel0⟩

set_option maxRecDepth 100000 in
theorem plays_walk (a0 : Option Addr) (c0 : Nat) (l : List (Bool × Int)) (n : Nat) (hl : l.length ≤ 80) (h1 : 1 ≤ n) (h2 : n ≤ 4096) (w : World) (r0 : RowC w a0 l) :
    Calls Try.prog 4 #[.int .i64 n, .slice a0 l.length c0] w fun e w' => e = .returned (.bool true) ∧ Below w.heap.size w w' := by
  go_enter Try.func4, Try.ntmps4
  go_wp2_with fail
  refine (awake_ok _).mono ?_
  rintro e w0 ⟨rfl, bel0⟩
  go_wp2_with fail
  refine (newI n _ rfl h1 h2 _).mono ?_
  rintro e w1 ⟨p, c, rfl, hb, hp, hc, hs⟩
  have bel1 : Below w.heap.size w w1 := bel0.trans ((sep_none hs).mono bel0.size)
  have hp' : w.heap.size ≤ p := Nat.le_trans bel0.size hp
  have hc' : w.heap.size ≤ c := Nat.le_trans bel0.size hc
  clear hp hc hs bel0
  go_wp2_with fail
  refine (sizeI hb).mono ?_
  rintro e w2 ⟨rfl, rfl⟩
  go_wp2
  go_loopw [7, 8] (fun v i wr => ∃ (j : Nat) (q : List Int), j ≤ l.length ∧ i = .int .i64 j ∧ Box 55 wr p c n (ints q) ∧ Slc w.heap.size wr v q ∧ Below w.heap.size w wr) (fun _ i _ => l.length - (intOf i).toNat)
  case atStart => exact ⟨0, [], by omega, rfl, hb, .inl ⟨rfl, rfl⟩, bel1⟩
  case round =>
    clear hb bel1
    obtain ⟨j, q, hj, rfl, hb, hv, bel⟩ := hrel
    by_cases hlt : j < l.length
    · obtain ⟨b, off, rfl, hbl, hcell⟩ := r0.resolve_left (fun e => by have h0 : l.length = 0 := (by rw [e]; rfl); omega)
      have hx := fun w' (bel' : Below w.heap.size w w') => (bel'.cell (p := ⟨b, off + j * 2, none⟩) hbl).trans (hcell j hlt).1
      have hy := fun w' (bel' : Below w.heap.size w w') => (bel'.cell (p := ⟨b, off + j * 2 + 1, none⟩) hbl).trans (hcell j hlt).2
      clear hcell
      obtain ⟨⟨tk, x⟩, hxe⟩ : ∃ x, x = l.getD j (false, 0) := ⟨_, rfl⟩
      rw [← hxe] at hx hy
      clear hxe
      dsimp only at hx hy
      have HX := Lib.hid hx
      have HY := Lib.hid hy
      clear hx hy
      have gx := HX.out _ bel
      have gy := HY.out _ bel
      cases tk with
      | true =>
        cases q with
        | nil =>
          obtain ⟨a, cp, rfl⟩ := hv.len
          go_wp2_with fail
          refine (takeI_none hb).mono ?_
          rintro e w2 ⟨rfl, rfl⟩
          go_wp2_with fail
          refine (lenI hb).mono ?_
          rintro e w2 ⟨rfl, rfl⟩
          rw [ints_len]
          go_wp2
          go_roundw
          case rel => exact ⟨j + 1, [], by omega, by go_num, hb, hv, bel⟩
          case measure => simp [intOf]; omega
        | cons y q =>
          obtain ⟨b', off', cap', rfl, hB', hlt', hlc', hm', hcc⟩ := hv.resolve_left (fun e => by cases e.2)
          rw [List.length_cons] at hlc'
          have hv : Slc w.heap.size wr (.slice (some ⟨b', off', none⟩) (q.length + 1) cap') (y :: q) := .inr ⟨b', off', cap', rfl, hB', hlt', hlc', hm', hcc⟩
          clear hcc
          rw [List.length_cons]
          go_wp2_with fail
          refine (takeI_some (x := y) (l := ints q) hb).mono ?_
          rintro e w2 ⟨rfl, hb2, hs2⟩
          have hv2 := hv.stayBox hb hs2
          obtain ⟨b2, off2, cap2, e2, _, hlt2, _, _, hcc⟩ := hv2.resolve_left (fun e => by cases e.2)
          simp only [Value.slice.injEq, Option.some.injEq, Addr.mk.injEq, and_true] at e2
          obtain ⟨⟨rfl, rfl⟩, -, rfl⟩ := e2
          have hc0 : w2.cell? ⟨b', off', none⟩ = some (.int .i64 y) := by simpa using hcc 0 (by simp)
          have hcs : ∀ i, i < q.length → w2.cell? ⟨b', off' + 1 + i, none⟩ = some (.int .i64 (q.getD i 0)) := fun i hi => by
            have := hcc (i + 1) (by simp; omega)
            rw [show off' + (i + 1) = off' + 1 + i by omega] at this
            simpa using this
          have HCS := Lib.hid hcs
          clear hcs hcc hv hv2 hb
          by_cases hcap : cap' = 1
          · obtain rfl : q = [] := by
              cases q with
              | nil => rfl
              | cons _ _ => simp at hlc'; omega
            subst hcap
            go_wp2_with fail
            refine (lenI hb2).mono ?_
            rintro e w3 ⟨rfl, rfl⟩
            rw [ints_len]
            go_wp2
            go_roundw
            case rel => exact ⟨j + 1, [], by omega, by go_num, hb2, .inr ⟨b', off', 0, rfl, hB', hlt2, by simp, by simp, by simp⟩, bel.trans (hs2.one hc' bel.size)⟩
            case measure => simp [intOf]; omega
          · have hcap' : 1 < cap' := by omega
            clear hcap
            go_wp2_with fail
            refine (lenI hb2).mono ?_
            rintro e w3 ⟨rfl, rfl⟩
            rw [ints_len]
            go_wp2
            go_roundw
            case rel => exact ⟨j + 1, q, by omega, by go_num, hb2, .inr ⟨b', off' + 1, cap' - 1, rfl, hB', hlt2, by omega, by omega, HCS.out⟩, bel.trans (hs2.one hc' bel.size)⟩
            case measure => simp [intOf]; omega
      | false =>
        by_cases hr : q.length < n
        · obtain ⟨a, cp, rfl⟩ := hv.len
          go_wp2_with fail
          refine (rput_room hv rfl hr h2 bel.size).mono ?_
          rintro e w2 ⟨v', rfl, hv2, hs2⟩
          obtain ⟨a2, cp2, rfl⟩ := hv2.len
          have bel2 : Below w.heap.size w w2 := bel.trans ((sep_none hs2).mono bel.size)
          have hb2 := hb.stay hs2 (fun x => x) (fun x => x)
          clear hb hv bel
          have gy2 := HY.out _ bel2
          go_wp2_with fail
          refine (putI_room x hb2 (by rw [ints_len]; exact hr)).mono ?_
          rintro e w3 ⟨rfl, hb3, hs3⟩
          have hv3 := hv2.stayBox hb2 hs3
          go_wp2_with fail
          refine (lenI hb3).mono ?_
          rintro e w4 ⟨rfl, rfl⟩
          have hll : ((ints q ++ [Value.int .i64 x]).length : Int) = ((q ++ [x]).length : Int) := by simp [ints]
          rw [hll]
          clear hll
          go_wp2
          go_roundw
          case rel => exact ⟨j + 1, q ++ [x], by omega, by go_num, by simpa [ints] using hb3, by simpa using hv3, bel2.trans (hs3.one hc' bel2.size)⟩
          case measure => simp [intOf]; omega
        · obtain ⟨a, cp, rfl⟩ := hv.len
          go_wp2_with fail
          refine (rput_full hv rfl (by omega)).mono ?_
          rintro e w2 ⟨rfl, rfl⟩
          go_wp2_with fail
          refine (putI_full x hb (by rw [ints_len]; omega)).mono ?_
          rintro e w3 ⟨rfl, rfl⟩
          go_wp2_with fail
          refine (lenI hb).mono ?_
          rintro e w4 ⟨rfl, rfl⟩
          rw [ints_len]
          go_wp2
          go_roundw
          case rel => exact ⟨j + 1, q, by omega, by go_num, hb, hv, bel⟩
          case measure => simp [intOf]; omega
    · go_wp2
      go_ret
      exact ⟨rfl, bel⟩
end Go.Proofs.Ytklihaoaihgpoaa
