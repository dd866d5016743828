/- The walk of MemPlays. -/
import Derived.Test.YtiljledgoflogaaMa
import Derived.Test.YtiljledgoflogaaMb
import Derived.Deep.CutBlock
import Derived.Deep.CutRange
namespace Go.Proofs.Ytiljledgoflogaa
open Go.RowKit
set_option linter.unusedSimpArgs false
set_option linter.unusedVariables false

/-- Regions of a size that is looked at, behind k calls. -/
def SizedM (L : List Reg) (cnt k : Nat) : Prop := L.length ≤ 65 ∧ (∀ i, i < L.length → (L.getD i default).ws.length ≤ 200 ∧ (L.getD i default).ep ≤ k + 1) ∧ cnt ≤ k
theorem SizedM.up {L : List Reg} {cnt k : Nat} (h : SizedM L cnt k) : SizedM L cnt (k + 1) := ⟨h.1, fun i hi => ⟨(h.2.1 i hi).1, by have := (h.2.1 i hi).2; omega⟩, by have := h.2.2; omega⟩
theorem getD_set' {α : Type} [Inhabited α] (L : List α) (i j : Nat) (x : α) (hj : j < L.length) : (L.set i x).getD j default = if i = j then x else L.getD j default := by
  have : j < (L.set i x).length := by simpa using hj
  simp only [List.getD, List.getElem?_eq_getElem this, List.getElem?_eq_getElem hj, Option.getD_some, List.getElem_set]
theorem SizedM.bump {L : List Reg} {cnt k i : Nat} (h : SizedM L cnt k) : SizedM (bumpL L i) cnt (k + 1) := by
  obtain ⟨h1, h2, h3⟩ := h
  refine ⟨by rw [bumpL_len]; exact h1, fun j hj => ?_, by omega⟩
  rw [bumpL_len] at hj
  have := h2 j hj
  unfold bumpL
  rw [getD_set' L i j _ hj]
  split
  · rename_i e
    subst e
    exact ⟨this.1, by show _ + 1 ≤ _; omega⟩
  · omega
theorem SizedM.doL {L : List Reg} {cnt k : Nat} (h : SizedM L cnt k) (i j : Nat) (op x y : Int) : SizedM (doL L i j op x y) (cnt + 1) (k + 1) := by
  obtain ⟨h1, h2, h3⟩ := h
  refine ⟨by rw [doL_len]; exact h1, fun q hq => ?_, by omega⟩
  rw [doL_len] at hq
  have := h2 q hq
  unfold Ytiljledgoflogaa.doL
  rw [getD_set' L i q _ hq]
  split
  · rename_i e
    subst e
    exact ⟨by simpa using this.1, by show (L.getD i default).ep ≤ _; omega⟩
  · omega

/-- What a Bump answers. -/
structure BumpR where
  c : Int
  e : Int
  f : Int
  L : List Reg
def bumpJ (L : List Reg) (ci : Int) : BumpR := if 0 ≤ ci ∧ ci < L.length then ⟨ci, (((L.getD ci.toNat default).ep + 1 : Nat) : Int), 0, bumpL L ci.toNat⟩ else ⟨0, 0, 1, L⟩
theorem bumpJ_sized {L : List Reg} {cnt k : Nat} {ci : Int} (h : SizedM L cnt k) : SizedM (bumpJ L ci).L cnt (k + 1) := by
  unfold bumpJ
  split
  · exact h.bump
  · exact h.up
theorem mbump {lo hi p cnt k : Nat} {w : World} {L : List Reg} (h : Mem lo hi w p L cnt) (hs : SizedM L cnt k) (hk : k ≤ 100) (ci : Int) : Calls Try.prog 25 #[.pointer (some ⟨p, 0, none⟩), .int .i64 ci] w fun e w' =>
    e = .returned (.tuple #[.agg #[.int .i64 (bumpJ L ci).c, .int .u64 (bumpJ L ci).e], .int .i64 (bumpJ L ci).f]) ∧ Mem lo hi w' p (bumpJ L ci).L cnt ∧ In lo hi w w' := by
  by_cases hi : 0 ≤ ci ∧ ci < L.length
  · obtain ⟨i, rfl⟩ : ∃ i : Nat, ci = i := ⟨ci.toNat, by omega⟩
    have hiL : i < L.length := by omega
    have e : bumpJ L (i : Int) = ⟨(i : Int), (((L.getD i default).ep + 1 : Nat) : Int), 0, bumpL L i⟩ := if_pos hi
    rw [e]
    have := (hs.2.1 i hiL).2
    exact bump_at h hiL (i : Int) rfl _ rfl (by omega)
  · have e : bumpJ L ci = ⟨0, 0, 1, L⟩ := if_neg hi
    rw [e]
    refine (bump_no h ci (by omega)).mono ?_
    rintro e w' ⟨rfl, hs'⟩
    exact ⟨rfl, h.same hs', Same.sep hs' _⟩
theorem rbump_any {F : Nat → Prop} {cnt k : Nat} {w : World} {v : Value} {L : List Reg} (h : RM F w v L cnt) (hs : SizedM L cnt k) (hk : k ≤ 100) (ci : Int) (hF : ∀ b, w.heap.size ≤ b → F b) : Calls Try.prog 30 #[v, .int .i64 ci] w fun e w' =>
    ∃ (wa : Option Addr) (wl wk : Nat) (ea : Option Addr) (el ec : Nat) (cq : Int), e = .returned (.tuple #[.agg #[.slice wa wl wk, .slice ea el ec, .int .i64 cq], .agg #[.int .i64 (bumpJ L ci).c, .int .u64 (bumpJ L ci).e], .int .i64 (bumpJ L ci).f]) ∧ RM F w' (.agg #[.slice wa wl wk, .slice ea el ec, .int .i64 cq]) (bumpJ L ci).L cnt ∧ Same w w' := by
  by_cases hi : 0 ≤ ci ∧ ci < L.length
  · obtain ⟨i, rfl⟩ : ∃ i : Nat, ci = i := ⟨ci.toNat, by omega⟩
    have hiL : i < L.length := by omega
    have e : bumpJ L (i : Int) = ⟨(i : Int), (((L.getD i default).ep + 1 : Nat) : Int), 0, bumpL L i⟩ := if_pos hi
    rw [e]
    have := (hs.2.1 i hiL).2
    refine (rbump_ok h i hiL (by omega) (by have := hs.1; omega) hF).mono ?_
    rintro e w' ⟨v', rfl, h2, hs2⟩
    obtain ⟨wa, wc, ea, ec, rfl⟩ := h2.form
    exact ⟨_, _, _, _, _, _, _, rfl, h2, hs2⟩
  · have e : bumpJ L ci = ⟨0, 0, 1, L⟩ := if_neg hi
    rw [e]
    obtain ⟨wa, wc, ea, ec, rfl⟩ := h.form
    refine (rbump_no h ci (by omega)).mono ?_
    rintro e w' ⟨rfl, hs'⟩
    exact ⟨_, _, _, _, _, _, _, rfl, h.same hs', hs'⟩

/-- What a Do answers. -/
structure DoR where
  v : Int
  ok : Bool
  L : List Reg
  d : Nat
def doJ (L : List Reg) (ci ce : Int) (A : Acc) : DoR := if okB L ci ce A.op A.at_ then ⟨peekOf L ci A.at_, true, doL L ci.toNat A.at_.toNat A.op A.x A.y, 1⟩ else ⟨0, false, L, 0⟩
theorem doJ_sized {L : List Reg} {cnt k : Nat} {ci ce : Int} {A : Acc} (h : SizedM L cnt k) : SizedM (doJ L ci ce A).L (cnt + (doJ L ci ce A).d) (k + 1) := by
  unfold doJ
  split
  · exact h.doL _ _ _ _ _
  · exact h.up
theorem mdo {lo hi p cnt : Nat} {w : World} {L : List Reg} (h : Mem lo hi w p L cnt) (hc : cnt ≤ 1000) (ci ce : Int) (A : Acc) : Calls Try.prog 23 #[.pointer (some ⟨p, 0, none⟩), .agg #[.int .i64 ci, .int .u64 ce], .agg #[.int .i64 A.op, .int .i64 A.at_, .int .u64 A.x, .int .u64 A.y]] w fun e w' =>
    e = .returned (.tuple #[.int .u64 (doJ L ci ce A).v, .bool (doJ L ci ce A).ok]) ∧ Mem lo hi w' p (doJ L ci ce A).L (cnt + (doJ L ci ce A).d) ∧ In lo hi w w' := by
  cases hok : okB L ci ce A.op A.at_ with
  | true =>
    have e : doJ L ci ce A = ⟨peekOf L ci A.at_, true, doL L ci.toNat A.at_.toNat A.op A.x A.y, 1⟩ := if_pos hok
    rw [e]
    exact do_yes h ci ce A.op A.at_ A.x A.y (by omega) hok
  | false =>
    have e : doJ L ci ce A = ⟨0, false, L, 0⟩ := if_neg (by simp [hok])
    rw [e]
    refine (do_no h ci ce A.op A.at_ A.x A.y hok).mono ?_
    rintro e w' ⟨rfl, hs'⟩
    exact ⟨rfl, h.same hs', Same.sep hs' _⟩
theorem rdo {F : Nat → Prop} {cnt k : Nat} {w : World} {v : Value} {L : List Reg} (h : RM F w v L cnt) (hs : SizedM L cnt k) (hk : k ≤ 100) (ci ce : Int) (A : Acc) (hF : ∀ b, w.heap.size ≤ b → F b) : Calls Try.prog 32 #[v, .agg #[.int .i64 ci, .int .u64 ce], .agg #[.int .i64 A.op, .int .i64 A.at_, .int .u64 A.x, .int .u64 A.y]] w fun e w' =>
    ∃ (wa : Option Addr) (wl wk : Nat) (ea : Option Addr) (el ec : Nat) (cq : Int), e = .returned (.tuple #[.agg #[.slice wa wl wk, .slice ea el ec, .int .i64 cq], .int .u64 (doJ L ci ce A).v, .bool (doJ L ci ce A).ok]) ∧ RM F w' (.agg #[.slice wa wl wk, .slice ea el ec, .int .i64 cq]) (doJ L ci ce A).L (cnt + (doJ L ci ce A).d) ∧ Same w w' := by
  cases hok : okB L ci ce A.op A.at_ with
  | true =>
    have e : doJ L ci ce A = ⟨peekOf L ci A.at_, true, doL L ci.toNat A.at_.toNat A.op A.x A.y, 1⟩ := if_pos hok
    rw [e]
    refine (rdo_yes h hF ci ce A.op A.at_ A.x A.y hok (by have := hs.2.2; omega) (by have := hs.1; omega) (fun i hi => by have := (hs.2.1 i hi).1; omega)).mono ?_
    rintro e w' ⟨v', rfl, h2, hs2⟩
    obtain ⟨wa, wc, ea, ec, rfl⟩ := h2.form
    exact ⟨_, _, _, _, _, _, _, rfl, h2, hs2⟩
  | false =>
    have e : doJ L ci ce A = ⟨0, false, L, 0⟩ := if_neg (by simp [hok])
    rw [e]
    obtain ⟨wa, wc, ea, ec, rfl⟩ := h.form
    refine (rdo_no h ci ce A.op A.at_ A.x A.y hok).mono ?_
    rintro e w' ⟨rfl, hs'⟩
    exact ⟨_, _, _, _, _, _, _, rfl, h.same hs', hs'⟩

/-- What the reference's value rests on. -/
abbrev FM (lo hi bx b : Nat) : Prop := (b < lo ∨ hi ≤ b) ∧ b ≠ bx
/-- What the loop of MemPlays keeps. -/
def MLoop (lo hi p bx : Nat) (w0 : World) (k : Nat) (wr : World) : Prop :=
  ∃ L cnt x0 x1 x2, Mem lo hi wr p L cnt ∧ wr.heap[bx]? = some (.cells #[x0, x1, x2] 51) ∧ RM (FM lo hi bx) wr (.agg #[x0, x1, x2]) L cnt ∧ SizedM L cnt k ∧ Sep (fun q => (lo ≤ q ∧ q < hi) ∨ q = bx) w0 wr
theorem ArgC.keep {w w' : World} {a : Option Addr} {ls : List MCall} {S : Nat → Prop} (h : ArgC w a ls) (hs : Sep S w w') (hS : ∀ b, S b → w.heap.size ≤ b) {k : Nat} (hk : k < ls.length) :
    ∃ b off, a = some ⟨b, off, none⟩ ∧ b < w.heap.size ∧ w'.cell? ⟨b, off + k * 7, none⟩ = some (.int .i64 (ls.getD k default).kind) ∧ w'.cell? ⟨b, off + k * 7 + 1, none⟩ = some (.int .i64 (ls.getD k default).ci) ∧ w'.cell? ⟨b, off + k * 7 + 2, none⟩ = some (.int .u64 (ls.getD k default).ce) ∧
      w'.cell? ⟨b, off + k * 7 + 3, none⟩ = some (.int .i64 (ls.getD k default).A.op) ∧ w'.cell? ⟨b, off + k * 7 + 4, none⟩ = some (.int .i64 (ls.getD k default).A.at_) ∧ w'.cell? ⟨b, off + k * 7 + 5, none⟩ = some (.int .u64 (ls.getD k default).A.x) ∧ w'.cell? ⟨b, off + k * 7 + 6, none⟩ = some (.int .u64 (ls.getD k default).A.y) := by
  rcases h with rfl | ⟨b, off, rfl, hb, h1⟩
  · simp at hk
  · obtain ⟨k0, k1, k2, k3, k4, k5, k6⟩ := h1 k hk
    have n : ∀ j, ¬ S (⟨b, j, none⟩ : Addr).block := fun j h => by have := hS _ h; simp at this; omega
    exact ⟨b, off, rfl, hb, Sep.cell hs k0 (n _), Sep.cell hs k1 (n _), Sep.cell hs k2 (n _), Sep.cell hs k3 (n _), Sep.cell hs k4 (n _), Sep.cell hs k5 (n _), Sep.cell hs k6 (n _)⟩
/-- The reference's Bump is done. -/
def MBumped (F : Nat → Prop) (cnt : Nat) (rc re rf : Int) (RL : List Reg) (w3 : World) (s12 s13 s14 : Value) (wx : World) : Prop :=
  ∃ (b12 b13 : Nat) (wa : Option Addr) (wl wk : Nat) (ea : Option Addr) (el ec : Nat) (cq : Int), s12 = .pointer (some ⟨b12, 0, none⟩) ∧ s13 = .pointer (some ⟨b13, 0, none⟩) ∧ s14 = .int .i64 rf ∧ Same w3 wx ∧ w3.heap.size ≤ b12 ∧ w3.heap.size ≤ b13 ∧
    wx.heap[b12]? = some (.cells #[.slice wa wl wk, .slice ea el ec, .int .i64 cq] 51) ∧ wx.heap[b13]? = some (.cells #[.int .i64 rc, .int .u64 re] 33) ∧ RM F wx (.agg #[.slice wa wl wk, .slice ea el ec, .int .i64 cq]) RL cnt
/-- The reference's Do is done. -/
def MDone (F : Nat → Prop) (cnt : Nat) (rv : Int) (rk : Bool) (RL : List Reg) (w3 : World) (s17 s18 s19 : Value) (wx : World) : Prop :=
  ∃ (b17 : Nat) (wa : Option Addr) (wl wk : Nat) (ea : Option Addr) (el ec : Nat) (cq : Int), s17 = .pointer (some ⟨b17, 0, none⟩) ∧ s18 = .int .u64 rv ∧ s19 = .bool rk ∧ Same w3 wx ∧ w3.heap.size ≤ b17 ∧
    wx.heap[b17]? = some (.cells #[.slice wa wl wk, .slice ea el ec, .int .i64 cq] 51) ∧ RM F wx (.agg #[.slice wa wl wk, .slice ea el ec, .int .i64 cq]) RL cnt

set_option maxRecDepth 100000 in
set_option maxHeartbeats 2000000 in
theorem mplays_long (a0 : Option Addr) (n0 c0 : Nat) (a1 : Option Addr) (n1 c1 : Nat) (zs : List Int) (hn : n0 = zs.length) (h : 60 < n1) (w : World) (r0 : RowI w a0 zs) : Calls Try.prog 8 #[.slice a0 n0 c0, .slice a1 n1 c1] w fun e w' => e = .returned (.bool true) ∧ Below w.heap.size w w' := by
  have HN := Lib.hid hn
  have R0 := Lib.hid r0
  have h60 : (60 : Int) < (n1 : Int) := by omega
  clear hn r0
  go_enter Try.func8, Try.ntmps8
  go_wp2_with fail
  refine (awake_ok _).mono ?_
  rintro e w0 ⟨rfl, bel0⟩
  go_wp2_with fail
  refine (few2_any a0 n0 c0 zs w0 HN.out (RowI.same R0.out (same_of_below bel0))).mono ?_
  rintro e w1 ⟨r, rfl, rfl, hr⟩
  cases r
  · go_wp2_with fail
    refine (awake_ok _).mono ?_
    rintro e w2 ⟨rfl, bel2⟩
    go_wp2
    go_ret
    exact ⟨rfl, bel0.trans (bel2.mono bel0.size)⟩
  · go_wp2_with fail
    refine (awake_ok _).mono ?_
    rintro e w2 ⟨rfl, bel2⟩
    go_wp2
    go_ret
    exact ⟨rfl, bel0.trans (bel2.mono bel0.size)⟩

set_option maxRecDepth 100000 in
set_option maxHeartbeats 8000000 in
theorem mplays_walk (a0 : Option Addr) (c0 : Nat) (zs : List Int) (a1 : Option Addr) (c1 : Nat) (ls : List MCall) (h60 : ls.length ≤ 60) (w : World) (r0 : RowI w a0 zs) (q0 : ArgC w a1 ls) : Calls Try.prog 8 #[.slice a0 zs.length c0, .slice a1 ls.length c1] w fun e w' => e = .returned (.bool true) ∧ Below w.heap.size w w' := by
  obtain ⟨n, hn⟩ : ∃ n, n = ls.length := ⟨_, rfl⟩
  obtain ⟨nz, hnz⟩ : ∃ n, n = zs.length := ⟨_, rfl⟩
  have Q0 := Lib.hid q0
  have R0 := Lib.hid r0
  rw [← hn] at h60 ⊢
  rw [← hnz]
  have h60' : ¬ (60 < (n : Int)) := by omega
  have HN := Lib.hid hn
  have HNZ := Lib.hid hnz
  clear q0 r0 hn hnz
  go_enter Try.func8, Try.ntmps8
  go_wp2_with fail
  refine (awake_ok _).mono ?_
  rintro e w0 ⟨rfl, bel0⟩
  have hs0 := same_of_below bel0
  clear bel0
  go_wp2_with fail
  refine (few2_any a0 nz c0 zs w0 HNZ.out (RowI.same R0.out hs0)).mono ?_
  rintro e w1 ⟨r, rfl, rfl, hr⟩
  cases r with
  | false =>
    go_wp2_with fail
    refine (awake_ok _).mono ?_
    rintro e w2 ⟨rfl, bel2⟩
    go_wp2
    go_ret
    exact ⟨rfl, hs0.below.trans (bel2.mono hs0.size)⟩
  | true =>
  obtain ⟨h66, h200⟩ := hr rfl
  have hsm := small_sizes h66 h200
  have H200 := Lib.hid h200
  clear hr h66 h200
  rcases hsm with ⟨hok, h65, hnn⟩ | ⟨hbad, hrbad⟩
  rotate_left
  · have HBAD := Lib.hid hbad
    have HRBAD := Lib.hid hrbad
    clear hbad hrbad
    go_wp2_with fail
    rw [HNZ.out]
    refine (new_no a0 c0 zs w0 (RowI.same R0.out hs0) HBAD.out).mono ?_
    rintro e w1 ⟨rfl, rfl⟩
    go_wp2_with fail
    refine (rnew_no a0 c0 zs w0 (RowI.same R0.out hs0) HRBAD.out).mono ?_
    rintro e w2 ⟨rfl, hs2⟩
    go_wp2
    go_ret
    exact ⟨rfl, Same.below ((hs0.trans hs2).trans (Sep.alloc _ _ _))⟩
  have HOK := Lib.hid hok
  have HNN := Lib.hid hnn
  have H65 := Lib.hid h65
  clear hok hnn h65
  go_wp2_with fail
  rw [HNZ.out]
  refine (new_ok a0 c0 zs w0 (RowI.same R0.out hs0) HOK.out).mono ?_
  rintro e w1 ⟨p, rfl, hm1, hs1⟩
  have hs01 := hs0.trans hs1
  obtain ⟨lo, hlo⟩ : ∃ x, x = w0.heap.size := ⟨_, rfl⟩
  obtain ⟨hi, hhi⟩ : ∃ x, x = w1.heap.size := ⟨_, rfl⟩
  rw [← hlo, ← hhi] at hm1
  have hlow : w.heap.size ≤ lo := by rw [hlo]; exact hs0.size
  have HLOW : Hid (w.heap.size ≤ lo) := hlow
  have HM1 := Lib.hid hm1
  have HS01 := Lib.hid hs01
  have HHI := Lib.hid hhi
  clear hm1 hs01 hlo hhi hlow hs0 hs1
  go_wp2_with fail
  refine (rnew_ok (F := fun b => hi ≤ b) a0 c0 zs w1 (fun b hb => by have := HHI.out; omega) (RowI.same R0.out HS01.out) HOK.out).mono ?_
  rintro e w2 ⟨v, rfl, hrm2, hs2⟩
  obtain ⟨L0, hL0⟩ : ∃ L, L = zs.map fun z => (⟨List.replicate z.toNat 0, 1⟩ : Reg) := ⟨_, rfl⟩
  rw [← hL0] at hrm2
  obtain ⟨wa, wk, ea, ec, rfl⟩ := hrm2.form
  obtain ⟨nL, hnL⟩ : ∃ x, x = L0.length := ⟨_, rfl⟩
  rw [← hnL] at hrm2 ⊢
  obtain ⟨bx, hbx⟩ : ∃ b, b = w2.heap.size := ⟨_, rfl⟩
  obtain ⟨W2, hW2⟩ : ∃ x, x = w2.alloc (.cells #[.slice wa nL wk, .slice ea nL ec, .int .i64 ((0 : Nat) : Int)] 51) := ⟨_, rfl⟩
  have hobx : W2.heap[bx]? = some (.cells #[.slice wa nL wk, .slice ea nL ec, .int .i64 ((0 : Nat) : Int)] 51) := by rw [hW2, hbx]; exact heap_alloc_new _ _
  have hsW2 : Same w2 W2 := by rw [hW2]; exact Sep.alloc _ _ _
  have hML : MLoop lo hi p bx w 0 W2 := by
    have hm1 := HM1.out
    rw [← hL0] at hm1
    refine ⟨L0, 0, _, _, _, hm1.same (hs2.trans hsW2), hobx, ?_, ⟨by rw [hL0]; simpa using H65.out, fun i hi' => ?_, by omega⟩, Same.sep (HS01.out.trans (hs2.trans hsW2)) _⟩
    · exact (hrm2.imp (G := FM lo hi bx) (fun b hb hlt => ⟨.inr hb, by omega⟩)).same hsW2
    · have hiz : i < zs.length := by rw [hL0] at hi'; simpa using hi'
      have e : L0.getD i default = ⟨List.replicate (zs.getD i 0).toNat 0, 1⟩ := by rw [hL0]; simp [List.getD, hiz]
      rw [e]
      have := H200.out i hiz
      exact ⟨by show (List.replicate _ _).length ≤ 200; rw [List.length_replicate]; omega, by simp⟩
  have HML := Lib.hid hML
  have HW2 := Lib.hid hW2
  have HBX := Lib.hid hbx
  have hbxi : Hid (hi ≤ bx) := by have := HHI.out; have := hs2.size; show _ ≤ _; omega
  clear hML hW2 hbx hobx hsW2 hrm2 hs2 hL0 hnL
  rw [show ((0 : Nat) : Int) = 0 from rfl] at HW2 ⊢
  go_wp2
  rw [← HBX.out, ← HW2.out]
  go_loopw [9] (fun i wr => ∃ k : Nat, k ≤ n ∧ i = .int .i64 k ∧ MLoop lo hi p bx w k wr) (fun i _ => n - (intOf i).toNat)
  case atStart => exact ⟨0, by omega, rfl, HML.out⟩
  case round =>
    clear HML
    obtain ⟨k, hk, rfl, L, cnt, x0, x1, x2, hM, hox, hrm, hS, hin⟩ := hrel
    have HMM := Lib.hid hM
    have HOX := Lib.hid hox
    have HRM := Lib.hid hrm
    have HS := Lib.hid hS
    have HIN := Lib.hid hin
    have HLE := Lib.hid hM.le
    have HBW : Hid (bx < wr.heap.size) := lt_of_block hox
    have HFM : Hid (∀ q, wr.heap.size ≤ q → FM lo hi bx q) := fun q hq => by have := HLE.out; have := HBW.out; omega
    by_cases hlt : k < n
    · have hkl : k < ls.length := by rw [← HN.out]; exact hlt
      obtain ⟨b, off, rfl, hbw, cK, e0, e1, a0', a1', a2', a3'⟩ := Q0.out.keep hin (fun q hq => by have := HLOW.out; have := hbxi.out; have := HM1.out.lop; omega) hkl
      obtain ⟨kd, hkd⟩ : ∃ x, x = (ls.getD k default).kind := ⟨_, rfl⟩
      obtain ⟨ci, hci⟩ : ∃ x, x = (ls.getD k default).ci := ⟨_, rfl⟩
      obtain ⟨ce, hce⟩ : ∃ x, x = (ls.getD k default).ce := ⟨_, rfl⟩
      obtain ⟨A, hA⟩ : ∃ x, x = (ls.getD k default).A := ⟨_, rfl⟩
      rw [← hkd] at cK
      rw [← hci] at e0
      rw [← hce] at e1
      rw [← hA] at a0' a1' a2' a3'
      have HBLO : Hid (b < lo) := by have := HLOW.out; show b < lo; omega
      clear hkd hci hce hA hkl hbw hM hrm hS hin
      by_cases h1 : kd = 1
      · subst h1
        clear hox e1 a0' a1' a2' a3'
        have E0 := Lib.hid e0
        go_wp2_with fail
        refine (mbump HMM.out HS.out (by omega) ci).mono ?_
        obtain ⟨R, hR⟩ : ∃ R, R = bumpJ L ci := ⟨_, rfl⟩
        obtain ⟨rc, hrc⟩ : ∃ x, x = R.c := ⟨_, rfl⟩
        obtain ⟨re, hre⟩ : ∃ x, x = R.e := ⟨_, rfl⟩
        obtain ⟨rf, hrf⟩ : ∃ x, x = R.f := ⟨_, rfl⟩
        rw [← hR, ← hrc, ← hre, ← hrf]
        rintro e w3 ⟨rfl, hm3, hs3⟩
        obtain ⟨b10, hb10⟩ : ∃ b, b = w3.heap.size := ⟨_, rfl⟩
        obtain ⟨W3, hW3⟩ : ∃ x, x = w3.alloc (.cells #[.int .i64 rc, .int .u64 re] 33) := ⟨_, rfl⟩
        have ob10 : W3.heap[b10]? = some (.cells #[.int .i64 rc, .int .u64 re] 33) := by rw [hW3, hb10]; exact heap_alloc_new _ _
        have hsW3 : Same w3 W3 := by rw [hW3]; exact Sep.alloc _ _ _
        have hs3W : In lo hi wr W3 := hs3.trans (Same.sep hsW3 _)
        have ox3 := Sep.obj hs3W HOX.out (by have := hbxi.out; omega)
        have HE0 := Lib.hid (Sep.cell hs3W E0.out (by have := HBLO.out; simp; omega))
        have HM3 := Lib.hid (hm3.same hsW3)
        have HRM3 := Lib.hid (HRM.out.stay hs3W (fun b hb _ h => by omega))
        have HOX3 := Lib.hid ox3
        have HS3 := Lib.hid hs3W
        have HW3 := Lib.hid hW3
        have HB10 := Lib.hid hb10
        have OB10 := Lib.hid ob10
        have HR := Lib.hid hR
        have HRC := Lib.hid hrc
        have HRE := Lib.hid hre
        have HRF := Lib.hid hrf
        have HFM3 : Hid (∀ q, W3.heap.size ≤ q → FM lo hi bx q) := fun q hq => HFM.out q (Nat.le_trans hs3W.size hq)
        have HG10 : Hid (wr.heap.size ≤ b10) := by rw [hb10]; exact hs3.size
        obtain ⟨m0, m1, m2, mf⟩ := cells3x ox3
        clear hm3 hs3 hs3W ox3 hW3 hb10 ob10 hsW3 hR hrc hre hrf e0 mf
        have e0 := HE0.out
        clear cK
        go_upto_region 14 with fail
        rw [← HB10.out, ← HW3.out]
        go_cut [12, 13, 14] from 57 to 155 (fun s12 s13 s14 wx => MBumped (FM lo hi bx) cnt rc re rf R.L W3 s12 s13 s14 wx)
        case first =>
          refine wp_region_held_drew (S := (fun v => v.cell? ⟨bx, 0, none⟩ = some (x0) ∧ v.cell? ⟨bx, 1, none⟩ = some (x1) ∧ v.cell? ⟨bx, 2, none⟩ = some (x2) ∧ v.cell? ⟨b, off + k * 7 + 1, none⟩ = some (.int .i64 ci) ∧ Same W3 v)) (by kernel_rfl) ?_ (fun hHeld => ?_)
          · exact ⟨(Sep.drew (fun _ => False) W3).cell m0 (fun x => x), (Sep.drew (fun _ => False) W3).cell m1 (fun x => x), (Sep.drew (fun _ => False) W3).cell m2 (fun x => x), (Sep.drew (fun _ => False) W3).cell e0 (fun x => x), Sep.drew _ _⟩
          change wpAnyH _ _ _ _ _ 17 _ _ _
          refine wpAnyH_take (i := 0) (oi := ⟨some 81, _, _, _, _, _⟩) (v := ?v1) rfl (by kernel_rfl) (by kernel_rfl) (by kernel_rfl) (fun _ _ _ h => h) (Or.inl ⟨by kernel_rfl, ?h1⟩) hHeld ?_
          case h1 => intro w hSw; (try dsimp only at hSw); go_simp; try with_reducible rfl
          try simp only [Act.put, List.setIfInBounds_toArray, List.set_cons_zero, List.set_cons_succ]
          refine wpAnyH_take (i := 1) (oi := ⟨some 82, _, _, _, _, _⟩) (v := ?v2) rfl (by kernel_rfl) (by kernel_rfl) (by kernel_rfl) (fun _ _ _ h => h) (Or.inl ⟨by kernel_rfl, ?h2⟩) hHeld ?_
          case h2 => intro w hSw; (try dsimp only at hSw); go_simp; try with_reducible rfl
          try simp only [Act.put, List.setIfInBounds_toArray, List.set_cons_zero, List.set_cons_succ]
          refine wpAnyH_take (i := 2) (oi := ⟨some 83, _, _, _, _, _⟩) (v := ?v3) rfl (by kernel_rfl) (by kernel_rfl) (by kernel_rfl) (fun _ _ _ h => h) (Or.inl ⟨by kernel_rfl, ?h3⟩) hHeld ?_
          case h3 => intro w hSw; (try dsimp only at hSw); go_simp; try with_reducible rfl
          try simp only [Act.put, List.setIfInBounds_toArray, List.set_cons_zero, List.set_cons_succ]
          refine wpAnyH_take (i := 3) (oi := ⟨some 84, _, _, _, _, _⟩) (v := ?v4) rfl (by kernel_rfl) (by kernel_rfl) (by kernel_rfl) (fun _ _ _ h => h) (Or.inl ⟨by kernel_rfl, ?h4⟩) hHeld ?_
          case h4 => intro w hSw; (try dsimp only at hSw); go_simp; try with_reducible rfl
          try simp only [Act.put, List.setIfInBounds_toArray, List.set_cons_zero, List.set_cons_succ]
          refine wpAnyH_take (i := 4) (oi := ⟨some 85, _, _, _, _, _⟩) (v := ?v5) rfl (by kernel_rfl) (by kernel_rfl) (by kernel_rfl) (fun _ _ _ h => h) (Or.inl ⟨by kernel_rfl, ?h5⟩) hHeld ?_
          case h5 => intro w hSw; (try dsimp only at hSw); go_simp; try with_reducible rfl
          try simp only [Act.put, List.setIfInBounds_toArray, List.set_cons_zero, List.set_cons_succ]
          refine wpAnyH_take (i := 5) (oi := ⟨some 86, _, _, _, _, _⟩) (v := ?v6) rfl (by kernel_rfl) (by kernel_rfl) (by kernel_rfl) (fun _ _ _ h => h) (Or.inl ⟨by kernel_rfl, ?h6⟩) hHeld ?_
          case h6 => intro w hSw; (try dsimp only at hSw); go_simp; try with_reducible rfl
          try simp only [Act.put, List.setIfInBounds_toArray, List.set_cons_zero, List.set_cons_succ]
          refine wpAnyH_take (i := 6) (oi := ⟨some 87, _, _, _, _, _⟩) (v := ?v7) rfl (by kernel_rfl) (by kernel_rfl) (by kernel_rfl) (fun _ _ _ h => h) (Or.inl ⟨by kernel_rfl, ?h7⟩) hHeld ?_
          case h7 => intro w hSw; (try dsimp only at hSw); go_simp; try with_reducible rfl
          try simp only [Act.put, List.setIfInBounds_toArray, List.set_cons_zero, List.set_cons_succ]
          refine wpAnyH_ready (rs := [7, 12, 13]) (by kernel_rfl) (by simp) ?_
          refine AllReadyH.cons (o := ⟨some 88, _, _, _, _, _⟩) rfl (fun K hK => ?_) ?_
          ·
            rw [if_pos (by kernel_rfl)]
            go_simp
            refine ((rbump_any (F := fun q => FM lo hi bx q) ((HRM3.out.imp (fun q hq hlt => hq)).same (Sep.drew (fun _ => False) W3)) HS.out (by omega) ci (fun q hq => by have := Sep.size (Sep.drew (fun _ => False) W3); exact HFM3.out q (by omega)))).mono ?_
            rw [← HR.out, ← HRC.out, ← HRE.out, ← HRF.out]
            rintro e wS28 ⟨wa', wl, wk', ea', el, ec', cq, rfl, rm28, hsS⟩
            have hS28 : Same W3 wS28 := Sep.trans (Sep.drew (fun _ => False) W3) hsS
            refine hK.out _ _ ?_ (fun hHeld => ?_)
            · exact ⟨Same.cell hS28 m0, Same.cell hS28 m1, Same.cell hS28 m2, Same.cell hS28 e0, hS28⟩
            clear hK K
            try simp only [Act.put, List.setIfInBounds_toArray, List.set_cons_zero, List.set_cons_succ]
            refine wpAnyH_take (i := 8) (oi := ⟨some 80, _, _, _, _, _⟩) (v := ?v8) rfl (by kernel_rfl) (by kernel_rfl) (by kernel_rfl) (fun _ _ _ h => h) (Or.inl ⟨by kernel_rfl, ?h8⟩) hHeld ?_
            case h8 => intro w hSw; (try dsimp only at hSw); go_simp; try with_reducible rfl
            try simp only [Act.put, List.setIfInBounds_toArray, List.set_cons_zero, List.set_cons_succ]
            refine wpAnyH_take (i := 9) (oi := ⟨some 89, _, _, _, _, _⟩) (v := ?v9) rfl (by kernel_rfl) (by kernel_rfl) (by kernel_rfl) (fun _ _ _ h => h) (Or.inl ⟨by kernel_rfl, ?h9⟩) hHeld ?_
            case h9 => intro w hSw; (try dsimp only at hSw); go_simp; try with_reducible rfl
            try simp only [Act.put, List.setIfInBounds_toArray, List.set_cons_zero, List.set_cons_succ]
            refine wpAnyH_take (i := 10) (oi := ⟨some 90, _, _, _, _, _⟩) (v := ?v10) rfl (by kernel_rfl) (by kernel_rfl) (by kernel_rfl) (fun _ _ _ h => h) (Or.inl ⟨by kernel_rfl, ?h10⟩) hHeld ?_
            case h10 => intro w hSw; (try dsimp only at hSw); go_simp; try with_reducible rfl
            try simp only [Act.put, List.setIfInBounds_toArray, List.set_cons_zero, List.set_cons_succ]
            refine wpAnyH_take (i := 11) (oi := ⟨some 91, _, _, _, _, _⟩) (v := ?v11) rfl (by kernel_rfl) (by kernel_rfl) (by kernel_rfl) (fun _ _ _ h => h) (Or.inl ⟨by kernel_rfl, ?h11⟩) hHeld ?_
            case h11 => intro w hSw; (try dsimp only at hSw); go_simp; try with_reducible rfl
            try simp only [Act.put, List.setIfInBounds_toArray, List.set_cons_zero, List.set_cons_succ]
            refine wpAnyH_ready (rs := [12, 13]) (by kernel_rfl) (by simp) ?_
            refine AllReadyH.cons (o := ⟨some 12, _, _, _, _, _⟩) rfl (fun K hK => ?_) ?_
            ·
              rw [if_pos (by kernel_rfl)]
              go_simp
              obtain ⟨wA46, hwA⟩ : ∃ x, x = wS28.alloc (.cells #[.slice none 0 0, .slice none 0 0, .int .i64 0] 51) := ⟨_, rfl⟩
              rw [← hwA]
              have hA46 : Same wS28 wA46 := by rw [hwA]; exact Sep.alloc _ _ _
              have obb12_46 : wA46.heap[wS28.heap.size]? = some (.cells #[.slice none 0 0, .slice none 0 0, .int .i64 0] 51) := by rw [hwA]; exact heap_alloc_new _ _
              obtain ⟨b12, hb⟩ : ∃ b, b = wS28.heap.size := ⟨_, rfl⟩
              have hF46 : Same W3 wA46 := Sep.trans (hS28) hA46
              have gl46 : wS28.heap.size ≤ b12 := by omega
              have gb12 : W3.heap.size ≤ b12 := by have := Sep.size (hS28); omega
              have rm46 := (rm28.imp (G := fun q => (FM lo hi bx q ∧ q ≠ b12)) (fun q hq hlt => ⟨hq, by omega⟩)).same hA46
              rw [← hb] at obb12_46 ⊢
              clear hwA hb
              refine hK.out _ _ ?_ (fun hHeld => ?_)
              · exact ⟨Same.cell hF46 m0, Same.cell hF46 m1, Same.cell hF46 m2, Same.cell hF46 e0, hF46⟩
              clear hK K
              try simp only [Act.put, List.setIfInBounds_toArray, List.set_cons_zero, List.set_cons_succ]
              refine wpAnyH_ready (rs := [13]) (by kernel_rfl) (by simp) ?_
              refine AllReadyH.cons (o := ⟨some 13, _, _, _, _, _⟩) rfl (fun K hK => ?_) AllReadyH.nil
              rw [if_pos (by kernel_rfl)]
              go_simp
              obtain ⟨wA48, hwA⟩ : ∃ x, x = wA46.alloc (.cells #[.int .i64 0, .int .u64 0] 33) := ⟨_, rfl⟩
              rw [← hwA]
              have hA48 : Same wA46 wA48 := by rw [hwA]; exact Sep.alloc _ _ _
              have obb13_48 : wA48.heap[wA46.heap.size]? = some (.cells #[.int .i64 0, .int .u64 0] 33) := by rw [hwA]; exact heap_alloc_new _ _
              obtain ⟨b13, hb⟩ : ∃ b, b = wA46.heap.size := ⟨_, rfl⟩
              have hF48 : Same W3 wA48 := Sep.trans (hF46) hA48
              have gl48 : wA46.heap.size ≤ b13 := by omega
              have gb13 : W3.heap.size ≤ b13 := by have := Sep.size (hF46); omega
              have nb12_48 : ¬ b13 = b12 := by have := lt_of_block obb12_46; omega
              have obb12_48 := Same.obj hA48 obb12_46
              have rm48 := (rm46.imp (G := fun q => ((FM lo hi bx q ∧ q ≠ b12) ∧ q ≠ b13)) (fun q hq hlt => ⟨hq, by omega⟩)).same hA48
              rw [← hb] at obb13_48 ⊢
              clear hwA hb
              refine hK.out _ _ ?_ (fun hHeld => ?_)
              · exact ⟨Same.cell hF48 m0, Same.cell hF48 m1, Same.cell hF48 m2, Same.cell hF48 e0, hF48⟩
              clear hK K
              try simp only [Act.put, List.setIfInBounds_toArray, List.set_cons_zero, List.set_cons_succ]
              refine wpAnyH_ready (rs := [14]) (by kernel_rfl) (by simp) ?_
              refine AllReadyH.cons (o := ⟨none, _, _, _, _, _⟩) rfl (fun K hK => ?_) AllReadyH.nil
              obtain ⟨t0, t1, t2, tf⟩ := cells3x obb12_48
              rw [if_pos (by kernel_rfl)]
              go_simp
              obtain ⟨wT50, hwT⟩ : ∃ x, x = (((wA48.setCell ⟨b12, 0, none⟩ (.slice wa' wl wk')).setCell ⟨b12, 1, none⟩ (.slice ea' el ec')).setCell ⟨b12, 2, none⟩ (.int .i64 cq)) := ⟨_, rfl⟩
              rw [← hwT]
              have h7 : Sep (fun k => k = b12) wA48 wT50 := by rw [hwT]; exact sep3 _ _ _ _ _
              have obb12_50 : wT50.heap[b12]? = some (.cells #[(.slice wa' wl wk'), (.slice ea' el ec'), (.int .i64 cq)] 51) := by rw [hwT]; exact heap3 obb12_48 rfl
              have hT50 : Same W3 wT50 := same_then hF48 gb12 h7
              have obb13_50 := h7.obj obb13_48 (show ¬ b13 = b12 by omega)
              have rm50 := rm48.stay h7 (fun q hq _ e => by omega)
              clear hwT h7
              refine hK.out _ _ ?_ (fun hHeld => ?_)
              · exact ⟨Same.cell hT50 m0, Same.cell hT50 m1, Same.cell hT50 m2, Same.cell hT50 e0, hT50⟩
              clear hK K
              try simp only [Act.put, List.setIfInBounds_toArray, List.set_cons_zero, List.set_cons_succ]
              refine wpAnyH_ready (rs := [15]) (by kernel_rfl) (by simp) ?_
              refine AllReadyH.cons (o := ⟨none, _, _, _, _, _⟩) rfl (fun K hK => ?_) AllReadyH.nil
              obtain ⟨t0, t1, tf⟩ := cells2 obb13_50
              rw [if_pos (by kernel_rfl)]
              go_simp
              obtain ⟨wT52, hwT⟩ : ∃ x, x = ((wT50.setCell ⟨b13, 0, none⟩ (.int .i64 rc)).setCell ⟨b13, 1, none⟩ (.int .u64 re)) := ⟨_, rfl⟩
              rw [← hwT]
              have h7 : Sep (fun k => k = b13) wT50 wT52 := by rw [hwT]; exact sep2b _ _ _ _
              have obb13_52 : wT52.heap[b13]? = some (.cells #[(.int .i64 rc), (.int .u64 re)] 33) := by rw [hwT]; exact (show _ = _ by rw [heap_set_same (heap_set_same obb13_50)]; rfl)
              have hT52 : Same W3 wT52 := same_then hT50 gb13 h7
              have obb12_52 := h7.obj obb12_50 (show ¬ b12 = b13 by omega)
              have rm52 := rm50.stay h7 (fun q hq _ e => by omega)
              clear hwT h7
              refine hK.out _ _ ?_ (fun hHeld => ?_)
              · exact ⟨Same.cell hT52 m0, Same.cell hT52 m1, Same.cell hT52 m2, Same.cell hT52 e0, hT52⟩
              clear hK K
              try simp only [Act.put, List.setIfInBounds_toArray, List.set_cons_zero, List.set_cons_succ]
              refine wpAnyH_take (i := 16) (oi := ⟨some 14, _, _, _, _, _⟩) (v := ?v12) rfl (by kernel_rfl) (by kernel_rfl) (by kernel_rfl) (fun _ _ _ h => h) (Or.inl ⟨by kernel_rfl, ?h12⟩) hHeld ?_
              case h12 => intro w hSw; (try dsimp only at hSw); go_simp; try with_reducible rfl
              try simp only [Act.put, List.setIfInBounds_toArray, List.set_cons_zero, List.set_cons_succ]
              refine wpAnyH_done (by kernel_rfl) ?_ _
              clear hHeld
              go_wp2
              go_meet
              case rel =>
                exact ⟨b12, b13, _, _, _, _, _, _, _, rfl, rfl, rfl, hT52, gb12, gb13, obb12_52, obb13_52, rm52.imp (fun q hq _ => by omega)⟩
            refine AllReadyH.cons (o := ⟨some 13, _, _, _, _, _⟩) rfl (fun K hK => ?_) AllReadyH.nil
            ·
              rw [if_pos (by kernel_rfl)]
              go_simp
              obtain ⟨wA54, hwA⟩ : ∃ x, x = wS28.alloc (.cells #[.int .i64 0, .int .u64 0] 33) := ⟨_, rfl⟩
              rw [← hwA]
              have hA54 : Same wS28 wA54 := by rw [hwA]; exact Sep.alloc _ _ _
              have obb13_54 : wA54.heap[wS28.heap.size]? = some (.cells #[.int .i64 0, .int .u64 0] 33) := by rw [hwA]; exact heap_alloc_new _ _
              obtain ⟨b13, hb⟩ : ∃ b, b = wS28.heap.size := ⟨_, rfl⟩
              have hF54 : Same W3 wA54 := Sep.trans (hS28) hA54
              have gl54 : wS28.heap.size ≤ b13 := by omega
              have gb13 : W3.heap.size ≤ b13 := by have := Sep.size (hS28); omega
              have rm54 := (rm28.imp (G := fun q => (FM lo hi bx q ∧ q ≠ b13)) (fun q hq hlt => ⟨hq, by omega⟩)).same hA54
              rw [← hb] at obb13_54 ⊢
              clear hwA hb
              refine hK.out _ _ ?_ (fun hHeld => ?_)
              · exact ⟨Same.cell hF54 m0, Same.cell hF54 m1, Same.cell hF54 m2, Same.cell hF54 e0, hF54⟩
              clear hK K
              try simp only [Act.put, List.setIfInBounds_toArray, List.set_cons_zero, List.set_cons_succ]
              refine wpAnyH_ready (rs := [12]) (by kernel_rfl) (by simp) ?_
              refine AllReadyH.cons (o := ⟨some 12, _, _, _, _, _⟩) rfl (fun K hK => ?_) AllReadyH.nil
              rw [if_pos (by kernel_rfl)]
              go_simp
              obtain ⟨wA56, hwA⟩ : ∃ x, x = wA54.alloc (.cells #[.slice none 0 0, .slice none 0 0, .int .i64 0] 51) := ⟨_, rfl⟩
              rw [← hwA]
              have hA56 : Same wA54 wA56 := by rw [hwA]; exact Sep.alloc _ _ _
              have obb12_56 : wA56.heap[wA54.heap.size]? = some (.cells #[.slice none 0 0, .slice none 0 0, .int .i64 0] 51) := by rw [hwA]; exact heap_alloc_new _ _
              obtain ⟨b12, hb⟩ : ∃ b, b = wA54.heap.size := ⟨_, rfl⟩
              have hF56 : Same W3 wA56 := Sep.trans (hF54) hA56
              have gl56 : wA54.heap.size ≤ b12 := by omega
              have gb12 : W3.heap.size ≤ b12 := by have := Sep.size (hF54); omega
              have nb13_56 : ¬ b12 = b13 := by have := lt_of_block obb13_54; omega
              have obb13_56 := Same.obj hA56 obb13_54
              have rm56 := (rm54.imp (G := fun q => ((FM lo hi bx q ∧ q ≠ b13) ∧ q ≠ b12)) (fun q hq hlt => ⟨hq, by omega⟩)).same hA56
              rw [← hb] at obb12_56 ⊢
              clear hwA hb
              refine hK.out _ _ ?_ (fun hHeld => ?_)
              · exact ⟨Same.cell hF56 m0, Same.cell hF56 m1, Same.cell hF56 m2, Same.cell hF56 e0, hF56⟩
              clear hK K
              try simp only [Act.put, List.setIfInBounds_toArray, List.set_cons_zero, List.set_cons_succ]
              refine wpAnyH_ready (rs := [14]) (by kernel_rfl) (by simp) ?_
              refine AllReadyH.cons (o := ⟨none, _, _, _, _, _⟩) rfl (fun K hK => ?_) AllReadyH.nil
              obtain ⟨t0, t1, t2, tf⟩ := cells3x obb12_56
              rw [if_pos (by kernel_rfl)]
              go_simp
              obtain ⟨wT58, hwT⟩ : ∃ x, x = (((wA56.setCell ⟨b12, 0, none⟩ (.slice wa' wl wk')).setCell ⟨b12, 1, none⟩ (.slice ea' el ec')).setCell ⟨b12, 2, none⟩ (.int .i64 cq)) := ⟨_, rfl⟩
              rw [← hwT]
              have h7 : Sep (fun k => k = b12) wA56 wT58 := by rw [hwT]; exact sep3 _ _ _ _ _
              have obb12_58 : wT58.heap[b12]? = some (.cells #[(.slice wa' wl wk'), (.slice ea' el ec'), (.int .i64 cq)] 51) := by rw [hwT]; exact heap3 obb12_56 rfl
              have hT58 : Same W3 wT58 := same_then hF56 gb12 h7
              have obb13_58 := h7.obj obb13_56 (show ¬ b13 = b12 by omega)
              have rm58 := rm56.stay h7 (fun q hq _ e => by omega)
              clear hwT h7
              refine hK.out _ _ ?_ (fun hHeld => ?_)
              · exact ⟨Same.cell hT58 m0, Same.cell hT58 m1, Same.cell hT58 m2, Same.cell hT58 e0, hT58⟩
              clear hK K
              try simp only [Act.put, List.setIfInBounds_toArray, List.set_cons_zero, List.set_cons_succ]
              refine wpAnyH_ready (rs := [15]) (by kernel_rfl) (by simp) ?_
              refine AllReadyH.cons (o := ⟨none, _, _, _, _, _⟩) rfl (fun K hK => ?_) AllReadyH.nil
              obtain ⟨t0, t1, tf⟩ := cells2 obb13_58
              rw [if_pos (by kernel_rfl)]
              go_simp
              obtain ⟨wT60, hwT⟩ : ∃ x, x = ((wT58.setCell ⟨b13, 0, none⟩ (.int .i64 rc)).setCell ⟨b13, 1, none⟩ (.int .u64 re)) := ⟨_, rfl⟩
              rw [← hwT]
              have h7 : Sep (fun k => k = b13) wT58 wT60 := by rw [hwT]; exact sep2b _ _ _ _
              have obb13_60 : wT60.heap[b13]? = some (.cells #[(.int .i64 rc), (.int .u64 re)] 33) := by rw [hwT]; exact (show _ = _ by rw [heap_set_same (heap_set_same obb13_58)]; rfl)
              have hT60 : Same W3 wT60 := same_then hT58 gb13 h7
              have obb12_60 := h7.obj obb12_58 (show ¬ b12 = b13 by omega)
              have rm60 := rm58.stay h7 (fun q hq _ e => by omega)
              clear hwT h7
              refine hK.out _ _ ?_ (fun hHeld => ?_)
              · exact ⟨Same.cell hT60 m0, Same.cell hT60 m1, Same.cell hT60 m2, Same.cell hT60 e0, hT60⟩
              clear hK K
              try simp only [Act.put, List.setIfInBounds_toArray, List.set_cons_zero, List.set_cons_succ]
              refine wpAnyH_take (i := 16) (oi := ⟨some 14, _, _, _, _, _⟩) (v := ?v13) rfl (by kernel_rfl) (by kernel_rfl) (by kernel_rfl) (fun _ _ _ h => h) (Or.inl ⟨by kernel_rfl, ?h13⟩) hHeld ?_
              case h13 => intro w hSw; (try dsimp only at hSw); go_simp; try with_reducible rfl
              try simp only [Act.put, List.setIfInBounds_toArray, List.set_cons_zero, List.set_cons_succ]
              refine wpAnyH_done (by kernel_rfl) ?_ _
              clear hHeld
              go_wp2
              go_meet
              case rel =>
                exact ⟨b12, b13, _, _, _, _, _, _, _, rfl, rfl, rfl, hT60, gb12, gb13, obb12_60, obb13_60, rm60.imp (fun q hq _ => by omega)⟩
          refine AllReadyH.cons (o := ⟨some 12, _, _, _, _, _⟩) rfl (fun K hK => ?_) ?_
          ·
            rw [if_pos (by kernel_rfl)]
            go_simp
            obtain ⟨wA62, hwA⟩ : ∃ x, x = (W3.alloc (.cells #[.slice none 0 0, .slice none 0 0, .int .i64 0] 51)).drew := ⟨_, rfl⟩
            rw [← hwA]
            have hA62 : Same W3 wA62 := by rw [hwA]; exact Sep.trans (Sep.alloc _ W3 _) (Sep.drew _ _)
            have obb12_62 : wA62.heap[W3.heap.size]? = some (.cells #[.slice none 0 0, .slice none 0 0, .int .i64 0] 51) := by rw [hwA]; exact heap_alloc_new W3 _
            obtain ⟨b12, hb⟩ : ∃ b, b = W3.heap.size := ⟨_, rfl⟩
            have gb12 : W3.heap.size ≤ b12 := by omega
            rw [← hb] at obb12_62 ⊢
            clear hwA hb
            refine hK.out _ _ ?_ (fun hHeld => ?_)
            · exact ⟨Same.cell hA62 m0, Same.cell hA62 m1, Same.cell hA62 m2, Same.cell hA62 e0, hA62⟩
            clear hK K
            try simp only [Act.put, List.setIfInBounds_toArray, List.set_cons_zero, List.set_cons_succ]
            refine wpAnyH_ready (rs := [7, 13]) (by kernel_rfl) (by simp) ?_
            refine AllReadyH.cons (o := ⟨some 88, _, _, _, _, _⟩) rfl (fun K hK => ?_) ?_
            ·
              rw [if_pos (by kernel_rfl)]
              go_simp
              refine ((rbump_any (F := fun q => (FM lo hi bx q ∧ q ≠ b12)) ((HRM3.out.imp (fun q hq hlt => ⟨hq, by omega⟩)).same (hA62)) HS.out (by omega) ci (fun q hq => by have := Sep.size (hA62); have := lt_of_block obb12_62; exact ⟨HFM3.out q (by omega), by omega⟩))).mono ?_
              rw [← HR.out, ← HRC.out, ← HRE.out, ← HRF.out]
              rintro e wS65 ⟨wa', wl, wk', ea', el, ec', cq, rfl, rm65, hsS⟩
              have hS65 : Same W3 wS65 := Sep.trans (hA62) hsS
              have obb12_65 := Same.obj hsS obb12_62
              refine hK.out _ _ ?_ (fun hHeld => ?_)
              · exact ⟨Same.cell hS65 m0, Same.cell hS65 m1, Same.cell hS65 m2, Same.cell hS65 e0, hS65⟩
              clear hK K
              try simp only [Act.put, List.setIfInBounds_toArray, List.set_cons_zero, List.set_cons_succ]
              refine wpAnyH_take (i := 8) (oi := ⟨some 80, _, _, _, _, _⟩) (v := ?v14) rfl (by kernel_rfl) (by kernel_rfl) (by kernel_rfl) (fun _ _ _ h => h) (Or.inl ⟨by kernel_rfl, ?h14⟩) hHeld ?_
              case h14 => intro w hSw; (try dsimp only at hSw); go_simp; try with_reducible rfl
              try simp only [Act.put, List.setIfInBounds_toArray, List.set_cons_zero, List.set_cons_succ]
              refine wpAnyH_take (i := 9) (oi := ⟨some 89, _, _, _, _, _⟩) (v := ?v15) rfl (by kernel_rfl) (by kernel_rfl) (by kernel_rfl) (fun _ _ _ h => h) (Or.inl ⟨by kernel_rfl, ?h15⟩) hHeld ?_
              case h15 => intro w hSw; (try dsimp only at hSw); go_simp; try with_reducible rfl
              try simp only [Act.put, List.setIfInBounds_toArray, List.set_cons_zero, List.set_cons_succ]
              refine wpAnyH_take (i := 10) (oi := ⟨some 90, _, _, _, _, _⟩) (v := ?v16) rfl (by kernel_rfl) (by kernel_rfl) (by kernel_rfl) (fun _ _ _ h => h) (Or.inl ⟨by kernel_rfl, ?h16⟩) hHeld ?_
              case h16 => intro w hSw; (try dsimp only at hSw); go_simp; try with_reducible rfl
              try simp only [Act.put, List.setIfInBounds_toArray, List.set_cons_zero, List.set_cons_succ]
              refine wpAnyH_take (i := 11) (oi := ⟨some 91, _, _, _, _, _⟩) (v := ?v17) rfl (by kernel_rfl) (by kernel_rfl) (by kernel_rfl) (fun _ _ _ h => h) (Or.inl ⟨by kernel_rfl, ?h17⟩) hHeld ?_
              case h17 => intro w hSw; (try dsimp only at hSw); go_simp; try with_reducible rfl
              try simp only [Act.put, List.setIfInBounds_toArray, List.set_cons_zero, List.set_cons_succ]
              refine wpAnyH_ready (rs := [13]) (by kernel_rfl) (by simp) ?_
              refine AllReadyH.cons (o := ⟨some 13, _, _, _, _, _⟩) rfl (fun K hK => ?_) AllReadyH.nil
              rw [if_pos (by kernel_rfl)]
              go_simp
              obtain ⟨wA78, hwA⟩ : ∃ x, x = wS65.alloc (.cells #[.int .i64 0, .int .u64 0] 33) := ⟨_, rfl⟩
              rw [← hwA]
              have hA78 : Same wS65 wA78 := by rw [hwA]; exact Sep.alloc _ _ _
              have obb13_78 : wA78.heap[wS65.heap.size]? = some (.cells #[.int .i64 0, .int .u64 0] 33) := by rw [hwA]; exact heap_alloc_new _ _
              obtain ⟨b13, hb⟩ : ∃ b, b = wS65.heap.size := ⟨_, rfl⟩
              have hF78 : Same W3 wA78 := Sep.trans (hS65) hA78
              have gl78 : wS65.heap.size ≤ b13 := by omega
              have gb13 : W3.heap.size ≤ b13 := by have := Sep.size (hS65); omega
              have nb12_78 : ¬ b13 = b12 := by have := lt_of_block obb12_65; omega
              have obb12_78 := Same.obj hA78 obb12_65
              have rm78 := (rm65.imp (G := fun q => ((FM lo hi bx q ∧ q ≠ b12) ∧ q ≠ b13)) (fun q hq hlt => ⟨hq, by omega⟩)).same hA78
              rw [← hb] at obb13_78 ⊢
              clear hwA hb
              refine hK.out _ _ ?_ (fun hHeld => ?_)
              · exact ⟨Same.cell hF78 m0, Same.cell hF78 m1, Same.cell hF78 m2, Same.cell hF78 e0, hF78⟩
              clear hK K
              try simp only [Act.put, List.setIfInBounds_toArray, List.set_cons_zero, List.set_cons_succ]
              refine wpAnyH_ready (rs := [14]) (by kernel_rfl) (by simp) ?_
              refine AllReadyH.cons (o := ⟨none, _, _, _, _, _⟩) rfl (fun K hK => ?_) AllReadyH.nil
              obtain ⟨t0, t1, t2, tf⟩ := cells3x obb12_78
              rw [if_pos (by kernel_rfl)]
              go_simp
              obtain ⟨wT80, hwT⟩ : ∃ x, x = (((wA78.setCell ⟨b12, 0, none⟩ (.slice wa' wl wk')).setCell ⟨b12, 1, none⟩ (.slice ea' el ec')).setCell ⟨b12, 2, none⟩ (.int .i64 cq)) := ⟨_, rfl⟩
              rw [← hwT]
              have h7 : Sep (fun k => k = b12) wA78 wT80 := by rw [hwT]; exact sep3 _ _ _ _ _
              have obb12_80 : wT80.heap[b12]? = some (.cells #[(.slice wa' wl wk'), (.slice ea' el ec'), (.int .i64 cq)] 51) := by rw [hwT]; exact heap3 obb12_78 rfl
              have hT80 : Same W3 wT80 := same_then hF78 gb12 h7
              have obb13_80 := h7.obj obb13_78 (show ¬ b13 = b12 by omega)
              have rm80 := rm78.stay h7 (fun q hq _ e => by omega)
              clear hwT h7
              refine hK.out _ _ ?_ (fun hHeld => ?_)
              · exact ⟨Same.cell hT80 m0, Same.cell hT80 m1, Same.cell hT80 m2, Same.cell hT80 e0, hT80⟩
              clear hK K
              try simp only [Act.put, List.setIfInBounds_toArray, List.set_cons_zero, List.set_cons_succ]
              refine wpAnyH_ready (rs := [15]) (by kernel_rfl) (by simp) ?_
              refine AllReadyH.cons (o := ⟨none, _, _, _, _, _⟩) rfl (fun K hK => ?_) AllReadyH.nil
              obtain ⟨t0, t1, tf⟩ := cells2 obb13_80
              rw [if_pos (by kernel_rfl)]
              go_simp
              obtain ⟨wT82, hwT⟩ : ∃ x, x = ((wT80.setCell ⟨b13, 0, none⟩ (.int .i64 rc)).setCell ⟨b13, 1, none⟩ (.int .u64 re)) := ⟨_, rfl⟩
              rw [← hwT]
              have h7 : Sep (fun k => k = b13) wT80 wT82 := by rw [hwT]; exact sep2b _ _ _ _
              have obb13_82 : wT82.heap[b13]? = some (.cells #[(.int .i64 rc), (.int .u64 re)] 33) := by rw [hwT]; exact (show _ = _ by rw [heap_set_same (heap_set_same obb13_80)]; rfl)
              have hT82 : Same W3 wT82 := same_then hT80 gb13 h7
              have obb12_82 := h7.obj obb12_80 (show ¬ b12 = b13 by omega)
              have rm82 := rm80.stay h7 (fun q hq _ e => by omega)
              clear hwT h7
              refine hK.out _ _ ?_ (fun hHeld => ?_)
              · exact ⟨Same.cell hT82 m0, Same.cell hT82 m1, Same.cell hT82 m2, Same.cell hT82 e0, hT82⟩
              clear hK K
              try simp only [Act.put, List.setIfInBounds_toArray, List.set_cons_zero, List.set_cons_succ]
              refine wpAnyH_take (i := 16) (oi := ⟨some 14, _, _, _, _, _⟩) (v := ?v18) rfl (by kernel_rfl) (by kernel_rfl) (by kernel_rfl) (fun _ _ _ h => h) (Or.inl ⟨by kernel_rfl, ?h18⟩) hHeld ?_
              case h18 => intro w hSw; (try dsimp only at hSw); go_simp; try with_reducible rfl
              try simp only [Act.put, List.setIfInBounds_toArray, List.set_cons_zero, List.set_cons_succ]
              refine wpAnyH_done (by kernel_rfl) ?_ _
              clear hHeld
              go_wp2
              go_meet
              case rel =>
                exact ⟨b12, b13, _, _, _, _, _, _, _, rfl, rfl, rfl, hT82, gb12, gb13, obb12_82, obb13_82, rm82.imp (fun q hq _ => by omega)⟩
            refine AllReadyH.cons (o := ⟨some 13, _, _, _, _, _⟩) rfl (fun K hK => ?_) AllReadyH.nil
            ·
              rw [if_pos (by kernel_rfl)]
              go_simp
              obtain ⟨wA84, hwA⟩ : ∃ x, x = wA62.alloc (.cells #[.int .i64 0, .int .u64 0] 33) := ⟨_, rfl⟩
              rw [← hwA]
              have hA84 : Same wA62 wA84 := by rw [hwA]; exact Sep.alloc _ _ _
              have obb13_84 : wA84.heap[wA62.heap.size]? = some (.cells #[.int .i64 0, .int .u64 0] 33) := by rw [hwA]; exact heap_alloc_new _ _
              obtain ⟨b13, hb⟩ : ∃ b, b = wA62.heap.size := ⟨_, rfl⟩
              have hF84 : Same W3 wA84 := Sep.trans (hA62) hA84
              have gl84 : wA62.heap.size ≤ b13 := by omega
              have gb13 : W3.heap.size ≤ b13 := by have := Sep.size (hA62); omega
              have nb12_84 : ¬ b13 = b12 := by have := lt_of_block obb12_62; omega
              have obb12_84 := Same.obj hA84 obb12_62
              rw [← hb] at obb13_84 ⊢
              clear hwA hb
              refine hK.out _ _ ?_ (fun hHeld => ?_)
              · exact ⟨Same.cell hF84 m0, Same.cell hF84 m1, Same.cell hF84 m2, Same.cell hF84 e0, hF84⟩
              clear hK K
              try simp only [Act.put, List.setIfInBounds_toArray, List.set_cons_zero, List.set_cons_succ]
              refine wpAnyH_ready (rs := [7]) (by kernel_rfl) (by simp) ?_
              refine AllReadyH.cons (o := ⟨some 88, _, _, _, _, _⟩) rfl (fun K hK => ?_) AllReadyH.nil
              rw [if_pos (by kernel_rfl)]
              go_simp
              refine ((rbump_any (F := fun q => ((FM lo hi bx q ∧ q ≠ b12) ∧ q ≠ b13)) ((HRM3.out.imp (fun q hq hlt => ⟨⟨hq, by omega⟩, by omega⟩)).same (hF84)) HS.out (by omega) ci (fun q hq => by have := Sep.size (hF84); have := lt_of_block obb12_84; have := lt_of_block obb13_84; exact ⟨⟨HFM3.out q (by omega), by omega⟩, by omega⟩))).mono ?_
              rw [← HR.out, ← HRC.out, ← HRE.out, ← HRF.out]
              rintro e wS86 ⟨wa', wl, wk', ea', el, ec', cq, rfl, rm86, hsS⟩
              have hS86 : Same W3 wS86 := Sep.trans (hF84) hsS
              have obb12_86 := Same.obj hsS obb12_84
              have obb13_86 := Same.obj hsS obb13_84
              refine hK.out _ _ ?_ (fun hHeld => ?_)
              · exact ⟨Same.cell hS86 m0, Same.cell hS86 m1, Same.cell hS86 m2, Same.cell hS86 e0, hS86⟩
              clear hK K
              try simp only [Act.put, List.setIfInBounds_toArray, List.set_cons_zero, List.set_cons_succ]
              refine wpAnyH_take (i := 8) (oi := ⟨some 80, _, _, _, _, _⟩) (v := ?v19) rfl (by kernel_rfl) (by kernel_rfl) (by kernel_rfl) (fun _ _ _ h => h) (Or.inl ⟨by kernel_rfl, ?h19⟩) hHeld ?_
              case h19 => intro w hSw; (try dsimp only at hSw); go_simp; try with_reducible rfl
              try simp only [Act.put, List.setIfInBounds_toArray, List.set_cons_zero, List.set_cons_succ]
              refine wpAnyH_take (i := 9) (oi := ⟨some 89, _, _, _, _, _⟩) (v := ?v20) rfl (by kernel_rfl) (by kernel_rfl) (by kernel_rfl) (fun _ _ _ h => h) (Or.inl ⟨by kernel_rfl, ?h20⟩) hHeld ?_
              case h20 => intro w hSw; (try dsimp only at hSw); go_simp; try with_reducible rfl
              try simp only [Act.put, List.setIfInBounds_toArray, List.set_cons_zero, List.set_cons_succ]
              refine wpAnyH_take (i := 10) (oi := ⟨some 90, _, _, _, _, _⟩) (v := ?v21) rfl (by kernel_rfl) (by kernel_rfl) (by kernel_rfl) (fun _ _ _ h => h) (Or.inl ⟨by kernel_rfl, ?h21⟩) hHeld ?_
              case h21 => intro w hSw; (try dsimp only at hSw); go_simp; try with_reducible rfl
              try simp only [Act.put, List.setIfInBounds_toArray, List.set_cons_zero, List.set_cons_succ]
              refine wpAnyH_take (i := 11) (oi := ⟨some 91, _, _, _, _, _⟩) (v := ?v22) rfl (by kernel_rfl) (by kernel_rfl) (by kernel_rfl) (fun _ _ _ h => h) (Or.inl ⟨by kernel_rfl, ?h22⟩) hHeld ?_
              case h22 => intro w hSw; (try dsimp only at hSw); go_simp; try with_reducible rfl
              try simp only [Act.put, List.setIfInBounds_toArray, List.set_cons_zero, List.set_cons_succ]
              refine wpAnyH_ready (rs := [14]) (by kernel_rfl) (by simp) ?_
              refine AllReadyH.cons (o := ⟨none, _, _, _, _, _⟩) rfl (fun K hK => ?_) AllReadyH.nil
              obtain ⟨t0, t1, t2, tf⟩ := cells3x obb12_86
              rw [if_pos (by kernel_rfl)]
              go_simp
              obtain ⟨wT97, hwT⟩ : ∃ x, x = (((wS86.setCell ⟨b12, 0, none⟩ (.slice wa' wl wk')).setCell ⟨b12, 1, none⟩ (.slice ea' el ec')).setCell ⟨b12, 2, none⟩ (.int .i64 cq)) := ⟨_, rfl⟩
              rw [← hwT]
              have h7 : Sep (fun k => k = b12) wS86 wT97 := by rw [hwT]; exact sep3 _ _ _ _ _
              have obb12_97 : wT97.heap[b12]? = some (.cells #[(.slice wa' wl wk'), (.slice ea' el ec'), (.int .i64 cq)] 51) := by rw [hwT]; exact heap3 obb12_86 rfl
              have hT97 : Same W3 wT97 := same_then hS86 gb12 h7
              have obb13_97 := h7.obj obb13_86 (show ¬ b13 = b12 by omega)
              have rm97 := rm86.stay h7 (fun q hq _ e => by omega)
              clear hwT h7
              refine hK.out _ _ ?_ (fun hHeld => ?_)
              · exact ⟨Same.cell hT97 m0, Same.cell hT97 m1, Same.cell hT97 m2, Same.cell hT97 e0, hT97⟩
              clear hK K
              try simp only [Act.put, List.setIfInBounds_toArray, List.set_cons_zero, List.set_cons_succ]
              refine wpAnyH_ready (rs := [15]) (by kernel_rfl) (by simp) ?_
              refine AllReadyH.cons (o := ⟨none, _, _, _, _, _⟩) rfl (fun K hK => ?_) AllReadyH.nil
              obtain ⟨t0, t1, tf⟩ := cells2 obb13_97
              rw [if_pos (by kernel_rfl)]
              go_simp
              obtain ⟨wT99, hwT⟩ : ∃ x, x = ((wT97.setCell ⟨b13, 0, none⟩ (.int .i64 rc)).setCell ⟨b13, 1, none⟩ (.int .u64 re)) := ⟨_, rfl⟩
              rw [← hwT]
              have h7 : Sep (fun k => k = b13) wT97 wT99 := by rw [hwT]; exact sep2b _ _ _ _
              have obb13_99 : wT99.heap[b13]? = some (.cells #[(.int .i64 rc), (.int .u64 re)] 33) := by rw [hwT]; exact (show _ = _ by rw [heap_set_same (heap_set_same obb13_97)]; rfl)
              have hT99 : Same W3 wT99 := same_then hT97 gb13 h7
              have obb12_99 := h7.obj obb12_97 (show ¬ b12 = b13 by omega)
              have rm99 := rm97.stay h7 (fun q hq _ e => by omega)
              clear hwT h7
              refine hK.out _ _ ?_ (fun hHeld => ?_)
              · exact ⟨Same.cell hT99 m0, Same.cell hT99 m1, Same.cell hT99 m2, Same.cell hT99 e0, hT99⟩
              clear hK K
              try simp only [Act.put, List.setIfInBounds_toArray, List.set_cons_zero, List.set_cons_succ]
              refine wpAnyH_take (i := 16) (oi := ⟨some 14, _, _, _, _, _⟩) (v := ?v23) rfl (by kernel_rfl) (by kernel_rfl) (by kernel_rfl) (fun _ _ _ h => h) (Or.inl ⟨by kernel_rfl, ?h23⟩) hHeld ?_
              case h23 => intro w hSw; (try dsimp only at hSw); go_simp; try with_reducible rfl
              try simp only [Act.put, List.setIfInBounds_toArray, List.set_cons_zero, List.set_cons_succ]
              refine wpAnyH_done (by kernel_rfl) ?_ _
              clear hHeld
              go_wp2
              go_meet
              case rel =>
                exact ⟨b12, b13, _, _, _, _, _, _, _, rfl, rfl, rfl, hT99, gb12, gb13, obb12_99, obb13_99, rm99.imp (fun q hq _ => by omega)⟩
          refine AllReadyH.cons (o := ⟨some 13, _, _, _, _, _⟩) rfl (fun K hK => ?_) AllReadyH.nil
          ·
            rw [if_pos (by kernel_rfl)]
            go_simp
            obtain ⟨wA101, hwA⟩ : ∃ x, x = (W3.alloc (.cells #[.int .i64 0, .int .u64 0] 33)).drew := ⟨_, rfl⟩
            rw [← hwA]
            have hA101 : Same W3 wA101 := by rw [hwA]; exact Sep.trans (Sep.alloc _ W3 _) (Sep.drew _ _)
            have obb13_101 : wA101.heap[W3.heap.size]? = some (.cells #[.int .i64 0, .int .u64 0] 33) := by rw [hwA]; exact heap_alloc_new W3 _
            obtain ⟨b13, hb⟩ : ∃ b, b = W3.heap.size := ⟨_, rfl⟩
            have gb13 : W3.heap.size ≤ b13 := by omega
            rw [← hb] at obb13_101 ⊢
            clear hwA hb
            refine hK.out _ _ ?_ (fun hHeld => ?_)
            · exact ⟨Same.cell hA101 m0, Same.cell hA101 m1, Same.cell hA101 m2, Same.cell hA101 e0, hA101⟩
            clear hK K
            try simp only [Act.put, List.setIfInBounds_toArray, List.set_cons_zero, List.set_cons_succ]
            refine wpAnyH_ready (rs := [7, 12]) (by kernel_rfl) (by simp) ?_
            refine AllReadyH.cons (o := ⟨some 88, _, _, _, _, _⟩) rfl (fun K hK => ?_) ?_
            ·
              rw [if_pos (by kernel_rfl)]
              go_simp
              refine ((rbump_any (F := fun q => (FM lo hi bx q ∧ q ≠ b13)) ((HRM3.out.imp (fun q hq hlt => ⟨hq, by omega⟩)).same (hA101)) HS.out (by omega) ci (fun q hq => by have := Sep.size (hA101); have := lt_of_block obb13_101; exact ⟨HFM3.out q (by omega), by omega⟩))).mono ?_
              rw [← HR.out, ← HRC.out, ← HRE.out, ← HRF.out]
              rintro e wS104 ⟨wa', wl, wk', ea', el, ec', cq, rfl, rm104, hsS⟩
              have hS104 : Same W3 wS104 := Sep.trans (hA101) hsS
              have obb13_104 := Same.obj hsS obb13_101
              refine hK.out _ _ ?_ (fun hHeld => ?_)
              · exact ⟨Same.cell hS104 m0, Same.cell hS104 m1, Same.cell hS104 m2, Same.cell hS104 e0, hS104⟩
              clear hK K
              try simp only [Act.put, List.setIfInBounds_toArray, List.set_cons_zero, List.set_cons_succ]
              refine wpAnyH_take (i := 8) (oi := ⟨some 80, _, _, _, _, _⟩) (v := ?v24) rfl (by kernel_rfl) (by kernel_rfl) (by kernel_rfl) (fun _ _ _ h => h) (Or.inl ⟨by kernel_rfl, ?h24⟩) hHeld ?_
              case h24 => intro w hSw; (try dsimp only at hSw); go_simp; try with_reducible rfl
              try simp only [Act.put, List.setIfInBounds_toArray, List.set_cons_zero, List.set_cons_succ]
              refine wpAnyH_take (i := 9) (oi := ⟨some 89, _, _, _, _, _⟩) (v := ?v25) rfl (by kernel_rfl) (by kernel_rfl) (by kernel_rfl) (fun _ _ _ h => h) (Or.inl ⟨by kernel_rfl, ?h25⟩) hHeld ?_
              case h25 => intro w hSw; (try dsimp only at hSw); go_simp; try with_reducible rfl
              try simp only [Act.put, List.setIfInBounds_toArray, List.set_cons_zero, List.set_cons_succ]
              refine wpAnyH_take (i := 10) (oi := ⟨some 90, _, _, _, _, _⟩) (v := ?v26) rfl (by kernel_rfl) (by kernel_rfl) (by kernel_rfl) (fun _ _ _ h => h) (Or.inl ⟨by kernel_rfl, ?h26⟩) hHeld ?_
              case h26 => intro w hSw; (try dsimp only at hSw); go_simp; try with_reducible rfl
              try simp only [Act.put, List.setIfInBounds_toArray, List.set_cons_zero, List.set_cons_succ]
              refine wpAnyH_take (i := 11) (oi := ⟨some 91, _, _, _, _, _⟩) (v := ?v27) rfl (by kernel_rfl) (by kernel_rfl) (by kernel_rfl) (fun _ _ _ h => h) (Or.inl ⟨by kernel_rfl, ?h27⟩) hHeld ?_
              case h27 => intro w hSw; (try dsimp only at hSw); go_simp; try with_reducible rfl
              try simp only [Act.put, List.setIfInBounds_toArray, List.set_cons_zero, List.set_cons_succ]
              refine wpAnyH_ready (rs := [12]) (by kernel_rfl) (by simp) ?_
              refine AllReadyH.cons (o := ⟨some 12, _, _, _, _, _⟩) rfl (fun K hK => ?_) AllReadyH.nil
              rw [if_pos (by kernel_rfl)]
              go_simp
              obtain ⟨wA117, hwA⟩ : ∃ x, x = wS104.alloc (.cells #[.slice none 0 0, .slice none 0 0, .int .i64 0] 51) := ⟨_, rfl⟩
              rw [← hwA]
              have hA117 : Same wS104 wA117 := by rw [hwA]; exact Sep.alloc _ _ _
              have obb12_117 : wA117.heap[wS104.heap.size]? = some (.cells #[.slice none 0 0, .slice none 0 0, .int .i64 0] 51) := by rw [hwA]; exact heap_alloc_new _ _
              obtain ⟨b12, hb⟩ : ∃ b, b = wS104.heap.size := ⟨_, rfl⟩
              have hF117 : Same W3 wA117 := Sep.trans (hS104) hA117
              have gl117 : wS104.heap.size ≤ b12 := by omega
              have gb12 : W3.heap.size ≤ b12 := by have := Sep.size (hS104); omega
              have nb13_117 : ¬ b12 = b13 := by have := lt_of_block obb13_104; omega
              have obb13_117 := Same.obj hA117 obb13_104
              have rm117 := (rm104.imp (G := fun q => ((FM lo hi bx q ∧ q ≠ b13) ∧ q ≠ b12)) (fun q hq hlt => ⟨hq, by omega⟩)).same hA117
              rw [← hb] at obb12_117 ⊢
              clear hwA hb
              refine hK.out _ _ ?_ (fun hHeld => ?_)
              · exact ⟨Same.cell hF117 m0, Same.cell hF117 m1, Same.cell hF117 m2, Same.cell hF117 e0, hF117⟩
              clear hK K
              try simp only [Act.put, List.setIfInBounds_toArray, List.set_cons_zero, List.set_cons_succ]
              refine wpAnyH_ready (rs := [14]) (by kernel_rfl) (by simp) ?_
              refine AllReadyH.cons (o := ⟨none, _, _, _, _, _⟩) rfl (fun K hK => ?_) AllReadyH.nil
              obtain ⟨t0, t1, t2, tf⟩ := cells3x obb12_117
              rw [if_pos (by kernel_rfl)]
              go_simp
              obtain ⟨wT119, hwT⟩ : ∃ x, x = (((wA117.setCell ⟨b12, 0, none⟩ (.slice wa' wl wk')).setCell ⟨b12, 1, none⟩ (.slice ea' el ec')).setCell ⟨b12, 2, none⟩ (.int .i64 cq)) := ⟨_, rfl⟩
              rw [← hwT]
              have h7 : Sep (fun k => k = b12) wA117 wT119 := by rw [hwT]; exact sep3 _ _ _ _ _
              have obb12_119 : wT119.heap[b12]? = some (.cells #[(.slice wa' wl wk'), (.slice ea' el ec'), (.int .i64 cq)] 51) := by rw [hwT]; exact heap3 obb12_117 rfl
              have hT119 : Same W3 wT119 := same_then hF117 gb12 h7
              have obb13_119 := h7.obj obb13_117 (show ¬ b13 = b12 by omega)
              have rm119 := rm117.stay h7 (fun q hq _ e => by omega)
              clear hwT h7
              refine hK.out _ _ ?_ (fun hHeld => ?_)
              · exact ⟨Same.cell hT119 m0, Same.cell hT119 m1, Same.cell hT119 m2, Same.cell hT119 e0, hT119⟩
              clear hK K
              try simp only [Act.put, List.setIfInBounds_toArray, List.set_cons_zero, List.set_cons_succ]
              refine wpAnyH_ready (rs := [15]) (by kernel_rfl) (by simp) ?_
              refine AllReadyH.cons (o := ⟨none, _, _, _, _, _⟩) rfl (fun K hK => ?_) AllReadyH.nil
              obtain ⟨t0, t1, tf⟩ := cells2 obb13_119
              rw [if_pos (by kernel_rfl)]
              go_simp
              obtain ⟨wT121, hwT⟩ : ∃ x, x = ((wT119.setCell ⟨b13, 0, none⟩ (.int .i64 rc)).setCell ⟨b13, 1, none⟩ (.int .u64 re)) := ⟨_, rfl⟩
              rw [← hwT]
              have h7 : Sep (fun k => k = b13) wT119 wT121 := by rw [hwT]; exact sep2b _ _ _ _
              have obb13_121 : wT121.heap[b13]? = some (.cells #[(.int .i64 rc), (.int .u64 re)] 33) := by rw [hwT]; exact (show _ = _ by rw [heap_set_same (heap_set_same obb13_119)]; rfl)
              have hT121 : Same W3 wT121 := same_then hT119 gb13 h7
              have obb12_121 := h7.obj obb12_119 (show ¬ b12 = b13 by omega)
              have rm121 := rm119.stay h7 (fun q hq _ e => by omega)
              clear hwT h7
              refine hK.out _ _ ?_ (fun hHeld => ?_)
              · exact ⟨Same.cell hT121 m0, Same.cell hT121 m1, Same.cell hT121 m2, Same.cell hT121 e0, hT121⟩
              clear hK K
              try simp only [Act.put, List.setIfInBounds_toArray, List.set_cons_zero, List.set_cons_succ]
              refine wpAnyH_take (i := 16) (oi := ⟨some 14, _, _, _, _, _⟩) (v := ?v28) rfl (by kernel_rfl) (by kernel_rfl) (by kernel_rfl) (fun _ _ _ h => h) (Or.inl ⟨by kernel_rfl, ?h28⟩) hHeld ?_
              case h28 => intro w hSw; (try dsimp only at hSw); go_simp; try with_reducible rfl
              try simp only [Act.put, List.setIfInBounds_toArray, List.set_cons_zero, List.set_cons_succ]
              refine wpAnyH_done (by kernel_rfl) ?_ _
              clear hHeld
              go_wp2
              go_meet
              case rel =>
                exact ⟨b12, b13, _, _, _, _, _, _, _, rfl, rfl, rfl, hT121, gb12, gb13, obb12_121, obb13_121, rm121.imp (fun q hq _ => by omega)⟩
            refine AllReadyH.cons (o := ⟨some 12, _, _, _, _, _⟩) rfl (fun K hK => ?_) AllReadyH.nil
            ·
              rw [if_pos (by kernel_rfl)]
              go_simp
              obtain ⟨wA123, hwA⟩ : ∃ x, x = wA101.alloc (.cells #[.slice none 0 0, .slice none 0 0, .int .i64 0] 51) := ⟨_, rfl⟩
              rw [← hwA]
              have hA123 : Same wA101 wA123 := by rw [hwA]; exact Sep.alloc _ _ _
              have obb12_123 : wA123.heap[wA101.heap.size]? = some (.cells #[.slice none 0 0, .slice none 0 0, .int .i64 0] 51) := by rw [hwA]; exact heap_alloc_new _ _
              obtain ⟨b12, hb⟩ : ∃ b, b = wA101.heap.size := ⟨_, rfl⟩
              have hF123 : Same W3 wA123 := Sep.trans (hA101) hA123
              have gl123 : wA101.heap.size ≤ b12 := by omega
              have gb12 : W3.heap.size ≤ b12 := by have := Sep.size (hA101); omega
              have nb13_123 : ¬ b12 = b13 := by have := lt_of_block obb13_101; omega
              have obb13_123 := Same.obj hA123 obb13_101
              rw [← hb] at obb12_123 ⊢
              clear hwA hb
              refine hK.out _ _ ?_ (fun hHeld => ?_)
              · exact ⟨Same.cell hF123 m0, Same.cell hF123 m1, Same.cell hF123 m2, Same.cell hF123 e0, hF123⟩
              clear hK K
              try simp only [Act.put, List.setIfInBounds_toArray, List.set_cons_zero, List.set_cons_succ]
              refine wpAnyH_ready (rs := [7]) (by kernel_rfl) (by simp) ?_
              refine AllReadyH.cons (o := ⟨some 88, _, _, _, _, _⟩) rfl (fun K hK => ?_) AllReadyH.nil
              rw [if_pos (by kernel_rfl)]
              go_simp
              refine ((rbump_any (F := fun q => ((FM lo hi bx q ∧ q ≠ b13) ∧ q ≠ b12)) ((HRM3.out.imp (fun q hq hlt => ⟨⟨hq, by omega⟩, by omega⟩)).same (hF123)) HS.out (by omega) ci (fun q hq => by have := Sep.size (hF123); have := lt_of_block obb13_123; have := lt_of_block obb12_123; exact ⟨⟨HFM3.out q (by omega), by omega⟩, by omega⟩))).mono ?_
              rw [← HR.out, ← HRC.out, ← HRE.out, ← HRF.out]
              rintro e wS125 ⟨wa', wl, wk', ea', el, ec', cq, rfl, rm125, hsS⟩
              have hS125 : Same W3 wS125 := Sep.trans (hF123) hsS
              have obb13_125 := Same.obj hsS obb13_123
              have obb12_125 := Same.obj hsS obb12_123
              refine hK.out _ _ ?_ (fun hHeld => ?_)
              · exact ⟨Same.cell hS125 m0, Same.cell hS125 m1, Same.cell hS125 m2, Same.cell hS125 e0, hS125⟩
              clear hK K
              try simp only [Act.put, List.setIfInBounds_toArray, List.set_cons_zero, List.set_cons_succ]
              refine wpAnyH_take (i := 8) (oi := ⟨some 80, _, _, _, _, _⟩) (v := ?v29) rfl (by kernel_rfl) (by kernel_rfl) (by kernel_rfl) (fun _ _ _ h => h) (Or.inl ⟨by kernel_rfl, ?h29⟩) hHeld ?_
              case h29 => intro w hSw; (try dsimp only at hSw); go_simp; try with_reducible rfl
              try simp only [Act.put, List.setIfInBounds_toArray, List.set_cons_zero, List.set_cons_succ]
              refine wpAnyH_take (i := 9) (oi := ⟨some 89, _, _, _, _, _⟩) (v := ?v30) rfl (by kernel_rfl) (by kernel_rfl) (by kernel_rfl) (fun _ _ _ h => h) (Or.inl ⟨by kernel_rfl, ?h30⟩) hHeld ?_
              case h30 => intro w hSw; (try dsimp only at hSw); go_simp; try with_reducible rfl
              try simp only [Act.put, List.setIfInBounds_toArray, List.set_cons_zero, List.set_cons_succ]
              refine wpAnyH_take (i := 10) (oi := ⟨some 90, _, _, _, _, _⟩) (v := ?v31) rfl (by kernel_rfl) (by kernel_rfl) (by kernel_rfl) (fun _ _ _ h => h) (Or.inl ⟨by kernel_rfl, ?h31⟩) hHeld ?_
              case h31 => intro w hSw; (try dsimp only at hSw); go_simp; try with_reducible rfl
              try simp only [Act.put, List.setIfInBounds_toArray, List.set_cons_zero, List.set_cons_succ]
              refine wpAnyH_take (i := 11) (oi := ⟨some 91, _, _, _, _, _⟩) (v := ?v32) rfl (by kernel_rfl) (by kernel_rfl) (by kernel_rfl) (fun _ _ _ h => h) (Or.inl ⟨by kernel_rfl, ?h32⟩) hHeld ?_
              case h32 => intro w hSw; (try dsimp only at hSw); go_simp; try with_reducible rfl
              try simp only [Act.put, List.setIfInBounds_toArray, List.set_cons_zero, List.set_cons_succ]
              refine wpAnyH_ready (rs := [14]) (by kernel_rfl) (by simp) ?_
              refine AllReadyH.cons (o := ⟨none, _, _, _, _, _⟩) rfl (fun K hK => ?_) AllReadyH.nil
              obtain ⟨t0, t1, t2, tf⟩ := cells3x obb12_125
              rw [if_pos (by kernel_rfl)]
              go_simp
              obtain ⟨wT136, hwT⟩ : ∃ x, x = (((wS125.setCell ⟨b12, 0, none⟩ (.slice wa' wl wk')).setCell ⟨b12, 1, none⟩ (.slice ea' el ec')).setCell ⟨b12, 2, none⟩ (.int .i64 cq)) := ⟨_, rfl⟩
              rw [← hwT]
              have h7 : Sep (fun k => k = b12) wS125 wT136 := by rw [hwT]; exact sep3 _ _ _ _ _
              have obb12_136 : wT136.heap[b12]? = some (.cells #[(.slice wa' wl wk'), (.slice ea' el ec'), (.int .i64 cq)] 51) := by rw [hwT]; exact heap3 obb12_125 rfl
              have hT136 : Same W3 wT136 := same_then hS125 gb12 h7
              have obb13_136 := h7.obj obb13_125 (show ¬ b13 = b12 by omega)
              have rm136 := rm125.stay h7 (fun q hq _ e => by omega)
              clear hwT h7
              refine hK.out _ _ ?_ (fun hHeld => ?_)
              · exact ⟨Same.cell hT136 m0, Same.cell hT136 m1, Same.cell hT136 m2, Same.cell hT136 e0, hT136⟩
              clear hK K
              try simp only [Act.put, List.setIfInBounds_toArray, List.set_cons_zero, List.set_cons_succ]
              refine wpAnyH_ready (rs := [15]) (by kernel_rfl) (by simp) ?_
              refine AllReadyH.cons (o := ⟨none, _, _, _, _, _⟩) rfl (fun K hK => ?_) AllReadyH.nil
              obtain ⟨t0, t1, tf⟩ := cells2 obb13_136
              rw [if_pos (by kernel_rfl)]
              go_simp
              obtain ⟨wT138, hwT⟩ : ∃ x, x = ((wT136.setCell ⟨b13, 0, none⟩ (.int .i64 rc)).setCell ⟨b13, 1, none⟩ (.int .u64 re)) := ⟨_, rfl⟩
              rw [← hwT]
              have h7 : Sep (fun k => k = b13) wT136 wT138 := by rw [hwT]; exact sep2b _ _ _ _
              have obb13_138 : wT138.heap[b13]? = some (.cells #[(.int .i64 rc), (.int .u64 re)] 33) := by rw [hwT]; exact (show _ = _ by rw [heap_set_same (heap_set_same obb13_136)]; rfl)
              have hT138 : Same W3 wT138 := same_then hT136 gb13 h7
              have obb12_138 := h7.obj obb12_136 (show ¬ b12 = b13 by omega)
              have rm138 := rm136.stay h7 (fun q hq _ e => by omega)
              clear hwT h7
              refine hK.out _ _ ?_ (fun hHeld => ?_)
              · exact ⟨Same.cell hT138 m0, Same.cell hT138 m1, Same.cell hT138 m2, Same.cell hT138 e0, hT138⟩
              clear hK K
              try simp only [Act.put, List.setIfInBounds_toArray, List.set_cons_zero, List.set_cons_succ]
              refine wpAnyH_take (i := 16) (oi := ⟨some 14, _, _, _, _, _⟩) (v := ?v33) rfl (by kernel_rfl) (by kernel_rfl) (by kernel_rfl) (fun _ _ _ h => h) (Or.inl ⟨by kernel_rfl, ?h33⟩) hHeld ?_
              case h33 => intro w hSw; (try dsimp only at hSw); go_simp; try with_reducible rfl
              try simp only [Act.put, List.setIfInBounds_toArray, List.set_cons_zero, List.set_cons_succ]
              refine wpAnyH_done (by kernel_rfl) ?_ _
              clear hHeld
              go_wp2
              go_meet
              case rel =>
                exact ⟨b12, b13, _, _, _, _, _, _, _, rfl, rfl, rfl, hT138, gb12, gb13, obb12_138, obb13_138, rm138.imp (fun q hq _ => by omega)⟩
        case rest =>
          obtain ⟨b12, b13, wa', wl, wk', ea', el, ec', cq, rfl, rfl, rfl, hT, g12, g13, ob12, ob13, hrm4⟩ := hcut
          obtain ⟨t0, t1, t2, tf⟩ := cells3x ob12
          obtain ⟨q0, q1, q2, qf⟩ := cells3x (Same.obj hT HOX3.out)
          have n12 : ¬ b12 = bx := by have := HBW.out; have := HS3.out.size; omega
          have HT := Lib.hid hT
          have HRM4 := Lib.hid hrm4
          have OB13 := Lib.hid ob13
          have G13 := Lib.hid g13
          clear hT hrm4 ob12 ob13 g12 g13 m0 m1 m2 e0
          go_upto_region 16 with fail
          obtain ⟨wV, hwV⟩ : ∃ x, x = ((wc.setCell ⟨bx, 0, none⟩ (.slice wa' wl wk')).setCell ⟨bx, 1, none⟩ (.slice ea' el ec')).setCell ⟨bx, 2, none⟩ (.int .i64 cq) := ⟨_, rfl⟩
          rw [← hwV]
          have sV : Sep (fun k => k = bx) wc wV := by rw [hwV]; exact sep3 _ _ _ _ _
          have oV : wV.heap[bx]? = some (.cells #[.slice wa' wl wk', .slice ea' el ec', .int .i64 cq] 51) := by rw [hwV]; exact heap3 (Same.obj HT.out HOX3.out) rfl
          obtain ⟨d0, d1, df⟩ := cells2 (sV.obj (Same.obj HT.out OB10.out) (by have := HG10.out; have := HBW.out; omega))
          obtain ⟨f0, f1, ff⟩ := cells2 (sV.obj OB13.out (by have := G13.out; have := HBW.out; have := HS3.out.size; omega))
          have hend : MLoop lo hi p bx w (k + 1) wV := by
            refine ⟨R.L, cnt, _, _, _, (HM3.out.same HT.out).stay sV (fun b h1 h2 h3 => by have := hbxi.out; omega), oV, HRM4.out.stay sV (fun b hb _ h => hb.2 h), ?_, ?_⟩
            · rw [HR.out]; exact bumpJ_sized HS.out
            · exact (HIN.out.trans (HS3.out.mono fun _ _ h => .inl h)).trans ((Same.sep HT.out _).trans (sV.mono fun _ _ h => .inr h))
          have HEND := Lib.hid hend
          clear hend sV oV hwV t0 t1 t2 tf q0 q1 q2 qf df ff
          go_wp2
          go_roundw
          case rel => exact ⟨k + 1, by omega, by go_num, HEND.out⟩
          case measure => simp [intOf]; omega
      · obtain ⟨m0, m1, m2, mf⟩ := cells3x hox
        clear hox mf
        have E0 := Lib.hid e0
        have E1 := Lib.hid e1
        have A0 := Lib.hid a0'
        have A1 := Lib.hid a1'
        have A2 := Lib.hid a2'
        have A3 := Lib.hid a3'
        clear a0' a1' a2' a3'
        go_upto_region 18 with fail
        clear cK
        go_cut [115] from 57 to 155 (fun s115 wx => s115 = .bool false ∧ Same wr wx)
        case first =>
          refine wp_region_held_drew (S := (fun v => v.cell? ⟨bx, 0, none⟩ = some (x0) ∧ v.cell? ⟨bx, 1, none⟩ = some (x1) ∧ v.cell? ⟨bx, 2, none⟩ = some (x2) ∧ v.cell? ⟨b, off + k * 7 + 1, none⟩ = some (.int .i64 ci) ∧ v.cell? ⟨b, off + k * 7 + 2, none⟩ = some (.int .u64 ce) ∧ Same wr v)) (by kernel_rfl) ?_ (fun hHeld => ?_)
          · exact ⟨(Sep.drew (fun _ => False) wr).cell m0 (fun x => x), (Sep.drew (fun _ => False) wr).cell m1 (fun x => x), (Sep.drew (fun _ => False) wr).cell m2 (fun x => x), (Sep.drew (fun _ => False) wr).cell e0 (fun x => x), (Sep.drew (fun _ => False) wr).cell e1 (fun x => x), Sep.drew _ _⟩
          change wpAnyH _ _ _ _ _ 15 _ _ _
          refine wpAnyH_take (i := 0) (oi := ⟨some 101, _, _, _, _, _⟩) (v := ?v57) rfl (by kernel_rfl) (by kernel_rfl) (by kernel_rfl) (fun _ _ _ h => h) (Or.inl ⟨by kernel_rfl, ?h57⟩) hHeld ?_
          case h57 => intro w hSw; (try dsimp only at hSw); go_simp; try with_reducible rfl
          try simp only [Act.put, List.setIfInBounds_toArray, List.set_cons_zero, List.set_cons_succ]
          refine wpAnyH_take (i := 1) (oi := ⟨some 102, _, _, _, _, _⟩) (v := ?v58) rfl (by kernel_rfl) (by kernel_rfl) (by kernel_rfl) (fun _ _ _ h => h) (Or.inl ⟨by kernel_rfl, ?h58⟩) hHeld ?_
          case h58 => intro w hSw; (try dsimp only at hSw); go_simp; try with_reducible rfl
          try simp only [Act.put, List.setIfInBounds_toArray, List.set_cons_zero, List.set_cons_succ]
          refine wpAnyH_take (i := 2) (oi := ⟨some 103, _, _, _, _, _⟩) (v := ?v59) rfl (by kernel_rfl) (by kernel_rfl) (by kernel_rfl) (fun _ _ _ h => h) (Or.inl ⟨by kernel_rfl, ?h59⟩) hHeld ?_
          case h59 => intro w hSw; (try dsimp only at hSw); go_simp; try with_reducible rfl
          try simp only [Act.put, List.setIfInBounds_toArray, List.set_cons_zero, List.set_cons_succ]
          refine wpAnyH_take (i := 3) (oi := ⟨some 104, _, _, _, _, _⟩) (v := ?v60) rfl (by kernel_rfl) (by kernel_rfl) (by kernel_rfl) (fun _ _ _ h => h) (Or.inl ⟨by kernel_rfl, ?h60⟩) hHeld ?_
          case h60 => intro w hSw; (try dsimp only at hSw); go_simp; try with_reducible rfl
          try simp only [Act.put, List.setIfInBounds_toArray, List.set_cons_zero, List.set_cons_succ]
          refine wpAnyH_take (i := 4) (oi := ⟨some 105, _, _, _, _, _⟩) (v := ?v61) rfl (by kernel_rfl) (by kernel_rfl) (by kernel_rfl) (fun _ _ _ h => h) (Or.inl ⟨by kernel_rfl, ?h61⟩) hHeld ?_
          case h61 => intro w hSw; (try dsimp only at hSw); go_simp; try with_reducible rfl
          try simp only [Act.put, List.setIfInBounds_toArray, List.set_cons_zero, List.set_cons_succ]
          refine wpAnyH_take (i := 5) (oi := ⟨some 106, _, _, _, _, _⟩) (v := ?v62) rfl (by kernel_rfl) (by kernel_rfl) (by kernel_rfl) (fun _ _ _ h => h) (Or.inl ⟨by kernel_rfl, ?h62⟩) hHeld ?_
          case h62 => intro w hSw; (try dsimp only at hSw); go_simp; try with_reducible rfl
          try simp only [Act.put, List.setIfInBounds_toArray, List.set_cons_zero, List.set_cons_succ]
          refine wpAnyH_take (i := 7) (oi := ⟨some 108, _, _, _, _, _⟩) (v := ?v63) rfl (by kernel_rfl) (by kernel_rfl) (by kernel_rfl) (fun _ _ _ h => h) (Or.inl ⟨by kernel_rfl, ?h63⟩) hHeld ?_
          case h63 => intro w hSw; (try dsimp only at hSw); go_simp; try with_reducible rfl
          try simp only [Act.put, List.setIfInBounds_toArray, List.set_cons_zero, List.set_cons_succ]
          refine wpAnyH_take (i := 8) (oi := ⟨some 109, _, _, _, _, _⟩) (v := ?v64) rfl (by kernel_rfl) (by kernel_rfl) (by kernel_rfl) (fun _ _ _ h => h) (Or.inl ⟨by kernel_rfl, ?h64⟩) hHeld ?_
          case h64 => intro w hSw; (try dsimp only at hSw); go_simp; try with_reducible rfl
          try simp only [Act.put, List.setIfInBounds_toArray, List.set_cons_zero, List.set_cons_succ]
          refine wpAnyH_take (i := 9) (oi := ⟨some 110, _, _, _, _, _⟩) (v := ?v65) rfl (by kernel_rfl) (by kernel_rfl) (by kernel_rfl) (fun _ _ _ h => h) (Or.inl ⟨by kernel_rfl, ?h65⟩) hHeld ?_
          case h65 => intro w hSw; (try dsimp only at hSw); go_simp; try with_reducible rfl
          try simp only [Act.put, List.setIfInBounds_toArray, List.set_cons_zero, List.set_cons_succ]
          refine wpAnyH_take (i := 10) (oi := ⟨some 111, _, _, _, _, _⟩) (v := ?v66) rfl (by kernel_rfl) (by kernel_rfl) (by kernel_rfl) (fun _ _ _ h => h) (Or.inl ⟨by kernel_rfl, ?h66⟩) hHeld ?_
          case h66 => intro w hSw; (try dsimp only at hSw); go_simp; try with_reducible rfl
          try simp only [Act.put, List.setIfInBounds_toArray, List.set_cons_zero, List.set_cons_succ]
          refine wpAnyH_take (i := 11) (oi := ⟨some 112, _, _, _, _, _⟩) (v := ?v67) rfl (by kernel_rfl) (by kernel_rfl) (by kernel_rfl) (fun _ _ _ h => h) (Or.inl ⟨by kernel_rfl, ?h67⟩) hHeld ?_
          case h67 => intro w hSw; (try dsimp only at hSw); go_simp; try with_reducible rfl
          try simp only [Act.put, List.setIfInBounds_toArray, List.set_cons_zero, List.set_cons_succ]
          refine wpAnyH_take (i := 12) (oi := ⟨some 113, _, _, _, _, _⟩) (v := ?v68) rfl (by kernel_rfl) (by kernel_rfl) (by kernel_rfl) (fun _ _ _ h => h) (Or.inl ⟨by kernel_rfl, ?h68⟩) hHeld ?_
          case h68 => intro w hSw; (try dsimp only at hSw); go_simp; try with_reducible rfl
          try simp only [Act.put, List.setIfInBounds_toArray, List.set_cons_zero, List.set_cons_succ]
          refine wpAnyH_ready (rs := [6]) (by kernel_rfl) (by simp) ?_
          refine AllReadyH.cons (o := ⟨some 107, _, _, _, _, _⟩) rfl (fun K hK => ?_) AllReadyH.nil
          rw [if_pos (by kernel_rfl)]
          go_simp
          refine (good_any (HMM.out.same (hHeld.2.2.2.2.2)) ci ce).mono ?_
          rintro e wP8 ⟨rfl, hsP8⟩
          refine hK.out _ _ ?_ (fun hHeld => ?_)
          · exact ⟨Same.cell hsP8 (hHeld.1), Same.cell hsP8 (hHeld.2.1), Same.cell hsP8 (hHeld.2.2.1), Same.cell hsP8 (hHeld.2.2.2.1), Same.cell hsP8 (hHeld.2.2.2.2.1), (hHeld.2.2.2.2.2).trans hsP8⟩
          clear hK K
          try simp only [Act.put, List.setIfInBounds_toArray, List.set_cons_zero, List.set_cons_succ]
          refine wpAnyH_ready (rs := [13]) (by kernel_rfl) (by simp) ?_
          refine AllReadyH.cons (o := ⟨some 114, _, _, _, _, _⟩) rfl (fun K hK => ?_) AllReadyH.nil
          rw [if_pos (by kernel_rfl)]
          go_simp
          refine (rgood (HRM.out.same (hHeld.2.2.2.2.2)) ci ce).mono ?_
          rintro e wP10 ⟨rfl, hsP10⟩
          refine hK.out _ _ ?_ (fun hHeld => ?_)
          · exact ⟨Same.cell hsP10 (hHeld.1), Same.cell hsP10 (hHeld.2.1), Same.cell hsP10 (hHeld.2.2.1), Same.cell hsP10 (hHeld.2.2.2.1), Same.cell hsP10 (hHeld.2.2.2.2.1), (hHeld.2.2.2.2.2).trans hsP10⟩
          clear hK K
          try simp only [Act.put, List.setIfInBounds_toArray, List.set_cons_zero, List.set_cons_succ]
          refine wpAnyH_take (i := 14) (oi := ⟨some 115, _, _, _, _, _⟩) (v := ?v69) rfl (by kernel_rfl) (by kernel_rfl) (by kernel_rfl) (fun _ _ _ h => h) (Or.inl ⟨by kernel_rfl, ?h69⟩) hHeld ?_
          case h69 => intro w hSw; (try dsimp only at hSw); go_simp; try with_reducible rfl
          try simp only [Act.put, List.setIfInBounds_toArray, List.set_cons_zero, List.set_cons_succ]
          refine wpAnyH_done (by kernel_rfl) ?_ _
          have hE := hHeld.2.2.2.2.2
          clear hHeld
          go_wp2
          go_meet
          case rel =>
            exact ⟨rfl, hE⟩
        case rest =>
          obtain ⟨rfl, hcut⟩ := hcut
          have HT := Lib.hid hcut
          have e0 := Same.cell HT.out E0.out
          have e1 := Same.cell HT.out E1.out
          have a0' := Same.cell HT.out A0.out
          have a1' := Same.cell HT.out A1.out
          have a2' := Same.cell HT.out A2.out
          have a3' := Same.cell HT.out A3.out
          clear hcut m0 m1 m2
          obtain ⟨R, hR⟩ : ∃ R, R = doJ L ci ce A := ⟨_, rfl⟩
          obtain ⟨rv, hrv⟩ : ∃ x, x = R.v := ⟨_, rfl⟩
          obtain ⟨rk, hrk⟩ : ∃ x, x = R.ok := ⟨_, rfl⟩
          have HR := Lib.hid hR
          have HRV := Lib.hid hrv
          have HRK := Lib.hid hrk
          clear hR hrv hrk
          go_upto_region 20 with fail
          go_cut [15, 16] from 57 to 155 (fun s15 s16 wx => s15 = .int .u64 rv ∧ s16 = .bool rk ∧ Mem lo hi wx p R.L (cnt + R.d) ∧ In lo hi wr wx)
          case first =>
            refine wp_region_held_drew (S := (fun v => v.cell? ⟨b, off + k * 7 + 1, none⟩ = some (.int .i64 ci) ∧ v.cell? ⟨b, off + k * 7 + 2, none⟩ = some (.int .u64 ce) ∧ v.cell? ⟨b, off + k * 7 + 3, none⟩ = some (.int .i64 A.op) ∧ v.cell? ⟨b, off + k * 7 + 4, none⟩ = some (.int .i64 A.at_) ∧ v.cell? ⟨b, off + k * 7 + 5, none⟩ = some (.int .u64 A.x) ∧ v.cell? ⟨b, off + k * 7 + 6, none⟩ = some (.int .u64 A.y) ∧ In lo hi wc v)) (by kernel_rfl) ?_ (fun hHeld => ?_)
            · exact ⟨(Sep.drew (fun _ => False) wc).cell e0 (fun x => x), (Sep.drew (fun _ => False) wc).cell e1 (fun x => x), (Sep.drew (fun _ => False) wc).cell a0' (fun x => x), (Sep.drew (fun _ => False) wc).cell a1' (fun x => x), (Sep.drew (fun _ => False) wc).cell a2' (fun x => x), (Sep.drew (fun _ => False) wc).cell a3' (fun x => x), Sep.drew _ _⟩
            change wpAnyH _ _ _ _ _ 17 _ _ _
            refine wpAnyH_take (i := 0) (oi := ⟨some 117, _, _, _, _, _⟩) (v := ?v70) rfl (by kernel_rfl) (by kernel_rfl) (by kernel_rfl) (fun _ _ _ h => h) (Or.inl ⟨by kernel_rfl, ?h70⟩) hHeld ?_
            case h70 => intro w hSw; (try dsimp only at hSw); go_simp; try with_reducible rfl
            try simp only [Act.put, List.setIfInBounds_toArray, List.set_cons_zero, List.set_cons_succ]
            refine wpAnyH_take (i := 1) (oi := ⟨some 118, _, _, _, _, _⟩) (v := ?v71) rfl (by kernel_rfl) (by kernel_rfl) (by kernel_rfl) (fun _ _ _ h => h) (Or.inl ⟨by kernel_rfl, ?h71⟩) hHeld ?_
            case h71 => intro w hSw; (try dsimp only at hSw); go_simp; try with_reducible rfl
            try simp only [Act.put, List.setIfInBounds_toArray, List.set_cons_zero, List.set_cons_succ]
            refine wpAnyH_take (i := 2) (oi := ⟨some 119, _, _, _, _, _⟩) (v := ?v72) rfl (by kernel_rfl) (by kernel_rfl) (by kernel_rfl) (fun _ _ _ h => h) (Or.inl ⟨by kernel_rfl, ?h72⟩) hHeld ?_
            case h72 => intro w hSw; (try dsimp only at hSw); go_simp; try with_reducible rfl
            try simp only [Act.put, List.setIfInBounds_toArray, List.set_cons_zero, List.set_cons_succ]
            refine wpAnyH_take (i := 3) (oi := ⟨some 120, _, _, _, _, _⟩) (v := ?v73) rfl (by kernel_rfl) (by kernel_rfl) (by kernel_rfl) (fun _ _ _ h => h) (Or.inl ⟨by kernel_rfl, ?h73⟩) hHeld ?_
            case h73 => intro w hSw; (try dsimp only at hSw); go_simp; try with_reducible rfl
            try simp only [Act.put, List.setIfInBounds_toArray, List.set_cons_zero, List.set_cons_succ]
            refine wpAnyH_take (i := 4) (oi := ⟨some 121, _, _, _, _, _⟩) (v := ?v74) rfl (by kernel_rfl) (by kernel_rfl) (by kernel_rfl) (fun _ _ _ h => h) (Or.inl ⟨by kernel_rfl, ?h74⟩) hHeld ?_
            case h74 => intro w hSw; (try dsimp only at hSw); go_simp; try with_reducible rfl
            try simp only [Act.put, List.setIfInBounds_toArray, List.set_cons_zero, List.set_cons_succ]
            refine wpAnyH_take (i := 5) (oi := ⟨some 122, _, _, _, _, _⟩) (v := ?v75) rfl (by kernel_rfl) (by kernel_rfl) (by kernel_rfl) (fun _ _ _ h => h) (Or.inl ⟨by kernel_rfl, ?h75⟩) hHeld ?_
            case h75 => intro w hSw; (try dsimp only at hSw); go_simp; try with_reducible rfl
            try simp only [Act.put, List.setIfInBounds_toArray, List.set_cons_zero, List.set_cons_succ]
            refine wpAnyH_take (i := 6) (oi := ⟨some 123, _, _, _, _, _⟩) (v := ?v76) rfl (by kernel_rfl) (by kernel_rfl) (by kernel_rfl) (fun _ _ _ h => h) (Or.inl ⟨by kernel_rfl, ?h76⟩) hHeld ?_
            case h76 => intro w hSw; (try dsimp only at hSw); go_simp; try with_reducible rfl
            try simp only [Act.put, List.setIfInBounds_toArray, List.set_cons_zero, List.set_cons_succ]
            refine wpAnyH_take (i := 7) (oi := ⟨some 124, _, _, _, _, _⟩) (v := ?v77) rfl (by kernel_rfl) (by kernel_rfl) (by kernel_rfl) (fun _ _ _ h => h) (Or.inl ⟨by kernel_rfl, ?h77⟩) hHeld ?_
            case h77 => intro w hSw; (try dsimp only at hSw); go_simp; try with_reducible rfl
            try simp only [Act.put, List.setIfInBounds_toArray, List.set_cons_zero, List.set_cons_succ]
            refine wpAnyH_take (i := 8) (oi := ⟨some 125, _, _, _, _, _⟩) (v := ?v78) rfl (by kernel_rfl) (by kernel_rfl) (by kernel_rfl) (fun _ _ _ h => h) (Or.inl ⟨by kernel_rfl, ?h78⟩) hHeld ?_
            case h78 => intro w hSw; (try dsimp only at hSw); go_simp; try with_reducible rfl
            try simp only [Act.put, List.setIfInBounds_toArray, List.set_cons_zero, List.set_cons_succ]
            refine wpAnyH_take (i := 9) (oi := ⟨some 126, _, _, _, _, _⟩) (v := ?v79) rfl (by kernel_rfl) (by kernel_rfl) (by kernel_rfl) (fun _ _ _ h => h) (Or.inl ⟨by kernel_rfl, ?h79⟩) hHeld ?_
            case h79 => intro w hSw; (try dsimp only at hSw); go_simp; try with_reducible rfl
            try simp only [Act.put, List.setIfInBounds_toArray, List.set_cons_zero, List.set_cons_succ]
            refine wpAnyH_take (i := 10) (oi := ⟨some 127, _, _, _, _, _⟩) (v := ?v80) rfl (by kernel_rfl) (by kernel_rfl) (by kernel_rfl) (fun _ _ _ h => h) (Or.inl ⟨by kernel_rfl, ?h80⟩) hHeld ?_
            case h80 => intro w hSw; (try dsimp only at hSw); go_simp; try with_reducible rfl
            try simp only [Act.put, List.setIfInBounds_toArray, List.set_cons_zero, List.set_cons_succ]
            refine wpAnyH_ready (rs := [11]) (by kernel_rfl) (by simp) ?_
            refine AllReadyH.cons (o := ⟨some 128, _, _, _, _, _⟩) rfl (fun K hK => ?_) AllReadyH.nil
            rw [if_pos (by kernel_rfl)]
            go_simp
            refine (mdo ((HMM.out.same HT.out).same (Sep.drew (fun _ => False) wc)) (by have := HS.out.2.2; omega) ci ce A).mono ?_
            rw [← HR.out, ← HRV.out, ← HRK.out]
            rintro e wP ⟨rfl, hmP, hsP⟩
            have hsPc : In lo hi wc wP := (Sep.drew _ wc).trans hsP
            refine hK.out _ _ ?_ (fun hHeld => ?_)
            · exact ⟨Sep.cell hsPc e0 (by have := HBLO.out; simp; omega), Sep.cell hsPc e1 (by have := HBLO.out; simp; omega), Sep.cell hsPc a0' (by have := HBLO.out; simp; omega), Sep.cell hsPc a1' (by have := HBLO.out; simp; omega), Sep.cell hsPc a2' (by have := HBLO.out; simp; omega), Sep.cell hsPc a3' (by have := HBLO.out; simp; omega), hsPc⟩
            clear hK K
            try simp only [Act.put, List.setIfInBounds_toArray, List.set_cons_zero, List.set_cons_succ]
            refine wpAnyH_take (i := 12) (oi := ⟨some 116, _, _, _, _, _⟩) (v := ?v81) rfl (by kernel_rfl) (by kernel_rfl) (by kernel_rfl) (fun _ _ _ h => h) (Or.inl ⟨by kernel_rfl, ?h81⟩) hHeld ?_
            case h81 => intro w hSw; (try dsimp only at hSw); go_simp; try with_reducible rfl
            try simp only [Act.put, List.setIfInBounds_toArray, List.set_cons_zero, List.set_cons_succ]
            refine wpAnyH_take (i := 13) (oi := ⟨some 129, _, _, _, _, _⟩) (v := ?v82) rfl (by kernel_rfl) (by kernel_rfl) (by kernel_rfl) (fun _ _ _ h => h) (Or.inl ⟨by kernel_rfl, ?h82⟩) hHeld ?_
            case h82 => intro w hSw; (try dsimp only at hSw); go_simp; try with_reducible rfl
            try simp only [Act.put, List.setIfInBounds_toArray, List.set_cons_zero, List.set_cons_succ]
            refine wpAnyH_take (i := 14) (oi := ⟨some 130, _, _, _, _, _⟩) (v := ?v83) rfl (by kernel_rfl) (by kernel_rfl) (by kernel_rfl) (fun _ _ _ h => h) (Or.inl ⟨by kernel_rfl, ?h83⟩) hHeld ?_
            case h83 => intro w hSw; (try dsimp only at hSw); go_simp; try with_reducible rfl
            try simp only [Act.put, List.setIfInBounds_toArray, List.set_cons_zero, List.set_cons_succ]
            refine wpAnyH_take (i := 15) (oi := ⟨some 15, _, _, _, _, _⟩) (v := ?v84) rfl (by kernel_rfl) (by kernel_rfl) (by kernel_rfl) (fun _ _ _ h => h) (Or.inl ⟨by kernel_rfl, ?h84⟩) hHeld ?_
            case h84 => intro w hSw; (try dsimp only at hSw); go_simp; try with_reducible rfl
            try simp only [Act.put, List.setIfInBounds_toArray, List.set_cons_zero, List.set_cons_succ]
            refine wpAnyH_take (i := 16) (oi := ⟨some 16, _, _, _, _, _⟩) (v := ?v85) rfl (by kernel_rfl) (by kernel_rfl) (by kernel_rfl) (fun _ _ _ h => h) (Or.inl ⟨by kernel_rfl, ?h85⟩) hHeld ?_
            case h85 => intro w hSw; (try dsimp only at hSw); go_simp; try with_reducible rfl
            try simp only [Act.put, List.setIfInBounds_toArray, List.set_cons_zero, List.set_cons_succ]
            refine wpAnyH_done (by kernel_rfl) ?_ _
            clear hHeld
            go_wp2
            go_meet
            case rel =>
              exact ⟨rfl, rfl, hmP, (Same.sep HT.out _).trans hsPc⟩
          case rest =>
            obtain ⟨rfl, rfl, hm3, hs3⟩ := hcut
            have ox3 := Sep.obj hs3 HOX.out (by have := hbxi.out; omega)
            have e0 := Sep.cell hs3 E0.out (by have := HBLO.out; simp; omega)
            have e1 := Sep.cell hs3 E1.out (by have := HBLO.out; simp; omega)
            have a0' := Sep.cell hs3 A0.out (by have := HBLO.out; simp; omega)
            have a1' := Sep.cell hs3 A1.out (by have := HBLO.out; simp; omega)
            have a2' := Sep.cell hs3 A2.out (by have := HBLO.out; simp; omega)
            have a3' := Sep.cell hs3 A3.out (by have := HBLO.out; simp; omega)
            have HM3 := Lib.hid hm3
            have HS3 := Lib.hid hs3
            have HOX3 := Lib.hid ox3
            have HRM3 := Lib.hid (HRM.out.stay hs3 (fun b hb _ h => by omega))
            have HFM3 : Hid (∀ q, wc.heap.size ≤ q → FM lo hi bx q) := fun q hq => HFM.out q (Nat.le_trans hs3.size hq)
            obtain ⟨m0, m1, m2, mf⟩ := cells3x ox3
            clear hm3 hs3 ox3 mf
            obtain ⟨W3, hW3⟩ : ∃ x, x = wc := ⟨_, rfl⟩
            rw [← hW3] at HM3 HS3 HOX3 HRM3 HFM3 m0 m1 m2 e0 e1 a0' a1' a2' a3' ⊢
            clear hW3
            go_upto_region 21 with fail
            go_cut [17, 18, 19] from 57 to 155 (fun s17 s18 s19 wx => MDone (FM lo hi bx) (cnt + R.d) rv rk R.L W3 s17 s18 s19 wx)
            case first =>
              refine wp_region_held_drew (S := (fun v => v.cell? ⟨bx, 0, none⟩ = some (x0) ∧ v.cell? ⟨bx, 1, none⟩ = some (x1) ∧ v.cell? ⟨bx, 2, none⟩ = some (x2) ∧ v.cell? ⟨b, off + k * 7 + 1, none⟩ = some (.int .i64 ci) ∧ v.cell? ⟨b, off + k * 7 + 2, none⟩ = some (.int .u64 ce) ∧ v.cell? ⟨b, off + k * 7 + 3, none⟩ = some (.int .i64 A.op) ∧ v.cell? ⟨b, off + k * 7 + 4, none⟩ = some (.int .i64 A.at_) ∧ v.cell? ⟨b, off + k * 7 + 5, none⟩ = some (.int .u64 A.x) ∧ v.cell? ⟨b, off + k * 7 + 6, none⟩ = some (.int .u64 A.y) ∧ Same W3 v)) (by kernel_rfl) ?_ (fun hHeld => ?_)
              · exact ⟨(Sep.drew (fun _ => False) W3).cell m0 (fun x => x), (Sep.drew (fun _ => False) W3).cell m1 (fun x => x), (Sep.drew (fun _ => False) W3).cell m2 (fun x => x), (Sep.drew (fun _ => False) W3).cell e0 (fun x => x), (Sep.drew (fun _ => False) W3).cell e1 (fun x => x), (Sep.drew (fun _ => False) W3).cell a0' (fun x => x), (Sep.drew (fun _ => False) W3).cell a1' (fun x => x), (Sep.drew (fun _ => False) W3).cell a2' (fun x => x), (Sep.drew (fun _ => False) W3).cell a3' (fun x => x), Sep.drew _ _⟩
              change wpAnyH _ _ _ _ _ 20 _ _ _
              refine wpAnyH_take (i := 0) (oi := ⟨some 132, _, _, _, _, _⟩) (v := ?v34) rfl (by kernel_rfl) (by kernel_rfl) (by kernel_rfl) (fun _ _ _ h => h) (Or.inl ⟨by kernel_rfl, ?h34⟩) hHeld ?_
              case h34 => intro w hSw; (try dsimp only at hSw); go_simp; try with_reducible rfl
              try simp only [Act.put, List.setIfInBounds_toArray, List.set_cons_zero, List.set_cons_succ]
              refine wpAnyH_take (i := 1) (oi := ⟨some 133, _, _, _, _, _⟩) (v := ?v35) rfl (by kernel_rfl) (by kernel_rfl) (by kernel_rfl) (fun _ _ _ h => h) (Or.inl ⟨by kernel_rfl, ?h35⟩) hHeld ?_
              case h35 => intro w hSw; (try dsimp only at hSw); go_simp; try with_reducible rfl
              try simp only [Act.put, List.setIfInBounds_toArray, List.set_cons_zero, List.set_cons_succ]
              refine wpAnyH_take (i := 2) (oi := ⟨some 134, _, _, _, _, _⟩) (v := ?v36) rfl (by kernel_rfl) (by kernel_rfl) (by kernel_rfl) (fun _ _ _ h => h) (Or.inl ⟨by kernel_rfl, ?h36⟩) hHeld ?_
              case h36 => intro w hSw; (try dsimp only at hSw); go_simp; try with_reducible rfl
              try simp only [Act.put, List.setIfInBounds_toArray, List.set_cons_zero, List.set_cons_succ]
              refine wpAnyH_take (i := 3) (oi := ⟨some 135, _, _, _, _, _⟩) (v := ?v37) rfl (by kernel_rfl) (by kernel_rfl) (by kernel_rfl) (fun _ _ _ h => h) (Or.inl ⟨by kernel_rfl, ?h37⟩) hHeld ?_
              case h37 => intro w hSw; (try dsimp only at hSw); go_simp; try with_reducible rfl
              try simp only [Act.put, List.setIfInBounds_toArray, List.set_cons_zero, List.set_cons_succ]
              refine wpAnyH_take (i := 4) (oi := ⟨some 136, _, _, _, _, _⟩) (v := ?v38) rfl (by kernel_rfl) (by kernel_rfl) (by kernel_rfl) (fun _ _ _ h => h) (Or.inl ⟨by kernel_rfl, ?h38⟩) hHeld ?_
              case h38 => intro w hSw; (try dsimp only at hSw); go_simp; try with_reducible rfl
              try simp only [Act.put, List.setIfInBounds_toArray, List.set_cons_zero, List.set_cons_succ]
              refine wpAnyH_take (i := 5) (oi := ⟨some 137, _, _, _, _, _⟩) (v := ?v39) rfl (by kernel_rfl) (by kernel_rfl) (by kernel_rfl) (fun _ _ _ h => h) (Or.inl ⟨by kernel_rfl, ?h39⟩) hHeld ?_
              case h39 => intro w hSw; (try dsimp only at hSw); go_simp; try with_reducible rfl
              try simp only [Act.put, List.setIfInBounds_toArray, List.set_cons_zero, List.set_cons_succ]
              refine wpAnyH_take (i := 6) (oi := ⟨some 138, _, _, _, _, _⟩) (v := ?v40) rfl (by kernel_rfl) (by kernel_rfl) (by kernel_rfl) (fun _ _ _ h => h) (Or.inl ⟨by kernel_rfl, ?h40⟩) hHeld ?_
              case h40 => intro w hSw; (try dsimp only at hSw); go_simp; try with_reducible rfl
              try simp only [Act.put, List.setIfInBounds_toArray, List.set_cons_zero, List.set_cons_succ]
              refine wpAnyH_take (i := 7) (oi := ⟨some 139, _, _, _, _, _⟩) (v := ?v41) rfl (by kernel_rfl) (by kernel_rfl) (by kernel_rfl) (fun _ _ _ h => h) (Or.inl ⟨by kernel_rfl, ?h41⟩) hHeld ?_
              case h41 => intro w hSw; (try dsimp only at hSw); go_simp; try with_reducible rfl
              try simp only [Act.put, List.setIfInBounds_toArray, List.set_cons_zero, List.set_cons_succ]
              refine wpAnyH_take (i := 8) (oi := ⟨some 140, _, _, _, _, _⟩) (v := ?v42) rfl (by kernel_rfl) (by kernel_rfl) (by kernel_rfl) (fun _ _ _ h => h) (Or.inl ⟨by kernel_rfl, ?h42⟩) hHeld ?_
              case h42 => intro w hSw; (try dsimp only at hSw); go_simp; try with_reducible rfl
              try simp only [Act.put, List.setIfInBounds_toArray, List.set_cons_zero, List.set_cons_succ]
              refine wpAnyH_take (i := 9) (oi := ⟨some 141, _, _, _, _, _⟩) (v := ?v43) rfl (by kernel_rfl) (by kernel_rfl) (by kernel_rfl) (fun _ _ _ h => h) (Or.inl ⟨by kernel_rfl, ?h43⟩) hHeld ?_
              case h43 => intro w hSw; (try dsimp only at hSw); go_simp; try with_reducible rfl
              try simp only [Act.put, List.setIfInBounds_toArray, List.set_cons_zero, List.set_cons_succ]
              refine wpAnyH_take (i := 10) (oi := ⟨some 142, _, _, _, _, _⟩) (v := ?v44) rfl (by kernel_rfl) (by kernel_rfl) (by kernel_rfl) (fun _ _ _ h => h) (Or.inl ⟨by kernel_rfl, ?h44⟩) hHeld ?_
              case h44 => intro w hSw; (try dsimp only at hSw); go_simp; try with_reducible rfl
              try simp only [Act.put, List.setIfInBounds_toArray, List.set_cons_zero, List.set_cons_succ]
              refine wpAnyH_ready (rs := [11, 16]) (by kernel_rfl) (by simp) ?_
              refine AllReadyH.cons (o := ⟨some 143, _, _, _, _, _⟩) rfl (fun K hK => ?_) ?_
              ·
                rw [if_pos (by kernel_rfl)]
                go_simp
                refine ((rdo (F := fun q => FM lo hi bx q) ((HRM3.out.imp (fun q hq hlt => hq)).same (Sep.drew (fun _ => False) W3)) HS.out (by omega) ci ce A (fun q hq => by have := Sep.size (Sep.drew (fun _ => False) W3); exact HFM3.out q (by omega)))).mono ?_
                rw [← HR.out, ← HRV.out, ← HRK.out]
                rintro e wS41 ⟨wa', wl, wk', ea', el, ec', cq, rfl, rm41, hsS⟩
                have hS41 : Same W3 wS41 := Sep.trans (Sep.drew (fun _ => False) W3) hsS
                refine hK.out _ _ ?_ (fun hHeld => ?_)
                · exact ⟨Same.cell hS41 m0, Same.cell hS41 m1, Same.cell hS41 m2, Same.cell hS41 e0, Same.cell hS41 e1, Same.cell hS41 a0', Same.cell hS41 a1', Same.cell hS41 a2', Same.cell hS41 a3', hS41⟩
                clear hK K
                try simp only [Act.put, List.setIfInBounds_toArray, List.set_cons_zero, List.set_cons_succ]
                refine wpAnyH_take (i := 12) (oi := ⟨some 131, _, _, _, _, _⟩) (v := ?v45) rfl (by kernel_rfl) (by kernel_rfl) (by kernel_rfl) (fun _ _ _ h => h) (Or.inl ⟨by kernel_rfl, ?h45⟩) hHeld ?_
                case h45 => intro w hSw; (try dsimp only at hSw); go_simp; try with_reducible rfl
                try simp only [Act.put, List.setIfInBounds_toArray, List.set_cons_zero, List.set_cons_succ]
                refine wpAnyH_take (i := 13) (oi := ⟨some 144, _, _, _, _, _⟩) (v := ?v46) rfl (by kernel_rfl) (by kernel_rfl) (by kernel_rfl) (fun _ _ _ h => h) (Or.inl ⟨by kernel_rfl, ?h46⟩) hHeld ?_
                case h46 => intro w hSw; (try dsimp only at hSw); go_simp; try with_reducible rfl
                try simp only [Act.put, List.setIfInBounds_toArray, List.set_cons_zero, List.set_cons_succ]
                refine wpAnyH_take (i := 14) (oi := ⟨some 145, _, _, _, _, _⟩) (v := ?v47) rfl (by kernel_rfl) (by kernel_rfl) (by kernel_rfl) (fun _ _ _ h => h) (Or.inl ⟨by kernel_rfl, ?h47⟩) hHeld ?_
                case h47 => intro w hSw; (try dsimp only at hSw); go_simp; try with_reducible rfl
                try simp only [Act.put, List.setIfInBounds_toArray, List.set_cons_zero, List.set_cons_succ]
                refine wpAnyH_take (i := 15) (oi := ⟨some 146, _, _, _, _, _⟩) (v := ?v48) rfl (by kernel_rfl) (by kernel_rfl) (by kernel_rfl) (fun _ _ _ h => h) (Or.inl ⟨by kernel_rfl, ?h48⟩) hHeld ?_
                case h48 => intro w hSw; (try dsimp only at hSw); go_simp; try with_reducible rfl
                try simp only [Act.put, List.setIfInBounds_toArray, List.set_cons_zero, List.set_cons_succ]
                refine wpAnyH_ready (rs := [16]) (by kernel_rfl) (by simp) ?_
                refine AllReadyH.cons (o := ⟨some 17, _, _, _, _, _⟩) rfl (fun K hK => ?_) AllReadyH.nil
                rw [if_pos (by kernel_rfl)]
                go_simp
                obtain ⟨wA54, hwA⟩ : ∃ x, x = wS41.alloc (.cells #[.slice none 0 0, .slice none 0 0, .int .i64 0] 51) := ⟨_, rfl⟩
                rw [← hwA]
                have hA54 : Same wS41 wA54 := by rw [hwA]; exact Sep.alloc _ _ _
                have obb17_54 : wA54.heap[wS41.heap.size]? = some (.cells #[.slice none 0 0, .slice none 0 0, .int .i64 0] 51) := by rw [hwA]; exact heap_alloc_new _ _
                obtain ⟨b17, hb⟩ : ∃ b, b = wS41.heap.size := ⟨_, rfl⟩
                have hF54 : Same W3 wA54 := Sep.trans (hS41) hA54
                have gl54 : wS41.heap.size ≤ b17 := by omega
                have gb17 : W3.heap.size ≤ b17 := by have := Sep.size (hS41); omega
                have rm54 := (rm41.imp (G := fun q => (FM lo hi bx q ∧ q ≠ b17)) (fun q hq hlt => ⟨hq, by omega⟩)).same hA54
                rw [← hb] at obb17_54 ⊢
                clear hwA hb
                refine hK.out _ _ ?_ (fun hHeld => ?_)
                · exact ⟨Same.cell hF54 m0, Same.cell hF54 m1, Same.cell hF54 m2, Same.cell hF54 e0, Same.cell hF54 e1, Same.cell hF54 a0', Same.cell hF54 a1', Same.cell hF54 a2', Same.cell hF54 a3', hF54⟩
                clear hK K
                try simp only [Act.put, List.setIfInBounds_toArray, List.set_cons_zero, List.set_cons_succ]
                refine wpAnyH_ready (rs := [17]) (by kernel_rfl) (by simp) ?_
                refine AllReadyH.cons (o := ⟨none, _, _, _, _, _⟩) rfl (fun K hK => ?_) AllReadyH.nil
                obtain ⟨t0, t1, t2, tf⟩ := cells3x obb17_54
                rw [if_pos (by kernel_rfl)]
                go_simp
                obtain ⟨wT56, hwT⟩ : ∃ x, x = (((wA54.setCell ⟨b17, 0, none⟩ (.slice wa' wl wk')).setCell ⟨b17, 1, none⟩ (.slice ea' el ec')).setCell ⟨b17, 2, none⟩ (.int .i64 cq)) := ⟨_, rfl⟩
                rw [← hwT]
                have h7 : Sep (fun k => k = b17) wA54 wT56 := by rw [hwT]; exact sep3 _ _ _ _ _
                have obb17_56 : wT56.heap[b17]? = some (.cells #[(.slice wa' wl wk'), (.slice ea' el ec'), (.int .i64 cq)] 51) := by rw [hwT]; exact heap3 obb17_54 rfl
                have hT56 : Same W3 wT56 := same_then hF54 gb17 h7
                have rm56 := rm54.stay h7 (fun q hq _ e => by omega)
                clear hwT h7
                refine hK.out _ _ ?_ (fun hHeld => ?_)
                · exact ⟨Same.cell hT56 m0, Same.cell hT56 m1, Same.cell hT56 m2, Same.cell hT56 e0, Same.cell hT56 e1, Same.cell hT56 a0', Same.cell hT56 a1', Same.cell hT56 a2', Same.cell hT56 a3', hT56⟩
                clear hK K
                try simp only [Act.put, List.setIfInBounds_toArray, List.set_cons_zero, List.set_cons_succ]
                refine wpAnyH_take (i := 18) (oi := ⟨some 18, _, _, _, _, _⟩) (v := ?v49) rfl (by kernel_rfl) (by kernel_rfl) (by kernel_rfl) (fun _ _ _ h => h) (Or.inl ⟨by kernel_rfl, ?h49⟩) hHeld ?_
                case h49 => intro w hSw; (try dsimp only at hSw); go_simp; try with_reducible rfl
                try simp only [Act.put, List.setIfInBounds_toArray, List.set_cons_zero, List.set_cons_succ]
                refine wpAnyH_take (i := 19) (oi := ⟨some 19, _, _, _, _, _⟩) (v := ?v50) rfl (by kernel_rfl) (by kernel_rfl) (by kernel_rfl) (fun _ _ _ h => h) (Or.inl ⟨by kernel_rfl, ?h50⟩) hHeld ?_
                case h50 => intro w hSw; (try dsimp only at hSw); go_simp; try with_reducible rfl
                try simp only [Act.put, List.setIfInBounds_toArray, List.set_cons_zero, List.set_cons_succ]
                refine wpAnyH_done (by kernel_rfl) ?_ _
                clear hHeld
                go_wp2
                go_meet
                case rel =>
                  exact ⟨b17, _, _, _, _, _, _, _, rfl, rfl, rfl, hT56, gb17, obb17_56, rm56.imp (fun q hq _ => by omega)⟩
              refine AllReadyH.cons (o := ⟨some 17, _, _, _, _, _⟩) rfl (fun K hK => ?_) AllReadyH.nil
              ·
                rw [if_pos (by kernel_rfl)]
                go_simp
                obtain ⟨wA59, hwA⟩ : ∃ x, x = (W3.alloc (.cells #[.slice none 0 0, .slice none 0 0, .int .i64 0] 51)).drew := ⟨_, rfl⟩
                rw [← hwA]
                have hA59 : Same W3 wA59 := by rw [hwA]; exact Sep.trans (Sep.alloc _ W3 _) (Sep.drew _ _)
                have obb17_59 : wA59.heap[W3.heap.size]? = some (.cells #[.slice none 0 0, .slice none 0 0, .int .i64 0] 51) := by rw [hwA]; exact heap_alloc_new W3 _
                obtain ⟨b17, hb⟩ : ∃ b, b = W3.heap.size := ⟨_, rfl⟩
                have gb17 : W3.heap.size ≤ b17 := by omega
                rw [← hb] at obb17_59 ⊢
                clear hwA hb
                refine hK.out _ _ ?_ (fun hHeld => ?_)
                · exact ⟨Same.cell hA59 m0, Same.cell hA59 m1, Same.cell hA59 m2, Same.cell hA59 e0, Same.cell hA59 e1, Same.cell hA59 a0', Same.cell hA59 a1', Same.cell hA59 a2', Same.cell hA59 a3', hA59⟩
                clear hK K
                try simp only [Act.put, List.setIfInBounds_toArray, List.set_cons_zero, List.set_cons_succ]
                refine wpAnyH_ready (rs := [11]) (by kernel_rfl) (by simp) ?_
                refine AllReadyH.cons (o := ⟨some 143, _, _, _, _, _⟩) rfl (fun K hK => ?_) AllReadyH.nil
                rw [if_pos (by kernel_rfl)]
                go_simp
                refine ((rdo (F := fun q => (FM lo hi bx q ∧ q ≠ b17)) ((HRM3.out.imp (fun q hq hlt => ⟨hq, by omega⟩)).same (hA59)) HS.out (by omega) ci ce A (fun q hq => by have := Sep.size (hA59); have := lt_of_block obb17_59; exact ⟨HFM3.out q (by omega), by omega⟩))).mono ?_
                rw [← HR.out, ← HRV.out, ← HRK.out]
                rintro e wS61 ⟨wa', wl, wk', ea', el, ec', cq, rfl, rm61, hsS⟩
                have hS61 : Same W3 wS61 := Sep.trans (hA59) hsS
                have obb17_61 := Same.obj hsS obb17_59
                refine hK.out _ _ ?_ (fun hHeld => ?_)
                · exact ⟨Same.cell hS61 m0, Same.cell hS61 m1, Same.cell hS61 m2, Same.cell hS61 e0, Same.cell hS61 e1, Same.cell hS61 a0', Same.cell hS61 a1', Same.cell hS61 a2', Same.cell hS61 a3', hS61⟩
                clear hK K
                try simp only [Act.put, List.setIfInBounds_toArray, List.set_cons_zero, List.set_cons_succ]
                refine wpAnyH_take (i := 12) (oi := ⟨some 131, _, _, _, _, _⟩) (v := ?v51) rfl (by kernel_rfl) (by kernel_rfl) (by kernel_rfl) (fun _ _ _ h => h) (Or.inl ⟨by kernel_rfl, ?h51⟩) hHeld ?_
                case h51 => intro w hSw; (try dsimp only at hSw); go_simp; try with_reducible rfl
                try simp only [Act.put, List.setIfInBounds_toArray, List.set_cons_zero, List.set_cons_succ]
                refine wpAnyH_take (i := 13) (oi := ⟨some 144, _, _, _, _, _⟩) (v := ?v52) rfl (by kernel_rfl) (by kernel_rfl) (by kernel_rfl) (fun _ _ _ h => h) (Or.inl ⟨by kernel_rfl, ?h52⟩) hHeld ?_
                case h52 => intro w hSw; (try dsimp only at hSw); go_simp; try with_reducible rfl
                try simp only [Act.put, List.setIfInBounds_toArray, List.set_cons_zero, List.set_cons_succ]
                refine wpAnyH_take (i := 14) (oi := ⟨some 145, _, _, _, _, _⟩) (v := ?v53) rfl (by kernel_rfl) (by kernel_rfl) (by kernel_rfl) (fun _ _ _ h => h) (Or.inl ⟨by kernel_rfl, ?h53⟩) hHeld ?_
                case h53 => intro w hSw; (try dsimp only at hSw); go_simp; try with_reducible rfl
                try simp only [Act.put, List.setIfInBounds_toArray, List.set_cons_zero, List.set_cons_succ]
                refine wpAnyH_take (i := 15) (oi := ⟨some 146, _, _, _, _, _⟩) (v := ?v54) rfl (by kernel_rfl) (by kernel_rfl) (by kernel_rfl) (fun _ _ _ h => h) (Or.inl ⟨by kernel_rfl, ?h54⟩) hHeld ?_
                case h54 => intro w hSw; (try dsimp only at hSw); go_simp; try with_reducible rfl
                try simp only [Act.put, List.setIfInBounds_toArray, List.set_cons_zero, List.set_cons_succ]
                refine wpAnyH_ready (rs := [17]) (by kernel_rfl) (by simp) ?_
                refine AllReadyH.cons (o := ⟨none, _, _, _, _, _⟩) rfl (fun K hK => ?_) AllReadyH.nil
                obtain ⟨t0, t1, t2, tf⟩ := cells3x obb17_61
                rw [if_pos (by kernel_rfl)]
                go_simp
                obtain ⟨wT72, hwT⟩ : ∃ x, x = (((wS61.setCell ⟨b17, 0, none⟩ (.slice wa' wl wk')).setCell ⟨b17, 1, none⟩ (.slice ea' el ec')).setCell ⟨b17, 2, none⟩ (.int .i64 cq)) := ⟨_, rfl⟩
                rw [← hwT]
                have h7 : Sep (fun k => k = b17) wS61 wT72 := by rw [hwT]; exact sep3 _ _ _ _ _
                have obb17_72 : wT72.heap[b17]? = some (.cells #[(.slice wa' wl wk'), (.slice ea' el ec'), (.int .i64 cq)] 51) := by rw [hwT]; exact heap3 obb17_61 rfl
                have hT72 : Same W3 wT72 := same_then hS61 gb17 h7
                have rm72 := rm61.stay h7 (fun q hq _ e => by omega)
                clear hwT h7
                refine hK.out _ _ ?_ (fun hHeld => ?_)
                · exact ⟨Same.cell hT72 m0, Same.cell hT72 m1, Same.cell hT72 m2, Same.cell hT72 e0, Same.cell hT72 e1, Same.cell hT72 a0', Same.cell hT72 a1', Same.cell hT72 a2', Same.cell hT72 a3', hT72⟩
                clear hK K
                try simp only [Act.put, List.setIfInBounds_toArray, List.set_cons_zero, List.set_cons_succ]
                refine wpAnyH_take (i := 18) (oi := ⟨some 18, _, _, _, _, _⟩) (v := ?v55) rfl (by kernel_rfl) (by kernel_rfl) (by kernel_rfl) (fun _ _ _ h => h) (Or.inl ⟨by kernel_rfl, ?h55⟩) hHeld ?_
                case h55 => intro w hSw; (try dsimp only at hSw); go_simp; try with_reducible rfl
                try simp only [Act.put, List.setIfInBounds_toArray, List.set_cons_zero, List.set_cons_succ]
                refine wpAnyH_take (i := 19) (oi := ⟨some 19, _, _, _, _, _⟩) (v := ?v56) rfl (by kernel_rfl) (by kernel_rfl) (by kernel_rfl) (fun _ _ _ h => h) (Or.inl ⟨by kernel_rfl, ?h56⟩) hHeld ?_
                case h56 => intro w hSw; (try dsimp only at hSw); go_simp; try with_reducible rfl
                try simp only [Act.put, List.setIfInBounds_toArray, List.set_cons_zero, List.set_cons_succ]
                refine wpAnyH_done (by kernel_rfl) ?_ _
                clear hHeld
                go_wp2
                go_meet
                case rel =>
                  exact ⟨b17, _, _, _, _, _, _, _, rfl, rfl, rfl, hT72, gb17, obb17_72, rm72.imp (fun q hq _ => by omega)⟩
            case rest =>
              obtain ⟨b17, wa', wl, wk', ea', el, ec', cq, rfl, rfl, rfl, hT3, g17, ob17, hrm4⟩ := hcut
              obtain ⟨t0, t1, t2, tf⟩ := cells3x ob17
              obtain ⟨q0, q1, q2, qf⟩ := cells3x (Same.obj hT3 HOX3.out)
              have n17 : ¬ b17 = bx := by have := HBW.out; have := HS3.out.size; omega
              have HT3 := Lib.hid hT3
              have HRM4 := Lib.hid hrm4
              clear hT3 hrm4 ob17 g17 m0 m1 m2 e0 e1 a0' a1' a2' a3'
              go_upto_region 23 with fail
              obtain ⟨wV, hwV⟩ : ∃ x, x = ((wc.setCell ⟨bx, 0, none⟩ (.slice wa' wl wk')).setCell ⟨bx, 1, none⟩ (.slice ea' el ec')).setCell ⟨bx, 2, none⟩ (.int .i64 cq) := ⟨_, rfl⟩
              rw [← hwV]
              have sV : Sep (fun k => k = bx) wc wV := by rw [hwV]; exact sep3 _ _ _ _ _
              have oV : wV.heap[bx]? = some (.cells #[.slice wa' wl wk', .slice ea' el ec', .int .i64 cq] 51) := by rw [hwV]; exact heap3 (Same.obj HT3.out HOX3.out) rfl
              have hend : MLoop lo hi p bx w (k + 1) wV := by
                refine ⟨R.L, cnt + R.d, _, _, _, (HM3.out.same HT3.out).stay sV (fun b h1 h2 h3 => by have := hbxi.out; omega), oV, HRM4.out.stay sV (fun b hb _ h => hb.2 h), ?_, ?_⟩
                · rw [HR.out]; exact doJ_sized HS.out
                · exact (HIN.out.trans (HS3.out.mono fun _ _ h => .inl h)).trans ((Same.sep HT3.out _).trans (sV.mono fun _ _ h => .inr h))
              have HEND := Lib.hid hend
              clear hend sV oV hwV t0 t1 t2 tf q0 q1 q2 qf
              cases rk
              · go_wp2
                go_roundw
                case rel => exact ⟨k + 1, by omega, by go_num, HEND.out⟩
                case measure => simp [intOf]; omega
              · go_wp2
                go_roundw
                case rel => exact ⟨k + 1, by omega, by go_num, HEND.out⟩
                case measure => simp [intOf]; omega
    · obtain ⟨m0, m1, m2, mf⟩ := cells3x hox
      have HBEL := Lib.hid (Sep.below (B := w.heap.size) hin (fun q hq => by have := HLOW.out; have := hbxi.out; have := HM1.out.lop; omega) (Nat.le_refl _))
      clear hM hox hrm hS hin mf
      go_wp2_with fail
      refine (same33 HMM.out HRM.out (by have := HS.out.1; omega) (fun i hi => by have := (HS.out.2.1 i hi).1; omega)).mono ?_
      rintro e w3 ⟨rfl, hs3⟩
      go_wp2
      go_ret
      exact ⟨rfl, below_same HBEL.out hs3 (by have := HBEL.out.size; exact this)⟩
end Go.Proofs.Ytiljledgoflogaa

