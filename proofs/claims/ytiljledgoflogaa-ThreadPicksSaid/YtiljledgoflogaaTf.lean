/- One memory and one worker; a program that does nothing. -/
import Derived.Test.YtiljledgoflogaaTe
namespace Go.Proofs.Ytiljledgoflogaa
open Go.RowKit
set_option linter.unusedSimpArgs false
set_option linter.unusedVariables false

/-- What is neither the memory's nor a worker's. -/
abbrev FF (lo hq : Nat) (b : Nat) : Prop := b < lo ∨ hq ≤ b

/-- One memory, one worker. -/
structure St (lo hi hq wp mp bp c cap : Nat) (w0 w : World) (L : List Reg) (cnt : Nat) (J : Job) : Prop where
  wk : Wk (FF lo hq) w wp mp bp c cap J
  mem : Mem lo hi w mp L cnt
  inn : In lo hq w0 w
  le : hq ≤ w.heap.size
  ar : w0.heap.size ≤ lo ∧ lo < hi ∧ hi ≤ wp ∧ wp < hq ∧ hi ≤ bp ∧ bp < hq ∧ hi ≤ c ∧ c < hq

section
variable {lo hi hq wp mp bp c cap : Nat} {w0 w w' : World} {L : List Reg} {cnt : Nat} {J : Job}
theorem St.same (h : St lo hi hq wp mp bp c cap w0 w L cnt J) (hs : Same w w') : St lo hi hq wp mp bp c cap w0 w' L cnt J :=
  ⟨h.wk.same hs, h.mem.same hs, h.inn.trans (Same.sep hs _), Nat.le_trans h.le hs.size, h.ar⟩
theorem St.arg (h : St lo hi hq wp mp bp c cap w0 w L cnt J) {v : Value} {l : List Acc} (hv : ArgA w0 v l) : ArgF (FF lo hq) w v l := by
  have := h.ar
  exact (hv.on (F := FF lo hq) (fun b hb => .inl (by omega))).stay h.inn (fun b hb _ => by omega)
theorem St.give (h : St lo hi hq wp mp bp c cap w0 w L cnt J) {a0 : Option Addr} {n0 c0 : Nat} {l : List Acc} (hv : ArgF (FF lo hq) w (.slice a0 n0 c0) l) (hr : J.box.length < cap) : Calls Try.prog 52 #[.pointer (some ⟨wp, 0, none⟩), .slice a0 n0 c0] w fun e w' => e = .returned (.int .i64 0) ∧ St lo hi hq wp mp bp c cap w0 w' L cnt ⟨J.box ++ [l], J.cur⟩ := by
  have ar := h.ar
  refine (give_room h.wk hv (by omega) hr).mono ?_
  rintro e w' ⟨rfl, h1, h2⟩
  exact ⟨rfl, h1, h.mem.stay h2 (fun b _ _ _ => by omega), h.inn.trans (h2.mono fun _ _ _ => by omega), Nat.le_trans h.le h2.size, ar⟩
theorem St.idle (h : St lo hi hq wp mp bp c cap w0 w L cnt ⟨[], none⟩) (ci ce : Int) : Calls Try.prog 54 #[.pointer (some ⟨wp, 0, none⟩), .agg #[.int .i64 ci, .int .u64 ce]] w fun e w' => e = .returned (evt 0 (.slice none 0 0)) ∧ St lo hi hq wp mp bp c cap w0 w' L cnt ⟨[], none⟩ := by
  refine (pick_idle h.wk ci ce).mono ?_
  rintro e w' ⟨rfl, hs⟩
  exact ⟨rfl, h.same hs⟩
theorem St.skip {B : List (List Acc)} (h : St lo hi hq wp mp bp c cap w0 w L cnt ⟨[] :: B, none⟩) (ci ce : Int) : Calls Try.prog 54 #[.pointer (some ⟨wp, 0, none⟩), .agg #[.int .i64 ci, .int .u64 ce]] w fun e w' =>
    ∃ ra rc, e = .returned (evt 2 (.slice ra 0 rc)) ∧ SlcU (FF lo hq) w' (.slice ra 0 rc) [] ∧ St lo hi hq wp mp bp c cap w0 w' L cnt ⟨B, none⟩ := by
  have ar := h.ar
  have le := h.le
  refine (pick_nil h.wk ci ce (fun b hb => by omega) (fun b hb => by omega)).mono ?_
  rintro e w' ⟨ra, rc, rfl, h0, h1, h2⟩
  exact ⟨ra, rc, rfl, h0, h1, h.mem.stay h2 (fun b _ _ _ => by omega), h.inn.trans (h2.mono fun _ _ _ => by omega), Nat.le_trans h.le h2.size, ar⟩

/-- What Pick answers where an access comes up. -/
def PickSt (lo hi hq wp mp bp c cap : Nat) (w0 : World) (L : List Reg) (cnt : Nat) (ci ce : Int) (B : List (List Acc)) (A : Acc) (l : List Acc) (told : List Int) (e : Ending) (w' : World) : Prop :=
  (okB L ci ce A.op A.at_ = false ∧ e = .returned (evt 3 (.slice none 0 0)) ∧ St lo hi hq wp mp bp c cap w0 w' L cnt ⟨B, none⟩) ∨
  (okB L ci ce A.op A.at_ = true ∧ l = [] ∧ ∃ ra rc, e = .returned (evt 2 (.slice ra (told.length + 1) rc)) ∧ SlcU (FF lo hq) w' (.slice ra (told.length + 1) rc) (told ++ [peekOf L ci A.at_]) ∧ St lo hi hq wp mp bp c cap w0 w' (doL L ci.toNat A.at_.toNat A.op A.x A.y) (cnt + 1) ⟨B, none⟩) ∨
  (okB L ci ce A.op A.at_ = true ∧ l ≠ [] ∧ e = .returned (evt 1 (.slice none 0 0)) ∧ St lo hi hq wp mp bp c cap w0 w' (doL L ci.toNat A.at_.toNat A.op A.x A.y) (cnt + 1) ⟨B, some (l, told ++ [peekOf L ci A.at_])⟩)
theorem St.step (h : St lo hi hq wp mp bp c cap w0 w L cnt J) {B : List (List Acc)} {A : Acc} {l : List Acc} {told : List Int} (hJ : J = ⟨B, some (A :: l, told)⟩ ∨ (J = ⟨(A :: l) :: B, none⟩ ∧ told = [])) (ci ce : Int) (hcnt : cnt < 1000000000) (hk : told.length ≤ 1000) (hl : l.length < 1000) :
    Calls Try.prog 54 #[.pointer (some ⟨wp, 0, none⟩), .agg #[.int .i64 ci, .int .u64 ce]] w (PickSt lo hi hq wp mp bp c cap w0 L cnt ci ce B A l told) := by
  have ar := h.ar
  have le := h.le
  refine (pick_go h.wk hJ h.mem ci ce hcnt hk hl (fun b hb => by omega) (fun b hb => by omega) (fun b hb => by omega) (by omega) (by omega) (by omega)).mono ?_
  rintro e w' ⟨h2, hx⟩
  have i2 : In lo hq w0 w' := h.inn.trans (h2.mono fun _ _ _ => by omega)
  have le2 := Nat.le_trans h.le h2.size
  rcases hx with ⟨h3, h4, h5, h6⟩ | ⟨h3, h5, ⟨h6, ra, rc, h7, h8, h9⟩ | ⟨h6, h7, h9⟩⟩
  · exact .inl ⟨h3, h4, h6, h5, i2, le2, ar⟩
  · exact .inr (.inl ⟨h3, h6, ra, rc, h7, h8, h9, h5, i2, le2, ar⟩)
  · exact .inr (.inr ⟨h3, h6, h7, h9, h5, i2, le2, ar⟩)
/-- A memory and a new worker. -/
theorem St.make {w1 : World} (n : Nat) (h1 : 1 ≤ n) (h2 : n ≤ 4096) (hm : Mem lo hi w1 mp L cnt) (hs : Same w0 w1) (hlo : w0.heap.size ≤ lo) (hhi : w1.heap.size = hi) : Calls Try.prog 51 #[.pointer (some ⟨mp, 0, none⟩), .int .i64 n] w1 fun e w' =>
    ∃ wp bp c hq, e = .returned (.tuple #[.pointer (some ⟨wp, 0, none⟩), .int .i64 0]) ∧ St lo hi hq wp mp bp c n w0 w' L cnt ⟨[], none⟩ := by
  refine (wnew_ok (F := fun _ => True) mp n h1 h2 w1).mono ?_
  rintro e w' ⟨wp, bp, c, rfl, hw, a1, a2, a3, hs2⟩
  obtain ⟨k1, k2, k3, _⟩ := hw.lt
  have hl := hm.lop
  exact ⟨wp, bp, c, w'.heap.size, rfl, hw.free, hm.same hs2, Same.sep (hs.trans hs2) _, Nat.le_refl _, hlo, by omega, by omega, by omega, by omega, by omega, by omega, by omega⟩
end

/-- The kind of an event. -/
theorem run_kind (k : Int) (r : Value) (w : World) : (Go.Instr.field 107 (.agg #[.int .i64 k, r]) 0).run Try.prog w = .ok (.int .i64 k) w := by
  simp [go_sem, Go.Instr.field, Go.part, Go.asAgg]

set_option maxRecDepth 100000 in
theorem awake5_ok (w : World) : Calls Try.prog 50 #[] w fun e w' => e = .returned (.bool true) ∧ Same w w' := by
  go_enter Try.func50, Try.ntmps50
  go_wp2_with fail
  refine (new_lit w [1] _ 1 rfl rfl (by decide) (by decide)).mono ?_
  rintro e w1 ⟨p, lo, hi, rfl, hm, hs, hlo, hhi⟩
  have HHI := Lib.hid hhi
  clear hhi
  go_wp2_with fail
  refine (St.make 1 (by decide) (by decide) hm hs hlo HHI.out).mono ?_
  rintro e w2 ⟨wp, bp, c, hq, rfl, h2⟩
  go_wp2_with fail
  refine (h2.give .nil (by decide)).mono ?_
  rintro e w3 ⟨rfl, h3⟩
  go_wp2_with fail
  refine (waits_any h3.wk).mono ?_
  rintro e w4 ⟨rfl, rfl⟩
  go_wp2_with fail
  refine (cap_any h3.mem 0).mono ?_
  rintro e w5 ⟨rfl, hs5⟩
  go_wp2_with fail
  refine ((h3.same hs5).skip 0 1).mono ?_
  rintro e w6 ⟨ra, rc, rfl, h6, h7⟩
  have hkf := run_kind
  unfold evt
  go_wp2
  go_ret
  exact ⟨rfl, (same_of_below (h7.inn.below h7.ar.1 (Nat.le_refl _)))⟩
end Go.Proofs.Ytiljledgoflogaa
