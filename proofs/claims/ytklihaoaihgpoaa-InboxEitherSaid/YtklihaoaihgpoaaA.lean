/- Contracts of the boxes (package inbox): New, Put, Take, Len, Size at string and int: what each call answers, and what the box holds behind it. -/
import Derived.Test.YtklihaoaihgpoaaProg
import Derived.WalkKit
import Derived.Conc.LoneSelect
import Derived.Conc.LoneSelectN
import Derived.KernelRfl
import Derived.OneCell
namespace Go.Proofs.Ytklihaoaihgpoaa
open Go.RowKit Go.Conc

/-- But for blocks in S, and for new ones, the world is as it was. -/
structure Sep (S : Nat → Prop) (w w' : World) : Prop where
  os : w'.os = w.os
  tape : w'.tape = w.tape
  output : w'.output = w.output
  size : w.heap.size ≤ w'.heap.size
  block : ∀ k, k < w.heap.size → ¬ S k → w'.heap[k]? = w.heap[k]?

theorem Sep.refl (S : Nat → Prop) (w : World) : Sep S w w := ⟨rfl, rfl, rfl, Nat.le_refl _, fun _ _ _ => rfl⟩
theorem Sep.trans {S : Nat → Prop} {a b c : World} (h : Sep S a b) (k : Sep S b c) : Sep S a c :=
  ⟨k.os.trans h.os, k.tape.trans h.tape, k.output.trans h.output, Nat.le_trans h.size k.size, fun i hi hs => (k.block i (Nat.lt_of_lt_of_le hi h.size) hs).trans (h.block i hi hs)⟩
theorem Sep.mono {S S' : Nat → Prop} {a b : World} (h : Sep S a b) (hs : ∀ k, k < a.heap.size → S k → S' k) : Sep S' a b :=
  ⟨h.os, h.tape, h.output, h.size, fun k hk hn => h.block k hk (fun x => hn (hs k hk x))⟩
/-- Blocks below B are as they were, if S lies from B on, and B is no more than there were. -/
theorem Sep.below {S : Nat → Prop} {a b : World} {B : Nat} (h : Sep S a b) (hs : ∀ k, S k → B ≤ k) (hB : B ≤ a.heap.size) : Below B a b :=
  ⟨h.os, h.tape, h.output, h.size, fun k hk => h.block k (by omega) (fun x => by have := hs k x; omega)⟩
theorem Sep.one {c B : Nat} {a b : World} (h : Sep (· = c) a b) (hc : B ≤ c) (hB : B ≤ a.heap.size) : Below B a b := h.below (fun k e => by omega) hB
theorem sep_setChan (w : World) (c cap : Nat) (buf : Array Value) (cl : Bool) (s r : Nat) (tm : Bool) : Sep (· = c) w (w.setChan c cap buf cl s r tm) :=
  ⟨rfl, rfl, rfl, by simp [World.setChan], fun k _ hk => by simp only [World.setChan]; rw [Array.getElem?_setIfInBounds_ne (fun e => hk e.symm)]⟩

/-- A box: at p its one field, the channel c, that holds l and has room for cap. -/
def Box (T : TypeId) (w : World) (p c cap : Nat) (l : List Value) : Prop :=
  w.heap[p]? = some (.cells #[.chan (some c)] T) ∧ ∃ s r, w.heap[c]? = some (.chan cap l.toArray false s r false)
theorem Box.ne {T : TypeId} {w : World} {p c cap : Nat} {l : List Value} (h : Box T w p c cap l) : p ≠ c := by
  rintro rfl
  obtain ⟨h, s, r, h'⟩ := h
  rw [h] at h'
  cases h'
theorem Box.cell {T : TypeId} {w : World} {p c cap : Nat} {l : List Value} (h : Box T w p c cap l) : w.cell? ⟨p, 0, none⟩ = some (.chan (some c)) := cell_of_one h.1
theorem Box.ltp {T : TypeId} {w : World} {p c cap : Nat} {l : List Value} (h : Box T w p c cap l) : p < w.heap.size := lt_of_block h.1
theorem Box.ltc {T : TypeId} {w : World} {p c cap : Nat} {l : List Value} (h : Box T w p c cap l) : c < w.heap.size := by obtain ⟨_, s, r, h⟩ := h; exact lt_of_block h
theorem Box.set {T : TypeId} {w : World} {p c cap : Nat} {l : List Value} (h : Box T w p c cap l) (l' : List Value) (s r : Nat) : Box T (w.setChan c cap l'.toArray false s r false) p c cap l' := by
  refine ⟨?_, s, r, heap_setChan _ _ _ _ _ _ _ _ h.ltc⟩
  simp only [World.setChan]
  rw [Array.getElem?_setIfInBounds_ne (fun e => h.ne e.symm)]
  exact h.1
/-- A box stays as it is where neither of its blocks is written. -/
theorem Box.stay {T : TypeId} {w w' : World} {p c cap : Nat} {l : List Value} {S : Nat → Prop} (h : Box T w p c cap l) (hs : Sep S w w') (hp : ¬ S p) (hc : ¬ S c) : Box T w' p c cap l := by
  obtain ⟨h1, s, r, h2⟩ := h
  exact ⟨(hs.block p (lt_of_block h1) hp).trans h1, s, r, (hs.block c (lt_of_block h2) hc).trans h2⟩


/-! ### at S -/
theorem bytesS : ∃ i, Try.prog.info? 9 = some i ∧ i.bytes = 16 := by
  have h : (Try.prog.info? 9).map (·.bytes) = some 16 := by kernel_rfl
  obtain ⟨i, hi, hb⟩ := Option.map_eq_some_iff.1 h
  exact ⟨i, hi, hb⟩
theorem mkS (n : Nat) (h : n ≤ 4096) (w : World) : (Instr.makeChan 50 (.int .i64 n)).run Try.prog w = .ok (.chan (some w.heap.size)) (w.alloc (.chan n #[] false 0 0 false)) := by
  obtain ⟨i, hi, hb⟩ := bytesS
  simpa using run_makeChan (P := Try.prog) (w := w) Try.underlying50 hi .i64 n (by omega) (by rw [hb]; omega)
theorem newS_no (n : Int) (h : n < 1 ∨ 4096 < n) (w : World) : Calls Try.prog 8 #[.int .i64 n] w fun e w' =>
    e = .returned (.tuple #[.pointer none, .int .i64 1]) ∧ w = w' := by
  rcases h with h | h
  · go_enter Try.func8, Try.ntmps8
    go_wp2
    go_ret2
    exact ⟨rfl, rfl⟩
  · have h' : ¬ n < 1 := by omega
    go_enter Try.func8, Try.ntmps8
    go_wp2
    go_ret2
    exact ⟨rfl, rfl⟩
theorem newS (n : Nat) (z : Int) (hz : z = n) (h1 : 1 ≤ n) (h2 : n ≤ 4096) (w : World) : Calls Try.prog 8 #[.int .i64 z] w fun e w' =>
    ∃ p c, e = .returned (.tuple #[.pointer (some ⟨p, 0, none⟩), .int .i64 0]) ∧ Box 52 w' p c n [] ∧ w.heap.size ≤ p ∧ w.heap.size ≤ c ∧ Sep (fun _ => False) w w' := by
  subst hz
  have hmc := mkS n h2
  have key : ∀ (e : Ending) (w' : World), (e = .returned (.tuple #[.pointer (some ⟨w.heap.size + 1, 0, none⟩), .int .i64 0]) ∧ w' = (w.alloc (.chan n #[] false 0 0 false)).alloc (.cells #[.chan (some w.heap.size)] 52)) →
      ∃ p c, e = .returned (.tuple #[.pointer (some ⟨p, 0, none⟩), .int .i64 0]) ∧ Box 52 w' p c n [] ∧ w.heap.size ≤ p ∧ w.heap.size ≤ c ∧ Sep (fun _ => False) w w' := by
    rintro e w' ⟨rfl, rfl⟩
    refine ⟨w.heap.size + 1, w.heap.size, rfl, ⟨?_, 0, 0, ?_⟩, by omega, by omega, rfl, rfl, rfl, by simp; omega, fun k hk _ => ?_⟩
    · simpa using heap_alloc_new (w.alloc (.chan n #[] false 0 0 false)) (.cells #[.chan (some w.heap.size)] 52)
    · rw [Below.heap_alloc _ _ _ (by simp)]; exact heap_alloc_new _ _
    · rw [Below.heap_alloc _ _ _ (by simp; omega), Below.heap_alloc _ _ _ hk]
  refine Calls.mono ?_ key
  go_enter Try.func8, Try.ntmps8
  go_wp2
  go_ret2
  exact ⟨rfl, rfl⟩


set_option maxRecDepth 100000 in
theorem putS_room {p c cap : Nat} {l : List Value} (x : ByteArray) {w : World} (hb : Box 52 w p c cap l) (hr : l.length < cap) :
    Calls Try.prog 9 #[.pointer (some ⟨p, 0, none⟩), .string x] w fun e w' => e = .returned (.int .i64 0) ∧ Box 52 w' p c cap (l ++ [.string x]) ∧ Sep (· = c) w w' := by
  obtain ⟨s, r, hc⟩ := hb.2
  have hcell := hb.cell
  refine calls_of_loneTo fun cs => ?_
  have e : Frame.enter Try.prog 9 #[.pointer (some ⟨p, 0, none⟩), .string x] .normal = (base 9).at ⟨#[.pointer (some ⟨p, 0, none⟩), .string x, undef, undef, undef, undef, undef, undef, undef, undef, undef, undef, undef], []⟩ [.code (Try.f9.body.getD .skip)] := by
    simp [Frame.enter, Frame.at, Try.func9, base, Try.f9]
  rw [e]
  refine LoneTo.goes (n := 60) ?_
  simp only [Try.f9, Option.getD_some]
  s_c stepG_seq
  s_reg
  s_op
  s_c stepG_region_end
  s_c stepG_seq
  s_c stepG_seq
  s_reg
  s_op
  s_op
  s_op
  s_op
  s_c stepG_region_end
  s_reg
  s_op
  s_c stepG_region_end
  s_c stepG_seq
  s_reg
  s_stop
  refine LoneTo.step (step_lone_select_send_room (c := c) (v := .string x) (z' := .string ⟨#[]⟩) (cap := cap) (s := s) (r := r) (tm := false) (stepG_comm (cases := #[scase c (.string x) (.string ⟨#[]⟩)]) (blocking := false) (shape := .select) (w' := w) rfl rfl (by decide) (by simp [go_sem, execOp, scase, Act.eval])) hc (by simpa using hr)) ?_
  rw [Frame.finish_at]
  walk_nrm
  refine LoneTo.goes (n := 60) ?_
  s_op
  s_op
  s_c stepG_region_end
  s_c stepG_block
  s_cond true
  s_c stepG_seq
  s_reg
  s_op
  s_c stepG_region_end
  s_c stepG_ret'
  s_stop
  refine LoneTo.done ⟨.returned (.int .i64 0), _, rfl, ⟨rfl, ?_, sep_setChan _ _ _ _ _ _ _ _⟩, rfl, rfl, rfl, rfl, _, Try.func9, by simp [results, Try.f9, Frame.at]⟩
  simpa using hb.set (l ++ [.string x]) (s + 1) r

set_option maxRecDepth 100000 in
theorem putS_full {p c cap : Nat} {l : List Value} (x : ByteArray) {w : World} (hb : Box 52 w p c cap l) (hr : cap ≤ l.length) :
    Calls Try.prog 9 #[.pointer (some ⟨p, 0, none⟩), .string x] w fun e w' => e = .returned (.int .i64 8) ∧ w = w' := by
  obtain ⟨s, r, hc⟩ := hb.2
  have hcell := hb.cell
  refine calls_of_loneTo fun cs => ?_
  have e : Frame.enter Try.prog 9 #[.pointer (some ⟨p, 0, none⟩), .string x] .normal = (base 9).at ⟨#[.pointer (some ⟨p, 0, none⟩), .string x, undef, undef, undef, undef, undef, undef, undef, undef, undef, undef, undef], []⟩ [.code (Try.f9.body.getD .skip)] := by
    simp [Frame.enter, Frame.at, Try.func9, base, Try.f9]
  rw [e]
  refine LoneTo.goes (n := 60) ?_
  simp only [Try.f9, Option.getD_some]
  s_c stepG_seq
  s_reg
  s_op
  s_c stepG_region_end
  s_c stepG_seq
  s_c stepG_seq
  s_reg
  s_op
  s_op
  s_op
  s_op
  s_c stepG_region_end
  s_reg
  s_op
  s_c stepG_region_end
  s_c stepG_seq
  s_reg
  s_stop
  refine LoneTo.step (step_lone_select_send_full (c := c) (v := .string x) (z' := .string ⟨#[]⟩) (cap := cap) (s := s) (r := r) (tm := false) (stepG_comm (cases := #[scase c (.string x) (.string ⟨#[]⟩)]) (blocking := false) (shape := .select) (w' := w) rfl rfl (by decide) (by simp [go_sem, execOp, scase, Act.eval])) hc (by simpa using hr)) ?_
  rw [Frame.finish_at]
  walk_nrm
  refine LoneTo.goes (n := 60) ?_
  s_op
  s_op
  s_c stepG_region_end
  s_c stepG_block
  s_cond false
  s_c stepG_seq
  s_reg
  s_op
  s_c stepG_region_end
  s_c stepG_ret'
  s_stop
  refine LoneTo.done ⟨.returned (.int .i64 8), _, rfl, ⟨rfl, rfl⟩, rfl, rfl, rfl, rfl, _, Try.func9, by simp [results, Try.f9, Frame.at]⟩

set_option maxRecDepth 100000 in
theorem takeS_some {p c cap : Nat} {l : List Value} {x : ByteArray} {w : World} (hb : Box 52 w p c cap (.string x :: l)) :
    Calls Try.prog 10 #[.pointer (some ⟨p, 0, none⟩)] w fun e w' => e = .returned (.tuple #[.string x, .bool true]) ∧ Box 52 w' p c cap l ∧ Sep (· = c) w w' := by
  obtain ⟨s, r, hc⟩ := hb.2
  have hcell := hb.cell
  refine calls_of_loneTo fun cs => ?_
  have e : Frame.enter Try.prog 10 #[.pointer (some ⟨p, 0, none⟩)] .normal = (base 10).at ⟨#[.pointer (some ⟨p, 0, none⟩), undef, undef, undef, undef, undef, undef, undef, undef, undef, undef, undef, undef, undef, undef, undef], []⟩ [.code (Try.f10.body.getD .skip)] := by
    simp [Frame.enter, Frame.at, Try.func10, base, Try.f10]
  rw [e]
  refine LoneTo.goes (n := 60) ?_
  simp only [Try.f10, Option.getD_some]
  s_c stepG_seq
  s_reg
  s_op
  s_op
  s_c stepG_region_end
  s_c stepG_seq
  s_reg
  s_op
  s_op
  s_op
  s_op
  s_c stepG_region_end
  s_c stepG_seq
  s_reg
  s_stop
  refine LoneTo.step (step_lone_select_recv_buf (c := c) (z := .string ⟨#[]⟩) (cap := cap) (s := s) (r := r) (tm := false) (stepG_comm (cases := #[rcase c (.string ⟨#[]⟩)]) (blocking := false) (shape := .select) (w' := w) rfl rfl (by decide) (by simp [go_sem, execOp, rcase, Act.eval])) hc (by simp)) ?_
  rw [Frame.finish_at]
  walk_nrm
  refine LoneTo.goes (n := 60) ?_
  s_op
  s_op
  s_c stepG_region_end
  s_c stepG_block
  s_cond true
  s_c stepG_seq
  s_reg
  s_op
  s_op
  s_c stepG_region_end
  s_c stepG_seq
  s_reg
  s_op
  s_op
  s_op
  s_c stepG_region_end
  s_c stepG_ret'
  s_stop
  refine LoneTo.done ⟨.returned (.tuple #[.string x, .bool true]), _, rfl, ⟨rfl, ?_, sep_setChan _ _ _ _ _ _ _ _⟩, rfl, rfl, rfl, rfl, _, Try.func10, by simp [results, Try.f10, Frame.at, go_sem]⟩
  simpa using hb.set l s (r + 1)

set_option maxRecDepth 100000 in
theorem takeS_none {p c cap : Nat} {w : World} (hb : Box 52 w p c cap []) :
    Calls Try.prog 10 #[.pointer (some ⟨p, 0, none⟩)] w fun e w' => e = .returned (.tuple #[.string ⟨#[]⟩, .bool false]) ∧ w = w' := by
  obtain ⟨s, r, hc⟩ := hb.2
  have hcell := hb.cell
  refine calls_of_loneTo fun cs => ?_
  have e : Frame.enter Try.prog 10 #[.pointer (some ⟨p, 0, none⟩)] .normal = (base 10).at ⟨#[.pointer (some ⟨p, 0, none⟩), undef, undef, undef, undef, undef, undef, undef, undef, undef, undef, undef, undef, undef, undef, undef], []⟩ [.code (Try.f10.body.getD .skip)] := by
    simp [Frame.enter, Frame.at, Try.func10, base, Try.f10]
  rw [e]
  refine LoneTo.goes (n := 60) ?_
  simp only [Try.f10, Option.getD_some]
  s_c stepG_seq
  s_reg
  s_op
  s_op
  s_c stepG_region_end
  s_c stepG_seq
  s_reg
  s_op
  s_op
  s_op
  s_op
  s_c stepG_region_end
  s_c stepG_seq
  s_reg
  s_stop
  refine LoneTo.step (step_lone_select_default (c := c) (z := .string ⟨#[]⟩) (cap := cap) (s := s) (r := r) (tm := false) (stepG_comm (cases := #[rcase c (.string ⟨#[]⟩)]) (blocking := false) (shape := .select) (w' := w) rfl rfl (by decide) (by simp [go_sem, execOp, rcase, Act.eval])) hc) ?_
  rw [Frame.finish_at]
  walk_nrm
  refine LoneTo.goes (n := 60) ?_
  s_op
  s_op
  s_c stepG_region_end
  s_c stepG_block
  s_cond false
  s_c stepG_seq
  s_reg
  s_op
  s_c stepG_region_end
  s_c stepG_seq
  s_reg
  s_op
  s_op
  s_op
  s_c stepG_region_end
  s_c stepG_ret'
  s_stop
  refine LoneTo.done ⟨.returned (.tuple #[.string ⟨#[]⟩, .bool false]), _, rfl, ⟨rfl, rfl⟩, rfl, rfl, rfl, rfl, _, Try.func10, by simp [results, Try.f10, Frame.at, go_sem]⟩

/-! ### at I -/
theorem bytesI : ∃ i, Try.prog.info? 3 = some i ∧ i.bytes = 8 := by
  have h : (Try.prog.info? 3).map (·.bytes) = some 8 := by kernel_rfl
  obtain ⟨i, hi, hb⟩ := Option.map_eq_some_iff.1 h
  exact ⟨i, hi, hb⟩
theorem mkI (n : Nat) (h : n ≤ 4096) (w : World) : (Instr.makeChan 53 (.int .i64 n)).run Try.prog w = .ok (.chan (some w.heap.size)) (w.alloc (.chan n #[] false 0 0 false)) := by
  obtain ⟨i, hi, hb⟩ := bytesI
  simpa using run_makeChan (P := Try.prog) (w := w) Try.underlying53 hi .i64 n (by omega) (by rw [hb]; omega)
theorem newI_no (n : Int) (h : n < 1 ∨ 4096 < n) (w : World) : Calls Try.prog 11 #[.int .i64 n] w fun e w' =>
    e = .returned (.tuple #[.pointer none, .int .i64 1]) ∧ w = w' := by
  rcases h with h | h
  · go_enter Try.func11, Try.ntmps11
    go_wp2
    go_ret2
    exact ⟨rfl, rfl⟩
  · have h' : ¬ n < 1 := by omega
    go_enter Try.func11, Try.ntmps11
    go_wp2
    go_ret2
    exact ⟨rfl, rfl⟩
theorem newI (n : Nat) (z : Int) (hz : z = n) (h1 : 1 ≤ n) (h2 : n ≤ 4096) (w : World) : Calls Try.prog 11 #[.int .i64 z] w fun e w' =>
    ∃ p c, e = .returned (.tuple #[.pointer (some ⟨p, 0, none⟩), .int .i64 0]) ∧ Box 55 w' p c n [] ∧ w.heap.size ≤ p ∧ w.heap.size ≤ c ∧ Sep (fun _ => False) w w' := by
  subst hz
  have hmc := mkI n h2
  have key : ∀ (e : Ending) (w' : World), (e = .returned (.tuple #[.pointer (some ⟨w.heap.size + 1, 0, none⟩), .int .i64 0]) ∧ w' = (w.alloc (.chan n #[] false 0 0 false)).alloc (.cells #[.chan (some w.heap.size)] 55)) →
      ∃ p c, e = .returned (.tuple #[.pointer (some ⟨p, 0, none⟩), .int .i64 0]) ∧ Box 55 w' p c n [] ∧ w.heap.size ≤ p ∧ w.heap.size ≤ c ∧ Sep (fun _ => False) w w' := by
    rintro e w' ⟨rfl, rfl⟩
    refine ⟨w.heap.size + 1, w.heap.size, rfl, ⟨?_, 0, 0, ?_⟩, by omega, by omega, rfl, rfl, rfl, by simp; omega, fun k hk _ => ?_⟩
    · simpa using heap_alloc_new (w.alloc (.chan n #[] false 0 0 false)) (.cells #[.chan (some w.heap.size)] 55)
    · rw [Below.heap_alloc _ _ _ (by simp)]; exact heap_alloc_new _ _
    · rw [Below.heap_alloc _ _ _ (by simp; omega), Below.heap_alloc _ _ _ hk]
  refine Calls.mono ?_ key
  go_enter Try.func11, Try.ntmps11
  go_wp2
  go_ret2
  exact ⟨rfl, rfl⟩


set_option maxRecDepth 100000 in
theorem putI_room {p c cap : Nat} {l : List Value} (x : Int) {w : World} (hb : Box 55 w p c cap l) (hr : l.length < cap) :
    Calls Try.prog 15 #[.pointer (some ⟨p, 0, none⟩), .int .i64 x] w fun e w' => e = .returned (.int .i64 0) ∧ Box 55 w' p c cap (l ++ [.int .i64 x]) ∧ Sep (· = c) w w' := by
  obtain ⟨s, r, hc⟩ := hb.2
  have hcell := hb.cell
  refine calls_of_loneTo fun cs => ?_
  have e : Frame.enter Try.prog 15 #[.pointer (some ⟨p, 0, none⟩), .int .i64 x] .normal = (base 15).at ⟨#[.pointer (some ⟨p, 0, none⟩), .int .i64 x, undef, undef, undef, undef, undef, undef, undef, undef, undef, undef, undef], []⟩ [.code (Try.f15.body.getD .skip)] := by
    simp [Frame.enter, Frame.at, Try.func15, base, Try.f15]
  rw [e]
  refine LoneTo.goes (n := 60) ?_
  simp only [Try.f15, Option.getD_some]
  s_c stepG_seq
  s_reg
  s_op
  s_c stepG_region_end
  s_c stepG_seq
  s_c stepG_seq
  s_reg
  s_op
  s_op
  s_op
  s_op
  s_c stepG_region_end
  s_reg
  s_op
  s_c stepG_region_end
  s_c stepG_seq
  s_reg
  s_stop
  refine LoneTo.step (step_lone_select_send_room (c := c) (v := .int .i64 x) (z' := .int .i64 0) (cap := cap) (s := s) (r := r) (tm := false) (stepG_comm (cases := #[scase c (.int .i64 x) (.int .i64 0)]) (blocking := false) (shape := .select) (w' := w) rfl rfl (by decide) (by simp [go_sem, execOp, scase, Act.eval])) hc (by simpa using hr)) ?_
  rw [Frame.finish_at]
  walk_nrm
  refine LoneTo.goes (n := 60) ?_
  s_op
  s_op
  s_c stepG_region_end
  s_c stepG_block
  s_cond true
  s_c stepG_seq
  s_reg
  s_op
  s_c stepG_region_end
  s_c stepG_ret'
  s_stop
  refine LoneTo.done ⟨.returned (.int .i64 0), _, rfl, ⟨rfl, ?_, sep_setChan _ _ _ _ _ _ _ _⟩, rfl, rfl, rfl, rfl, _, Try.func15, by simp [results, Try.f15, Frame.at]⟩
  simpa using hb.set (l ++ [.int .i64 x]) (s + 1) r

set_option maxRecDepth 100000 in
theorem putI_full {p c cap : Nat} {l : List Value} (x : Int) {w : World} (hb : Box 55 w p c cap l) (hr : cap ≤ l.length) :
    Calls Try.prog 15 #[.pointer (some ⟨p, 0, none⟩), .int .i64 x] w fun e w' => e = .returned (.int .i64 8) ∧ w = w' := by
  obtain ⟨s, r, hc⟩ := hb.2
  have hcell := hb.cell
  refine calls_of_loneTo fun cs => ?_
  have e : Frame.enter Try.prog 15 #[.pointer (some ⟨p, 0, none⟩), .int .i64 x] .normal = (base 15).at ⟨#[.pointer (some ⟨p, 0, none⟩), .int .i64 x, undef, undef, undef, undef, undef, undef, undef, undef, undef, undef, undef], []⟩ [.code (Try.f15.body.getD .skip)] := by
    simp [Frame.enter, Frame.at, Try.func15, base, Try.f15]
  rw [e]
  refine LoneTo.goes (n := 60) ?_
  simp only [Try.f15, Option.getD_some]
  s_c stepG_seq
  s_reg
  s_op
  s_c stepG_region_end
  s_c stepG_seq
  s_c stepG_seq
  s_reg
  s_op
  s_op
  s_op
  s_op
  s_c stepG_region_end
  s_reg
  s_op
  s_c stepG_region_end
  s_c stepG_seq
  s_reg
  s_stop
  refine LoneTo.step (step_lone_select_send_full (c := c) (v := .int .i64 x) (z' := .int .i64 0) (cap := cap) (s := s) (r := r) (tm := false) (stepG_comm (cases := #[scase c (.int .i64 x) (.int .i64 0)]) (blocking := false) (shape := .select) (w' := w) rfl rfl (by decide) (by simp [go_sem, execOp, scase, Act.eval])) hc (by simpa using hr)) ?_
  rw [Frame.finish_at]
  walk_nrm
  refine LoneTo.goes (n := 60) ?_
  s_op
  s_op
  s_c stepG_region_end
  s_c stepG_block
  s_cond false
  s_c stepG_seq
  s_reg
  s_op
  s_c stepG_region_end
  s_c stepG_ret'
  s_stop
  refine LoneTo.done ⟨.returned (.int .i64 8), _, rfl, ⟨rfl, rfl⟩, rfl, rfl, rfl, rfl, _, Try.func15, by simp [results, Try.f15, Frame.at]⟩

set_option maxRecDepth 100000 in
theorem takeI_some {p c cap : Nat} {l : List Value} {x : Int} {w : World} (hb : Box 55 w p c cap (.int .i64 x :: l)) :
    Calls Try.prog 13 #[.pointer (some ⟨p, 0, none⟩)] w fun e w' => e = .returned (.tuple #[.int .i64 x, .bool true]) ∧ Box 55 w' p c cap l ∧ Sep (· = c) w w' := by
  obtain ⟨s, r, hc⟩ := hb.2
  have hcell := hb.cell
  refine calls_of_loneTo fun cs => ?_
  have e : Frame.enter Try.prog 13 #[.pointer (some ⟨p, 0, none⟩)] .normal = (base 13).at ⟨#[.pointer (some ⟨p, 0, none⟩), undef, undef, undef, undef, undef, undef, undef, undef, undef, undef, undef, undef, undef, undef, undef], []⟩ [.code (Try.f13.body.getD .skip)] := by
    simp [Frame.enter, Frame.at, Try.func13, base, Try.f13]
  rw [e]
  refine LoneTo.goes (n := 60) ?_
  simp only [Try.f13, Option.getD_some]
  s_c stepG_seq
  s_reg
  s_op
  s_op
  s_c stepG_region_end
  s_c stepG_seq
  s_reg
  s_op
  s_op
  s_op
  s_op
  s_c stepG_region_end
  s_c stepG_seq
  s_reg
  s_stop
  refine LoneTo.step (step_lone_select_recv_buf (c := c) (z := .int .i64 0) (cap := cap) (s := s) (r := r) (tm := false) (stepG_comm (cases := #[rcase c (.int .i64 0)]) (blocking := false) (shape := .select) (w' := w) rfl rfl (by decide) (by simp [go_sem, execOp, rcase, Act.eval])) hc (by simp)) ?_
  rw [Frame.finish_at]
  walk_nrm
  refine LoneTo.goes (n := 60) ?_
  s_op
  s_op
  s_c stepG_region_end
  s_c stepG_block
  s_cond true
  s_c stepG_seq
  s_reg
  s_op
  s_op
  s_c stepG_region_end
  s_c stepG_seq
  s_reg
  s_op
  s_op
  s_op
  s_c stepG_region_end
  s_c stepG_ret'
  s_stop
  refine LoneTo.done ⟨.returned (.tuple #[.int .i64 x, .bool true]), _, rfl, ⟨rfl, ?_, sep_setChan _ _ _ _ _ _ _ _⟩, rfl, rfl, rfl, rfl, _, Try.func13, by simp [results, Try.f13, Frame.at, go_sem]⟩
  simpa using hb.set l s (r + 1)

set_option maxRecDepth 100000 in
theorem takeI_none {p c cap : Nat} {w : World} (hb : Box 55 w p c cap []) :
    Calls Try.prog 13 #[.pointer (some ⟨p, 0, none⟩)] w fun e w' => e = .returned (.tuple #[.int .i64 0, .bool false]) ∧ w = w' := by
  obtain ⟨s, r, hc⟩ := hb.2
  have hcell := hb.cell
  refine calls_of_loneTo fun cs => ?_
  have e : Frame.enter Try.prog 13 #[.pointer (some ⟨p, 0, none⟩)] .normal = (base 13).at ⟨#[.pointer (some ⟨p, 0, none⟩), undef, undef, undef, undef, undef, undef, undef, undef, undef, undef, undef, undef, undef, undef, undef], []⟩ [.code (Try.f13.body.getD .skip)] := by
    simp [Frame.enter, Frame.at, Try.func13, base, Try.f13]
  rw [e]
  refine LoneTo.goes (n := 60) ?_
  simp only [Try.f13, Option.getD_some]
  s_c stepG_seq
  s_reg
  s_op
  s_op
  s_c stepG_region_end
  s_c stepG_seq
  s_reg
  s_op
  s_op
  s_op
  s_op
  s_c stepG_region_end
  s_c stepG_seq
  s_reg
  s_stop
  refine LoneTo.step (step_lone_select_default (c := c) (z := .int .i64 0) (cap := cap) (s := s) (r := r) (tm := false) (stepG_comm (cases := #[rcase c (.int .i64 0)]) (blocking := false) (shape := .select) (w' := w) rfl rfl (by decide) (by simp [go_sem, execOp, rcase, Act.eval])) hc) ?_
  rw [Frame.finish_at]
  walk_nrm
  refine LoneTo.goes (n := 60) ?_
  s_op
  s_op
  s_c stepG_region_end
  s_c stepG_block
  s_cond false
  s_c stepG_seq
  s_reg
  s_op
  s_c stepG_region_end
  s_c stepG_seq
  s_reg
  s_op
  s_op
  s_op
  s_c stepG_region_end
  s_c stepG_ret'
  s_stop
  refine LoneTo.done ⟨.returned (.tuple #[.int .i64 0, .bool false]), _, rfl, ⟨rfl, rfl⟩, rfl, rfl, rfl, rfl, _, Try.func13, by simp [results, Try.f13, Frame.at, go_sem]⟩

theorem lenI {p c cap : Nat} {l : List Value} {w : World} (hb : Box 55 w p c cap l) : Calls Try.prog 16 #[.pointer (some ⟨p, 0, none⟩)] w fun e w' => e = .returned (.int .i64 l.length) ∧ w = w' := by
  obtain ⟨s, r, hc⟩ := hb.2
  have hcell := hb.cell
  have hl := fun ty => run_len_chan (P := Try.prog) 53 ty Try.underlying53 hc
  simp only [List.size_toArray] at hl
  go_enter Try.func16, Try.ntmps16
  go_wp2
  go_ret
  exact ⟨rfl, rfl⟩
theorem sizeI {p c cap : Nat} {l : List Value} {w : World} (hb : Box 55 w p c cap l) : Calls Try.prog 12 #[.pointer (some ⟨p, 0, none⟩)] w fun e w' => e = .returned (.int .i64 cap) ∧ w = w' := by
  obtain ⟨s, r, hc⟩ := hb.2
  have hcell := hb.cell
  have hl := fun ty => run_cap_chan (P := Try.prog) 53 ty Try.underlying53 hc
  go_enter Try.func12, Try.ntmps12
  go_wp2
  go_ret
  exact ⟨rfl, rfl⟩

end Go.Proofs.Ytklihaoaihgpoaa
