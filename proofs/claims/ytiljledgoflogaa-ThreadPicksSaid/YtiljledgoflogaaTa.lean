/- Contracts of the boxes (package inbox) at lists of accesses: New, Put, Take, Len: what each call answers, and what the box holds behind it. -/
import Derived.Test.YtiljledgoflogaaRf
import Derived.Conc.LoneSelect
import Derived.Conc.LoneSelectN
namespace Go.Proofs.Ytiljledgoflogaa
open Go.RowKit Go.Conc
set_option linter.unusedSimpArgs false
set_option linter.unusedVariables false

theorem sep_setChan (w : World) (c cap : Nat) (buf : Array Value) (cl : Bool) (s r : Nat) (tm : Bool) : Sep (· = c) w (w.setChan c cap buf cl s r tm) :=
  ⟨rfl, rfl, rfl, by simp [World.setChan], fun k _ hk => by simp only [World.setChan]; rw [Array.getElem?_setIfInBounds_ne (fun e => hk e.symm)]⟩

/-- A box: at p its one field, the channel c, that holds l and has room for cap. -/
def Box (T : TypeId) (w : World) (p c cap : Nat) (l : List Value) : Prop :=
  w.heap[p]? = some (.cells #[.chan (some c)] T) ∧ ∃ s r, w.heap[c]? = some (.chan cap l.toArray false s r false)
theorem Box.ne {T : TypeId} {w : World} {p c cap : Nat} {l : List Value} (h : Box T w p c cap l) : p ≠ c := by
  rintro rfl
  obtain ⟨h, s, r, h'⟩ := h
  rw [h] at h'
  cases h'
theorem Box.cell {T : TypeId} {w : World} {p c cap : Nat} {l : List Value} (h : Box T w p c cap l) : w.cell? ⟨p, 0, none⟩ = some (.chan (some c)) := cell_of_one h.1
theorem Box.ltp {T : TypeId} {w : World} {p c cap : Nat} {l : List Value} (h : Box T w p c cap l) : p < w.heap.size := lt_of_block h.1
theorem Box.ltc {T : TypeId} {w : World} {p c cap : Nat} {l : List Value} (h : Box T w p c cap l) : c < w.heap.size := by obtain ⟨_, s, r, h⟩ := h; exact lt_of_block h
theorem Box.set {T : TypeId} {w : World} {p c cap : Nat} {l : List Value} (h : Box T w p c cap l) (l' : List Value) (s r : Nat) : Box T (w.setChan c cap l'.toArray false s r false) p c cap l' := by
  refine ⟨?_, s, r, heap_setChan _ _ _ _ _ _ _ _ h.ltc⟩
  simp only [World.setChan]
  rw [Array.getElem?_setIfInBounds_ne (fun e => h.ne e.symm)]
  exact h.1
/-- A box stays as it is where neither of its blocks is written. -/
theorem Box.stay {T : TypeId} {w w' : World} {p c cap : Nat} {l : List Value} {S : Nat → Prop} (h : Box T w p c cap l) (hs : Sep S w w') (hp : ¬ S p) (hc : ¬ S c) : Box T w' p c cap l := by
  obtain ⟨h1, s, r, h2⟩ := h
  exact ⟨(hs.block p (lt_of_block h1) hp).trans h1, s, r, (hs.block c (lt_of_block h2) hc).trans h2⟩


/-! ### at A -/
theorem bytesA : ∃ i, Try.prog.info? 41 = some i ∧ i.bytes = 24 := by
  have h : (Try.prog.info? 41).map (·.bytes) = some 24 := by kernel_rfl
  obtain ⟨i, hi, hb⟩ := Option.map_eq_some_iff.1 h
  exact ⟨i, hi, hb⟩
theorem mkA (n : Nat) (h : n ≤ 4096) (w : World) : (Instr.makeChan 174 (.int .i64 n)).run Try.prog w = .ok (.chan (some w.heap.size)) (w.alloc (.chan n #[] false 0 0 false)) := by
  obtain ⟨i, hi, hb⟩ := bytesA
  simpa using run_makeChan (P := Try.prog) (w := w) Try.underlying174 hi .i64 n (by omega) (by rw [hb]; omega)
theorem newA_no (n : Int) (h : n < 1 ∨ 4096 < n) (w : World) : Calls Try.prog 97 #[.int .i64 n] w fun e w' =>
    e = .returned (.tuple #[.pointer none, .int .i64 1]) ∧ w = w' := by
  rcases h with h | h
  · go_enter Try.func97, Try.ntmps97
    go_wp2
    go_ret2
    exact ⟨rfl, rfl⟩
  · have h' : ¬ n < 1 := by omega
    go_enter Try.func97, Try.ntmps97
    go_wp2
    go_ret2
    exact ⟨rfl, rfl⟩
theorem newA (n : Nat) (z : Int) (hz : z = n) (h1 : 1 ≤ n) (h2 : n ≤ 4096) (w : World) : Calls Try.prog 97 #[.int .i64 z] w fun e w' =>
    ∃ p c, e = .returned (.tuple #[.pointer (some ⟨p, 0, none⟩), .int .i64 0]) ∧ Box 176 w' p c n [] ∧ w.heap.size ≤ p ∧ w.heap.size ≤ c ∧ Sep (fun _ => False) w w' := by
  subst hz
  have hmc := mkA n h2
  have key : ∀ (e : Ending) (w' : World), (e = .returned (.tuple #[.pointer (some ⟨w.heap.size + 1, 0, none⟩), .int .i64 0]) ∧ w' = (w.alloc (.chan n #[] false 0 0 false)).alloc (.cells #[.chan (some w.heap.size)] 176)) →
      ∃ p c, e = .returned (.tuple #[.pointer (some ⟨p, 0, none⟩), .int .i64 0]) ∧ Box 176 w' p c n [] ∧ w.heap.size ≤ p ∧ w.heap.size ≤ c ∧ Sep (fun _ => False) w w' := by
    rintro e w' ⟨rfl, rfl⟩
    refine ⟨w.heap.size + 1, w.heap.size, rfl, ⟨?_, 0, 0, ?_⟩, by omega, by omega, rfl, rfl, rfl, by simp; omega, fun k hk _ => ?_⟩
    · simpa using heap_alloc_new (w.alloc (.chan n #[] false 0 0 false)) (.cells #[.chan (some w.heap.size)] 176)
    · rw [Below.heap_alloc _ _ _ (by simp)]; exact heap_alloc_new _ _
    · rw [Below.heap_alloc _ _ _ (by simp; omega), Below.heap_alloc _ _ _ hk]
  refine Calls.mono ?_ key
  go_enter Try.func97, Try.ntmps97
  go_wp2
  go_ret2
  exact ⟨rfl, rfl⟩


set_option maxRecDepth 100000 in
theorem putA_room {p c cap : Nat} {l : List Value} (xa : Option Addr) (xn xc : Nat) {w : World} (hb : Box 176 w p c cap l) (hr : l.length < cap) :
    Calls Try.prog 83 #[.pointer (some ⟨p, 0, none⟩), .slice xa xn xc] w fun e w' => e = .returned (.int .i64 0) ∧ Box 176 w' p c cap (l ++ [.slice xa xn xc]) ∧ Sep (· = c) w w' := by
  obtain ⟨s, r, hc⟩ := hb.2
  have hcell := hb.cell
  refine calls_of_loneTo fun cs => ?_
  have e : Frame.enter Try.prog 83 #[.pointer (some ⟨p, 0, none⟩), .slice xa xn xc] .normal = (base 83).at ⟨#[.pointer (some ⟨p, 0, none⟩), .slice xa xn xc, undef, undef, undef, undef, undef, undef, undef, undef, undef, undef, undef], []⟩ [.code (Try.f83.body.getD .skip)] := by
    simp [Frame.enter, Frame.at, Try.func83, base, Try.f83]
  rw [e]
  refine LoneTo.goes (n := 60) ?_
  simp only [Try.f83, Option.getD_some]
  s_c stepG_seq
  s_reg
  s_op
  s_c stepG_region_end
  s_c stepG_seq
  s_c stepG_seq
  s_reg
  s_op
  s_op
  s_op
  s_op
  s_c stepG_region_end
  s_reg
  s_op
  s_c stepG_region_end
  s_c stepG_seq
  s_reg
  s_stop
  refine LoneTo.step (step_lone_select_send_room (c := c) (v := .slice xa xn xc) (z' := .slice none 0 0) (cap := cap) (s := s) (r := r) (tm := false) (stepG_comm (cases := #[scase c (.slice xa xn xc) (.slice none 0 0)]) (blocking := false) (shape := .select) (w' := w) rfl rfl (by decide) (by simp [go_sem, execOp, scase, Act.eval])) hc (by simpa using hr)) ?_
  rw [Frame.finish_at]
  walk_nrm
  refine LoneTo.goes (n := 60) ?_
  s_op
  s_op
  s_c stepG_region_end
  s_c stepG_block
  s_cond true
  s_c stepG_seq
  s_reg
  s_op
  s_c stepG_region_end
  s_c stepG_ret'
  s_stop
  refine LoneTo.done ⟨.returned (.int .i64 0), _, rfl, ⟨rfl, ?_, sep_setChan _ _ _ _ _ _ _ _⟩, rfl, rfl, rfl, rfl, _, Try.func83, by simp [results, Try.f83, Frame.at]⟩
  simpa using hb.set (l ++ [.slice xa xn xc]) (s + 1) r

set_option maxRecDepth 100000 in
theorem putA_full {p c cap : Nat} {l : List Value} (xa : Option Addr) (xn xc : Nat) {w : World} (hb : Box 176 w p c cap l) (hr : cap ≤ l.length) :
    Calls Try.prog 83 #[.pointer (some ⟨p, 0, none⟩), .slice xa xn xc] w fun e w' => e = .returned (.int .i64 8) ∧ w = w' := by
  obtain ⟨s, r, hc⟩ := hb.2
  have hcell := hb.cell
  refine calls_of_loneTo fun cs => ?_
  have e : Frame.enter Try.prog 83 #[.pointer (some ⟨p, 0, none⟩), .slice xa xn xc] .normal = (base 83).at ⟨#[.pointer (some ⟨p, 0, none⟩), .slice xa xn xc, undef, undef, undef, undef, undef, undef, undef, undef, undef, undef, undef], []⟩ [.code (Try.f83.body.getD .skip)] := by
    simp [Frame.enter, Frame.at, Try.func83, base, Try.f83]
  rw [e]
  refine LoneTo.goes (n := 60) ?_
  simp only [Try.f83, Option.getD_some]
  s_c stepG_seq
  s_reg
  s_op
  s_c stepG_region_end
  s_c stepG_seq
  s_c stepG_seq
  s_reg
  s_op
  s_op
  s_op
  s_op
  s_c stepG_region_end
  s_reg
  s_op
  s_c stepG_region_end
  s_c stepG_seq
  s_reg
  s_stop
  refine LoneTo.step (step_lone_select_send_full (c := c) (v := .slice xa xn xc) (z' := .slice none 0 0) (cap := cap) (s := s) (r := r) (tm := false) (stepG_comm (cases := #[scase c (.slice xa xn xc) (.slice none 0 0)]) (blocking := false) (shape := .select) (w' := w) rfl rfl (by decide) (by simp [go_sem, execOp, scase, Act.eval])) hc (by simpa using hr)) ?_
  rw [Frame.finish_at]
  walk_nrm
  refine LoneTo.goes (n := 60) ?_
  s_op
  s_op
  s_c stepG_region_end
  s_c stepG_block
  s_cond false
  s_c stepG_seq
  s_reg
  s_op
  s_c stepG_region_end
  s_c stepG_ret'
  s_stop
  refine LoneTo.done ⟨.returned (.int .i64 8), _, rfl, ⟨rfl, rfl⟩, rfl, rfl, rfl, rfl, _, Try.func83, by simp [results, Try.f83, Frame.at]⟩

set_option maxRecDepth 100000 in
theorem takeA_some {p c cap : Nat} {l : List Value} {xa : Option Addr} {xn xc : Nat} {w : World} (hb : Box 176 w p c cap (.slice xa xn xc :: l)) :
    Calls Try.prog 85 #[.pointer (some ⟨p, 0, none⟩)] w fun e w' => e = .returned (.tuple #[.slice xa xn xc, .bool true]) ∧ Box 176 w' p c cap l ∧ Sep (· = c) w w' := by
  obtain ⟨s, r, hc⟩ := hb.2
  have hcell := hb.cell
  refine calls_of_loneTo fun cs => ?_
  have e : Frame.enter Try.prog 85 #[.pointer (some ⟨p, 0, none⟩)] .normal = (base 85).at ⟨#[.pointer (some ⟨p, 0, none⟩), undef, undef, undef, undef, undef, undef, undef, undef, undef, undef, undef, undef, undef, undef, undef], []⟩ [.code (Try.f85.body.getD .skip)] := by
    simp [Frame.enter, Frame.at, Try.func85, base, Try.f85]
  rw [e]
  refine LoneTo.goes (n := 60) ?_
  simp only [Try.f85, Option.getD_some]
  s_c stepG_seq
  s_reg
  s_op
  s_op
  s_c stepG_region_end
  s_c stepG_seq
  s_reg
  s_op
  s_op
  s_op
  s_op
  s_c stepG_region_end
  s_c stepG_seq
  s_reg
  s_stop
  refine LoneTo.step (step_lone_select_recv_buf (c := c) (z := .slice none 0 0) (cap := cap) (s := s) (r := r) (tm := false) (stepG_comm (cases := #[rcase c (.slice none 0 0)]) (blocking := false) (shape := .select) (w' := w) rfl rfl (by decide) (by simp [go_sem, execOp, rcase, Act.eval])) hc (by simp)) ?_
  rw [Frame.finish_at]
  walk_nrm
  refine LoneTo.goes (n := 60) ?_
  s_op
  s_op
  s_c stepG_region_end
  s_c stepG_block
  s_cond true
  s_c stepG_seq
  s_reg
  s_op
  s_op
  s_c stepG_region_end
  s_c stepG_seq
  s_reg
  s_op
  s_op
  s_op
  s_c stepG_region_end
  s_c stepG_ret'
  s_stop
  refine LoneTo.done ⟨.returned (.tuple #[.slice xa xn xc, .bool true]), _, rfl, ⟨rfl, ?_, sep_setChan _ _ _ _ _ _ _ _⟩, rfl, rfl, rfl, rfl, _, Try.func85, by simp [results, Try.f85, Frame.at, go_sem]⟩
  simpa using hb.set l s (r + 1)

set_option maxRecDepth 100000 in
theorem takeA_none {p c cap : Nat} {w : World} (hb : Box 176 w p c cap []) :
    Calls Try.prog 85 #[.pointer (some ⟨p, 0, none⟩)] w fun e w' => e = .returned (.tuple #[.slice none 0 0, .bool false]) ∧ w = w' := by
  obtain ⟨s, r, hc⟩ := hb.2
  have hcell := hb.cell
  refine calls_of_loneTo fun cs => ?_
  have e : Frame.enter Try.prog 85 #[.pointer (some ⟨p, 0, none⟩)] .normal = (base 85).at ⟨#[.pointer (some ⟨p, 0, none⟩), undef, undef, undef, undef, undef, undef, undef, undef, undef, undef, undef, undef, undef, undef, undef], []⟩ [.code (Try.f85.body.getD .skip)] := by
    simp [Frame.enter, Frame.at, Try.func85, base, Try.f85]
  rw [e]
  refine LoneTo.goes (n := 60) ?_
  simp only [Try.f85, Option.getD_some]
  s_c stepG_seq
  s_reg
  s_op
  s_op
  s_c stepG_region_end
  s_c stepG_seq
  s_reg
  s_op
  s_op
  s_op
  s_op
  s_c stepG_region_end
  s_c stepG_seq
  s_reg
  s_stop
  refine LoneTo.step (step_lone_select_default (c := c) (z := .slice none 0 0) (cap := cap) (s := s) (r := r) (tm := false) (stepG_comm (cases := #[rcase c (.slice none 0 0)]) (blocking := false) (shape := .select) (w' := w) rfl rfl (by decide) (by simp [go_sem, execOp, rcase, Act.eval])) hc) ?_
  rw [Frame.finish_at]
  walk_nrm
  refine LoneTo.goes (n := 60) ?_
  s_op
  s_op
  s_c stepG_region_end
  s_c stepG_block
  s_cond false
  s_c stepG_seq
  s_reg
  s_op
  s_c stepG_region_end
  s_c stepG_seq
  s_reg
  s_op
  s_op
  s_op
  s_c stepG_region_end
  s_c stepG_ret'
  s_stop
  refine LoneTo.done ⟨.returned (.tuple #[.slice none 0 0, .bool false]), _, rfl, ⟨rfl, rfl⟩, rfl, rfl, rfl, rfl, _, Try.func85, by simp [results, Try.f85, Frame.at, go_sem]⟩

theorem lenA {p c cap : Nat} {l : List Value} {w : World} (hb : Box 176 w p c cap l) : Calls Try.prog 84 #[.pointer (some ⟨p, 0, none⟩)] w fun e w' => e = .returned (.int .i64 l.length) ∧ w = w' := by
  obtain ⟨s, r, hc⟩ := hb.2
  have hcell := hb.cell
  have hl := fun ty => run_len_chan (P := Try.prog) 174 ty Try.underlying174 hc
  simp only [List.size_toArray] at hl
  go_enter Try.func84, Try.ntmps84
  go_wp2
  go_ret
  exact ⟨rfl, rfl⟩

end Go.Proofs.Ytiljledgoflogaa
