/- Programs that come to a list of words: Done, Do, list, the closure of list, List. -/
import Derived.Test.YtiljledgoflogaaK
import Derived.Deep.AppendLies
import Derived.Laws.EntriesVeiled
namespace Go.Proofs.Ytiljledgoflogaa
open Go.RowKit
set_option linter.unusedSimpArgs false
set_option linter.unusedVariables false

theorem done_u (a : Option Addr) (n cap : Nat) (w : World) : Calls Try.prog 80 #[.slice a n cap] w fun e w' =>
    e = .returned (.agg #[.bool true, .slice a n cap, .int .i64 0, .int .i64 0, .int .u64 0, .int .u64 0, .nilFunc]) ∧ Same w w' := by
  go_enter Try.func80, Try.ntmps80
  go_wp2
  exact bodyPost_ret (v := .agg #[.bool true, .slice a n cap, .int .i64 0, .int .i64 0, .int .u64 0, .int .u64 0, .nilFunc]) (by simp [results, Try.results80, go_sem]) rfl ⟨rfl, Sep.alloc _ _ _⟩

theorem do_u (A : Acc) (fn : Fn) (fs cs : Array Value) (w : World) : Calls Try.prog 92 #[.agg #[.int .i64 A.op, .int .i64 A.at_, .int .u64 A.x, .int .u64 A.y], .func fn fs cs] w fun e w' =>
    e = .returned (.agg #[.bool false, .slice none 0 0, .int .i64 A.op, .int .i64 A.at_, .int .u64 A.x, .int .u64 A.y, .func fn fs cs]) ∧ Same w w' := by
  go_enter Try.func92, Try.ntmps92
  go_wp2
  exact bodyPost_ret (v := .agg #[.bool false, .slice none 0 0, .int .i64 A.op, .int .i64 A.at_, .int .u64 A.x, .int .u64 A.y, .func fn fs cs]) (by simp [results, Try.results92, go_sem]) rfl ⟨rfl, (Sep.alloc _ _ _).thenAlloc _⟩

/-- A program that does the accesses of l, behind what others told; its blocks lie from B on. -/
def LP (F : Nat → Prop) (w : World) (v : Value) : List Acc → List Int → Prop
  | [], told => ∃ rv, v = .agg #[.bool true, rv, .int .i64 0, .int .i64 0, .int .u64 0, .int .u64 0, .nilFunc] ∧ SlcU F w rv told
  | A :: l, told => ∃ lb tb lv tv, v = .agg #[.bool false, .slice none 0 0, .int .i64 A.op, .int .i64 A.at_, .int .u64 A.x, .int .u64 A.y, .func (.func 93) #[] #[.pointer (some ⟨lb, 0, none⟩), .pointer (some ⟨tb, 0, none⟩)]] ∧
      F lb ∧ F tb ∧ w.heap[lb]? = some (.cells #[lv] 41) ∧ w.heap[tb]? = some (.cells #[tv] 22) ∧ SlcA F w lv (A :: l) ∧ SlcU F w tv told

theorem LP.stay {F : Nat → Prop} {w w' : World} {v : Value} {l : List Acc} {told : List Int} {S : Nat → Prop} (h : LP F w v l told) (hs : Sep S w w') (hn : ∀ b, F b → b < w.heap.size → ¬ S b) : LP F w' v l told := by
  cases l with
  | nil =>
    obtain ⟨rv, e, hr⟩ := h
    exact ⟨rv, e, Slc.stay hr hs hn⟩
  | cons A l =>
    obtain ⟨lb, tb, lv, tv, e, h1, h2, h3, h4, h5, h6⟩ := h
    exact ⟨lb, tb, lv, tv, e, h1, h2, hs.obj h3 (hn lb h1 (lt_of_block h3)), hs.obj h4 (hn tb h2 (lt_of_block h4)), Slc.stay h5 hs hn, Slc.stay h6 hs hn⟩
theorem LP.same {F : Nat → Prop} {w w' : World} {v : Value} {l : List Acc} {told : List Int} (h : LP F w v l told) (hs : Same w w') : LP F w' v l told := h.stay hs fun _ _ _ x => x

def LPMade (F : Nat → Prop) (w : World) (l : List Acc) (told : List Int) (e : Ending) (w' : World) : Prop := ∃ v, e = .returned v ∧ LP F w' v l told ∧ Same w w'

theorem head_cells {w : World} {A : Acc} {l : List Acc} {b off : Nat} (hc : ∀ j u, (accs (A :: l))[j]? = some u → w.cell? ⟨b, off + j, none⟩ = some u) :
    w.cell? ⟨b, off, none⟩ = some (.int .i64 A.op) ∧ w.cell? ⟨b, off + 1, none⟩ = some (.int .i64 A.at_) ∧ w.cell? ⟨b, off + 2, none⟩ = some (.int .u64 A.x) ∧ w.cell? ⟨b, off + 3, none⟩ = some (.int .u64 A.y) :=
  ⟨hc 0 _ rfl, hc 1 _ rfl, hc 2 _ rfl, hc 3 _ rfl⟩

theorem cells7 {w : World} {b : Nat} {x0 x1 x2 x3 x4 x5 x6 : Value} {T : TypeId} (h : w.heap[b]? = some (.cells #[x0, x1, x2, x3, x4, x5, x6] T)) :
    w.cell? ⟨b, 0, none⟩ = some x0 ∧ w.cell? ⟨b, 1, none⟩ = some x1 ∧ w.cell? ⟨b, 2, none⟩ = some x2 ∧ w.cell? ⟨b, 3, none⟩ = some x3 ∧ w.cell? ⟨b, 4, none⟩ = some x4 ∧ w.cell? ⟨b, 5, none⟩ = some x5 ∧ w.cell? ⟨b, 6, none⟩ = some x6 ∧
    (∀ j, w.frozen? ⟨b, j, none⟩ = false) := by
  refine ⟨?_, ?_, ?_, ?_, ?_, ?_, ?_, fun j => free_of_heap h⟩ <;> (rw [cell_of_heap h]; rfl)
theorem sep7 (w : World) (b : Nat) (x0 x1 x2 x3 x4 x5 x6 : Value) : Sep (fun k => k = b) w (((((((w.setCell ⟨b, 0, none⟩ x0).setCell ⟨b, 1, none⟩ x1).setCell ⟨b, 2, none⟩ x2).setCell ⟨b, 3, none⟩ x3).setCell ⟨b, 4, none⟩ x4).setCell ⟨b, 5, none⟩ x5).setCell ⟨b, 6, none⟩ x6) :=
  (((((((Sep.refl (fun k => k = b) w).thenSet (.inl rfl) _).thenSet (.inl rfl) _).thenSet (.inl rfl) _).thenSet (.inl rfl) _).thenSet (.inl rfl) _).thenSet (.inl rfl) _).thenSet (.inl rfl) _
/-- What is written behind the old blocks turns nothing old. -/
theorem same_then {w w1 w2 : World} {b : Nat} (h : Same w w1) (hb : w.heap.size ≤ b) (h2 : Sep (fun k => k = b) w1 w2) : Same w w2 :=
  ⟨h2.os.trans h.os, h2.tape.trans h.tape, h2.output.trans h.output, Nat.le_trans h.size h2.size, fun k hk hn => (h2.block k (Nat.lt_of_lt_of_le hk h.size) (fun e => by omega)).trans (h.block k hk hn)⟩

/-- The three blocks of list: the accesses, what was told, the result. -/
theorem three_l (w : World) (lv tv : Value) : ∃ W, W = ((w.alloc (.cells #[lv] 41)).alloc (.cells #[tv] 22)).alloc (.cells #[.bool false, .slice none 0 0, .int .i64 0, .int .i64 0, .int .u64 0, .int .u64 0, .nilFunc] 87) ∧
    Same w W ∧ W.heap[w.heap.size]? = some (.cells #[lv] 41) ∧ W.heap[w.heap.size + 1]? = some (.cells #[tv] 22) ∧ W.heap[w.heap.size + 2]? = some (.cells #[.bool false, .slice none 0 0, .int .i64 0, .int .i64 0, .int .u64 0, .int .u64 0, .nilFunc] 87) := by
  refine ⟨_, rfl, ((Sep.alloc _ _ _).thenAlloc _).thenAlloc _, ?_, ?_, ?_⟩
  · rw [Below.heap_alloc _ _ _ (by simp; omega), Below.heap_alloc _ _ _ (by simp)]; exact heap_alloc_new _ _
  · rw [Below.heap_alloc _ _ _ (by simp)]
    have e : (w.alloc (.cells #[lv] 41)).heap.size = w.heap.size + 1 := by simp
    rw [← e]; exact heap_alloc_new _ _
  · have e : ((w.alloc (.cells #[lv] 41)).alloc (.cells #[tv] 22)).heap.size = w.heap.size + 2 := by simp
    rw [← e]; exact heap_alloc_new _ _

set_option maxRecDepth 100000 in
theorem list_nil {F : Nat → Prop} {w : World} {lv tv : Value} {told : List Int} (hl : SlcA F w lv []) (ht : SlcU F w tv told) : Calls Try.prog 75 #[lv, tv] w (LPMade F w [] told) := by
  obtain ⟨ta, tcap, rfl⟩ := ht.form
  obtain ⟨la, lcap, rfl⟩ := hl.form
  obtain ⟨W, hW, hs3, hb0, hb1, hb2⟩ := three_l w (.slice la ([] : List Acc).length lcap) (.slice ta told.length tcap)
  subst hW
  have HT := Lib.hid ht
  have HB2 := Lib.hid hb2
  clear ht hl hb0 hb1 hb2
  obtain ⟨n, hn⟩ : ∃ n, n = told.length := ⟨_, rfl⟩
  rw [← hn] at hs3 HB2 ⊢
  have HN := Lib.hid hn
  clear hn
  go_enter Try.func75, Try.ntmps75
  go_wp2_with fail
  refine (done_u ta n tcap _).mono ?_
  rintro e w' ⟨rfl, hs⟩
  obtain ⟨c0, c1, c2, c3, c4, c5, c6, cf⟩ := cells7 (hs.obj HB2.out)
  have hsw := hs3.trans hs
  clear hs3 hs
  go_wp2
  refine bodyPost_ret (v := .agg #[.bool true, .slice ta n tcap, .int .i64 0, .int .i64 0, .int .u64 0, .int .u64 0, .nilFunc]) (by simp [results, Try.results75, go_sem, c0, c1, c2, c3, c4, c5, c6]) rfl ?_
  have hf := same_then hsw (Nat.le_add_right _ 2) (sep7 w' (w.heap.size + 2) (.bool true) (.slice ta n tcap) (.int .i64 0) (.int .i64 0) (.int .u64 0) (.int .u64 0) .nilFunc)
  have HT' := HT.out
  rw [← HN.out] at HT'
  exact ⟨_, rfl, ⟨_, rfl, HT'.same hf⟩, hf⟩

set_option maxRecDepth 100000 in
theorem list_cons {F : Nat → Prop} {w : World} {lv tv : Value} {A : Acc} {l : List Acc} {told : List Int} (hl : SlcA F w lv (A :: l)) (ht : SlcU F w tv told) (hB : ∀ b, w.heap.size ≤ b → F b) : Calls Try.prog 75 #[lv, tv] w (LPMade F w (A :: l) told) := by
  obtain ⟨ta, tcap, rfl⟩ := ht.form
  have hl0 := hl
  obtain ⟨hcl, ⟨rfl, h0⟩ | ⟨b, off, cap, rfl, hBb, hlt, hlc, hm, hc⟩⟩ := hl
  · simp at h0
  obtain ⟨W, hW, hs3, hb0, hb1, hb2⟩ := three_l w (.slice (some ⟨b, off, none⟩) (A :: l).length cap) (.slice ta told.length tcap)
  obtain ⟨x0, x1, x2, x3⟩ := head_cells hc
  subst hW
  have y0 := hs3.cell x0
  have y1 := hs3.cell x1
  have y2 := hs3.cell x2
  have y3 := hs3.cell x3
  have HT := Lib.hid ht
  have HL := Lib.hid hl0
  have HB0 := Lib.hid hb0
  have HB1 := Lib.hid hb1
  have HB2 := Lib.hid hb2
  clear ht hl0 hb0 hb1 hb2 hc hcl hm x0 x1 x2 x3
  obtain ⟨n, hn⟩ : ∃ n, n = (A :: l).length := ⟨_, rfl⟩
  obtain ⟨k, hk⟩ : ∃ n, n = told.length := ⟨_, rfl⟩
  have hn1 : 1 ≤ n := by rw [hn]; simp
  have hn0 : ((n : Int) == 0) = false := beq_false_of_ne (by omega)
  rw [← hn] at hs3 HB0 HB1 HB2 hlc y0 y1 y2 y3 ⊢
  rw [← hk] at hs3 HB0 HB1 HB2 y0 y1 y2 y3 ⊢
  have HN := Lib.hid hn
  have HK := Lib.hid hk
  clear hn hk
  go_enter Try.func75, Try.ntmps75
  go_wp2_with fail
  refine (do_u A _ _ _ _).mono ?_
  rintro e w' ⟨rfl, hs⟩
  obtain ⟨c0, c1, c2, c3, c4, c5, c6, cf⟩ := cells7 (hs.obj HB2.out)
  have hsw := hs3.trans hs
  have HS := Lib.hid hs
  clear hs3 hs y0 y1 y2 y3
  go_wp2
  refine bodyPost_ret (v := .agg #[.bool false, .slice none 0 0, .int .i64 A.op, .int .i64 A.at_, .int .u64 A.x, .int .u64 A.y, .func (.func 93) #[] #[.pointer (some ⟨w.heap.size, 0, none⟩), .pointer (some ⟨w.heap.size + 1, 0, none⟩)]]) (by simp [results, Try.results75, go_sem, c0, c1, c2, c3, c4, c5, c6]) rfl ?_
  have h7 := sep7 w' (w.heap.size + 2) (.bool false) (.slice none 0 0) (.int .i64 A.op) (.int .i64 A.at_) (.int .u64 A.x) (.int .u64 A.y) (.func (.func 93) #[] #[.pointer (some ⟨w.heap.size, 0, none⟩), .pointer (some ⟨w.heap.size + 1, 0, none⟩)])
  have hf := same_then hsw (Nat.le_add_right _ 2) h7
  have HT' := HT.out
  have HL' := HL.out
  rw [← HK.out] at HT'
  rw [← HN.out] at HL'
  exact ⟨_, rfl, ⟨w.heap.size, w.heap.size + 1, _, _, rfl, hB _ (Nat.le_refl _), hB _ (Nat.le_succ _), h7.obj (HS.out.obj HB0.out) (by omega), h7.obj (HS.out.obj HB1.out) (by omega), HL'.same hf, HT'.same hf⟩, hf⟩

theorem list_any {F : Nat → Prop} {w : World} {lv tv : Value} {l : List Acc} {told : List Int} (hl : SlcA F w lv l) (ht : SlcU F w tv told) (hB : ∀ b, w.heap.size ≤ b → F b) : Calls Try.prog 75 #[lv, tv] w (LPMade F w l told) := by
  cases l with
  | nil => exact list_nil hl ht
  | cons A l => exact list_cons hl ht hB

theorem tail_slc {F : Nat → Prop} {w : World} {A : Acc} {l : List Acc} {b off cap : Nat} (hBb : F b) (hlt : b < w.heap.size) (hlc : (A :: l).length ≤ cap) (hm : cap ≤ maxLen) (hc : ∀ j u, (accs (A :: l))[j]? = some u → w.cell? ⟨b, off + j, none⟩ = some u) :
    SlcA F w (.slice (some (if 1 = cap then ⟨b, off, none⟩ else ⟨b, off + 4, none⟩)) ((A :: l).length - 1) (cap - 1)) l := by
  refine ⟨accs_len l, .inr ⟨b, if 1 = cap then off else off + 4, cap - 1, ?_, hBb, hlt, by simp at hlc; omega, by omega, fun j u hj => ?_⟩⟩
  · split <;> simp
  · have hjl : j < l.length * 4 := by rw [← accs_len]; exact (List.getElem?_eq_some_iff.1 hj).1
    split
    · rename_i h1
      simp at hlc
      omega
    · rw [show off + 4 + j = off + (4 + j) by omega]
      refine hc (4 + j) u ?_
      simp only [accs, List.flatMap_cons] at hj ⊢
      rw [List.getElem?_append_right (by simp [accCells])]
      simpa [accCells] using hj

theorem LP.imp {F G : Nat → Prop} {w : World} {v : Value} {l : List Acc} {told : List Int} (h : LP F w v l told) (hB : ∀ b, F b → G b) : LP G w v l told := by
  cases l with
  | nil =>
    obtain ⟨rv, e, hr⟩ := h
    exact ⟨rv, e, Slc.imp hr (fun b hb _ => hB b hb)⟩
  | cons A l =>
    obtain ⟨lb, tb, lv, tv, e, h1, h2, h3, h4, h5, h6⟩ := h
    exact ⟨lb, tb, lv, tv, e, hB _ h1, hB _ h2, h3, h4, Slc.imp h5 (fun b hb _ => hB b hb), Slc.imp h6 (fun b hb _ => hB b hb)⟩
theorem grow_same {w0 w w1 : World} {row : Option Nat} (h : Same w0 w) (g : w.grownBy w1 row) (hr : ∀ k, row = some k → w0.heap.size ≤ k) : Same w0 w1 :=
  same_of_below (h.below.grown g h.size hr)
theorem one_told {F : Nat → Prop} {w : World} {B g cp : Nat} {told : List Int} {x : Int} (hB : ∀ b, B ≤ b → F b) (own : w.ownsRow B 23 1 (.slice (some ⟨g, 0, none⟩) (told.length + 1) cp) (told.length + 1) (wds told ++ [.int .u64 x])) : SlcU F w (.slice (some ⟨g, 0, none⟩) (told.length + 1) cp) (told ++ [x]) := by
  have h := Slc.owned hB own
  have e1 : (told ++ [x]).length = told.length + 1 := by simp
  have e2 : wds (told ++ [x]) = wds told ++ [.int .u64 x] := by simp [wds]
  show Slc 1 F w _ (told ++ [x]).length (wds (told ++ [x]))
  rw [e1, e2]
  exact h


set_option maxRecDepth 100000 in
set_option maxHeartbeats 1000000 in
theorem next_nil1 {F : Nat → Prop} {w : World} {lb tb b off cap n : Nat} {tv : Value} {A A' : Acc} {l : List Acc} {told : List Int} (x : Int) (hn : n = 1) (hcap : cap = 1) (h1 : F lb) (h2 : F tb) (hlb : w.heap[lb]? = some (.cells #[.slice (some ⟨b, off, none⟩) n cap] 41)) (htb : w.heap[tb]? = some (.cells #[tv] 22))
    (hl : SlcA F w (.slice (some ⟨b, off, none⟩) 0 0) ([])) (hnc : n ≤ cap) (ht : SlcU F w tv told) (hF : ∀ b, w.heap.size ≤ b → F b) (hk : told.length ≤ 1000) : Calls Try.prog 93 #[.int .u64 x, .pointer (some ⟨lb, 0, none⟩), .pointer (some ⟨tb, 0, none⟩)] w (LPMade F w ([]) (told ++ [x])) := by
  obtain ⟨i0, hi0, hz0, hz1, hz2⟩ := info_parts info23
  obtain ⟨ta, tcap, rfl⟩ := ht.form
  have hl' : SlcA (fun q => F q ∧ q ≠ w.heap.size) w (.slice (some ⟨b, off, none⟩) 0 0) ([]) := Slc.imp hl (fun q hq hlt => ⟨hq, by omega⟩)
  have hs0 : Same w (w.alloc (.cells #[.bool false, .slice none 0 0, .int .i64 0, .int .i64 0, .int .u64 0, .int .u64 0, .nilFunc] 87)) := Sep.alloc _ _ _
  have hbW : (w.alloc (.cells #[.bool false, .slice none 0 0, .int .i64 0, .int .i64 0, .int .u64 0, .int .u64 0, .nilFunc] 87)).heap[w.heap.size]? = some (.cells #[.bool false, .slice none 0 0, .int .i64 0, .int .i64 0, .int .u64 0, .int .u64 0, .nilFunc] 87) := heap_alloc_new _ _
  obtain ⟨W, hW⟩ : ∃ W, W = w.alloc (.cells #[.bool false, .slice none 0 0, .int .i64 0, .int .i64 0, .int .u64 0, .int .u64 0, .nilFunc] 87) := ⟨_, rfl⟩
  have hszW : W.heap.size = w.heap.size + 1 := by rw [hW]; simp
  rw [← hW] at hs0 hbW
  have cl : W.cell? ⟨lb, 0, none⟩ = some (.slice (some ⟨b, off, none⟩) n cap) := hs0.cell (cell_of_one hlb)
  have ct : W.cell? ⟨tb, 0, none⟩ = some (.slice ta told.length tcap) := hs0.cell (cell_of_one htb)
  have n1 : lb ≠ w.heap.size := by have := lt_of_block hlb; omega
  have n2 : tb ≠ w.heap.size := by have := lt_of_block htb; omega
  have HW := Lib.hid hW
  have HT := Lib.hid ht
  have HL := Lib.hid hl'
  have HBW := Lib.hid hbW
  have HSZ := Lib.hid hszW
  have hnc1 : (1 : Int) ≤ (n : Int) := by omega
  have hnc2 : (n : Int) ≤ (cap : Int) := by omega
  clear hW ht hl hl' hbW hszW hlb htb
  go_enter Try.func93, Try.ntmps93
  go_wp2_with fail
  rw [← HW.out]
  refine wp_region_held_drew (S := (fun v => v.cell? ⟨lb, 0, none⟩ = some (.slice (some ⟨b, off, none⟩) n cap) ∧ v.cell? ⟨tb, 0, none⟩ = some (.slice ta told.length tcap) ∧ Sep (fun k => k = w.heap.size) W v)) (by kernel_rfl) ?_ (fun hHeld => ?_)
  · exact ⟨cl, ct, Sep.drew _ _⟩
  change wpAnyH _ _ _ _ _ 9 _ _ _
  refine wpAnyH_take (i := 0) (oi := ⟨some 5, _, _, _, _, _⟩) (v := ?v1) rfl (by kernel_rfl) (by kernel_rfl) (by kernel_rfl) (fun _ _ _ h => h) (Or.inl ⟨by kernel_rfl, ?h1⟩) hHeld ?_
  case h1 => intro w hSw; (try dsimp only at hSw); go_simp; try with_reducible rfl
  try simp only [Act.put, List.setIfInBounds_toArray, List.set_cons_zero, List.set_cons_succ]
  refine wpAnyH_take (i := 1) (oi := ⟨some 6, _, _, _, _, _⟩) (v := ?v2) rfl (by kernel_rfl) (by kernel_rfl) (by kernel_rfl) (fun _ _ _ h => h) (Or.inl ⟨by kernel_rfl, ?h2⟩) hHeld ?_
  case h2 => intro w hSw; (try dsimp only at hSw); go_simp; try with_reducible rfl
  try simp only [Act.put, List.setIfInBounds_toArray, List.set_cons_zero, List.set_cons_succ]
  refine wpAnyH_take (i := 2) (oi := ⟨some 7, _, _, _, _, _⟩) (v := ?v3) rfl (by kernel_rfl) (by kernel_rfl) (by kernel_rfl) (fun _ _ _ h => h) (Or.inl ⟨by kernel_rfl, ?h3⟩) hHeld ?_
  case h3 => intro w hSw; (try dsimp only at hSw); go_simp; try with_reducible rfl
  try simp only [Act.put, List.setIfInBounds_toArray, List.set_cons_zero, List.set_cons_succ]
  refine wpAnyH_take (i := 4) (oi := ⟨some 9, _, _, _, _, _⟩) (v := ?v4) rfl (by kernel_rfl) (by kernel_rfl) (by kernel_rfl) (fun _ _ _ h => h) (Or.inl ⟨by kernel_rfl, ?h4⟩) hHeld ?_
  case h4 => intro w hSw; (try dsimp only at hSw); go_simp; try with_reducible rfl
  try simp only [Act.put, List.setIfInBounds_toArray, List.set_cons_zero, List.set_cons_succ]
  refine wpAnyH_ready (rs := [3, 5]) (by kernel_rfl) (by simp) ?_
  refine AllReadyH.cons (o := ⟨some 8, _, _, _, _, _⟩) rfl (fun K hK => ?_) ?_
  ·
    rw [if_pos (by kernel_rfl)]
    go_simp
    refine (cloneU ((HT.out.same hs0).same (Sep.drew _ W)) (by omega)).mono ?_
    rintro e w8 ⟨v8, rfl, own8, hs8⟩
    have hc8 : Same W w8 := Sep.trans (Sep.drew _ W) hs8
    refine hK.out _ _ ?_ (fun hHeld => ?_)
    · exact ⟨hc8.cell cl, hc8.cell ct, hc8.sep _⟩
    clear hK K
    try simp only [Act.put, List.setIfInBounds_toArray, List.set_cons_zero, List.set_cons_succ]
    refine wpAnyH_ready (rs := [5]) (by kernel_rfl) (by simp) ?_
    refine AllReadyH.cons (o := ⟨some 10, _, _, _, _, _⟩) rfl (fun K hK => ?_) AllReadyH.nil
    rw [if_pos (by kernel_rfl)]
    go_simp
    have hc10 : Same W (w8.alloc (.cells #[.int .u64 x] 23)) := Sep.trans hc8 (Sep.alloc _ w8 _)
    refine hK.out _ _ ?_ (fun hHeld => ?_)
    · exact ⟨hc10.cell cl, hc10.cell ct, hc10.sep _⟩
    clear hK K
    try simp only [Act.put, List.setIfInBounds_toArray, List.set_cons_zero, List.set_cons_succ]
    refine wpAnyH_ready (rs := [6]) (by kernel_rfl) (by simp) ?_
    refine AllReadyH.cons (o := ⟨some 11, _, _, _, _, _⟩) rfl (fun K hK => ?_) AllReadyH.nil
    rw [if_pos (by kernel_rfl)]
    refine wp_append_lies _ (.tmp 8) (.tmp 10) 22 rfl _ 23 i0 (.int .u64 0) 1 8 Try.underlying22 hi0 hz0 hz1 hz2 rfl (by omega) v8 told.length (wds told) rfl (own8.alloc _) ⟨w8.heap.size, 0, none⟩ 1 1 [.int .u64 x] rfl rfl (World.news_of_block (heap_alloc_new w8 _)) (by simp [Value.oneCell']) (by omega) (by unfold maxLen; omega) (by omega) (by have := hs8.size; simp at this ⊢; omega) _ rfl ?_
    intro g cp wA ownA growA hatA hltA
    have hcA : Same W wA := grow_same hc10 growA (fun q hq => Nat.le_trans (by simp) (own8.lt q hq).1)
    have htA : SlcU (fun q => F q ∧ q ≠ w.heap.size) wA (.slice (some ⟨g, 0, none⟩) (told.length + 1) cp) (told ++ [x]) := one_told (fun q hq => by have hq2 : W.heap.size ≤ q := Nat.le_trans (by simp) hq; rw [HSZ.out] at hq2; exact ⟨hF q (by omega), by omega⟩) ownA
    refine hK.out _ _ ?_ (fun hHeld => ?_)
    · exact ⟨hcA.cell cl, hcA.cell ct, hcA.sep _⟩
    clear hK K
    try simp only [Act.put, List.setIfInBounds_toArray, List.set_cons_zero, List.set_cons_succ]
    refine wpAnyH_ready (rs := [7]) (by kernel_rfl) (by simp) ?_
    refine AllReadyH.cons (o := ⟨some 12, _, _, _, _, _⟩) rfl (fun K hK => ?_) AllReadyH.nil
    rw [if_pos (by kernel_rfl)]
    go_simp
    refine (list_any (F := fun q => F q ∧ q ≠ w.heap.size) ((HL.out.same hs0).same hcA) htA (fun q hq => by have := hcA.size; rw [HSZ.out] at this; exact ⟨hF q (by omega), by omega⟩)).mono ?_
    rintro e wL ⟨v12, rfl, hlp, hsL⟩
    obtain ⟨rv, rfl, hrv⟩ := id hlp
    obtain ⟨ra, rc, rfl⟩ := hrv.form
    obtain ⟨rn, hrn⟩ : ∃ rn, rn = (told ++ [x]).length := ⟨_, rfl⟩
    rw [← hrn] at hlp ⊢
    clear hrv hrn
    have hcL : Same W wL := hcA.trans hsL
    refine hK.out _ _ ?_ (fun hHeld => ?_)
    · exact ⟨hcL.cell cl, hcL.cell ct, hcL.sep _⟩
    clear hK K
    try simp only [Act.put, List.setIfInBounds_toArray, List.set_cons_zero, List.set_cons_succ]
    refine wpAnyH_ready (rs := [8]) (by kernel_rfl) (by simp) ?_
    refine AllReadyH.cons (o := ⟨none, _, _, _, _, _⟩) rfl (fun K hK => ?_) AllReadyH.nil
    obtain ⟨c0, c1, c2, c3, c4, c5, c6, cf⟩ := cells7 (hcL.obj HBW.out)
    rw [if_pos (by kernel_rfl)]
    go_simp
    have h7 := sep7 wL w.heap.size (.bool true) (.slice ra rn rc) (.int .i64 0) (.int .i64 0) (.int .u64 0) (.int .u64 0) (.nilFunc)
    refine hK.out _ _ ?_ (fun hHeld => ?_)
    · exact ⟨h7.cell (hcL.cell cl) n1, h7.cell (hcL.cell ct) n2, (hcL.sep _).trans h7⟩
    clear hK K
    try simp only [Act.put, List.setIfInBounds_toArray, List.set_cons_zero, List.set_cons_succ]
    refine wpAnyH_done (by kernel_rfl) ?_ _
    go_wp2
    refine bodyPost_ret (v := .agg #[.bool true, .slice ra rn rc, .int .i64 0, .int .i64 0, .int .u64 0, .int .u64 0, .nilFunc]) (by simp [results, Try.results93, go_sem, c0, c1, c2, c3, c4, c5, c6]) rfl ?_
    exact ⟨_, rfl, (hlp.stay h7 (fun q hq _ => hq.2)).imp (fun q hq => hq.1), same_then (hs0.trans hcL) (Nat.le_refl _) h7⟩
  refine AllReadyH.cons (o := ⟨some 10, _, _, _, _, _⟩) rfl (fun K hK => ?_) AllReadyH.nil
  ·
    rw [if_pos (by kernel_rfl)]
    go_simp
    have hc10 : Same W (W.alloc (.cells #[.int .u64 x] 23)).drew := Sep.trans (Sep.alloc _ W _) (Sep.drew _ _)
    refine hK.out _ _ ?_ (fun hHeld => ?_)
    · exact ⟨hc10.cell cl, hc10.cell ct, hc10.sep _⟩
    clear hK K
    try simp only [Act.put, List.setIfInBounds_toArray, List.set_cons_zero, List.set_cons_succ]
    refine wpAnyH_ready (rs := [3]) (by kernel_rfl) (by simp) ?_
    refine AllReadyH.cons (o := ⟨some 8, _, _, _, _, _⟩) rfl (fun K hK => ?_) AllReadyH.nil
    rw [if_pos (by kernel_rfl)]
    go_simp
    refine (cloneU ((HT.out.same hs0).same (hc10)) (by omega)).mono ?_
    rintro e w8 ⟨v8, rfl, own8, hs8⟩
    have hc8 : Same W w8 := Sep.trans (hc10) hs8
    refine hK.out _ _ ?_ (fun hHeld => ?_)
    · exact ⟨hc8.cell cl, hc8.cell ct, hc8.sep _⟩
    clear hK K
    try simp only [Act.put, List.setIfInBounds_toArray, List.set_cons_zero, List.set_cons_succ]
    refine wpAnyH_ready (rs := [6]) (by kernel_rfl) (by simp) ?_
    refine AllReadyH.cons (o := ⟨some 11, _, _, _, _, _⟩) rfl (fun K hK => ?_) AllReadyH.nil
    rw [if_pos (by kernel_rfl)]
    refine wp_append_lies _ (.tmp 8) (.tmp 10) 22 rfl _ 23 i0 (.int .u64 0) 1 8 Try.underlying22 hi0 hz0 hz1 hz2 rfl (by omega) v8 told.length (wds told) rfl own8 ⟨W.heap.size, 0, none⟩ 1 1 [.int .u64 x] rfl rfl (World.news_of_block (hs8.obj (heap_alloc_new W _))) (by simp [Value.oneCell']) (by omega) (by unfold maxLen; omega) (by omega) (by have := hs8.size; simpa using this) _ rfl ?_
    intro g cp wA ownA growA hatA hltA
    have hcA : Same W wA := grow_same hc8 growA (fun q hq => Nat.le_trans (by simp) (own8.lt q hq).1)
    have htA : SlcU (fun q => F q ∧ q ≠ w.heap.size) wA (.slice (some ⟨g, 0, none⟩) (told.length + 1) cp) (told ++ [x]) := one_told (fun q hq => by have hq2 : W.heap.size ≤ q := Nat.le_trans (by simp) hq; rw [HSZ.out] at hq2; exact ⟨hF q (by omega), by omega⟩) ownA
    refine hK.out _ _ ?_ (fun hHeld => ?_)
    · exact ⟨hcA.cell cl, hcA.cell ct, hcA.sep _⟩
    clear hK K
    try simp only [Act.put, List.setIfInBounds_toArray, List.set_cons_zero, List.set_cons_succ]
    refine wpAnyH_ready (rs := [7]) (by kernel_rfl) (by simp) ?_
    refine AllReadyH.cons (o := ⟨some 12, _, _, _, _, _⟩) rfl (fun K hK => ?_) AllReadyH.nil
    rw [if_pos (by kernel_rfl)]
    go_simp
    refine (list_any (F := fun q => F q ∧ q ≠ w.heap.size) ((HL.out.same hs0).same hcA) htA (fun q hq => by have := hcA.size; rw [HSZ.out] at this; exact ⟨hF q (by omega), by omega⟩)).mono ?_
    rintro e wL ⟨v12, rfl, hlp, hsL⟩
    obtain ⟨rv, rfl, hrv⟩ := id hlp
    obtain ⟨ra, rc, rfl⟩ := hrv.form
    obtain ⟨rn, hrn⟩ : ∃ rn, rn = (told ++ [x]).length := ⟨_, rfl⟩
    rw [← hrn] at hlp ⊢
    clear hrv hrn
    have hcL : Same W wL := hcA.trans hsL
    refine hK.out _ _ ?_ (fun hHeld => ?_)
    · exact ⟨hcL.cell cl, hcL.cell ct, hcL.sep _⟩
    clear hK K
    try simp only [Act.put, List.setIfInBounds_toArray, List.set_cons_zero, List.set_cons_succ]
    refine wpAnyH_ready (rs := [8]) (by kernel_rfl) (by simp) ?_
    refine AllReadyH.cons (o := ⟨none, _, _, _, _, _⟩) rfl (fun K hK => ?_) AllReadyH.nil
    obtain ⟨c0, c1, c2, c3, c4, c5, c6, cf⟩ := cells7 (hcL.obj HBW.out)
    rw [if_pos (by kernel_rfl)]
    go_simp
    have h7 := sep7 wL w.heap.size (.bool true) (.slice ra rn rc) (.int .i64 0) (.int .i64 0) (.int .u64 0) (.int .u64 0) (.nilFunc)
    refine hK.out _ _ ?_ (fun hHeld => ?_)
    · exact ⟨h7.cell (hcL.cell cl) n1, h7.cell (hcL.cell ct) n2, (hcL.sep _).trans h7⟩
    clear hK K
    try simp only [Act.put, List.setIfInBounds_toArray, List.set_cons_zero, List.set_cons_succ]
    refine wpAnyH_done (by kernel_rfl) ?_ _
    go_wp2
    refine bodyPost_ret (v := .agg #[.bool true, .slice ra rn rc, .int .i64 0, .int .i64 0, .int .u64 0, .int .u64 0, .nilFunc]) (by simp [results, Try.results93, go_sem, c0, c1, c2, c3, c4, c5, c6]) rfl ?_
    exact ⟨_, rfl, (hlp.stay h7 (fun q hq _ => hq.2)).imp (fun q hq => hq.1), same_then (hs0.trans hcL) (Nat.le_refl _) h7⟩

set_option maxRecDepth 100000 in
set_option maxHeartbeats 1000000 in
theorem next_nil2 {F : Nat → Prop} {w : World} {lb tb b off cap n : Nat} {tv : Value} {A A' : Acc} {l : List Acc} {told : List Int} (x : Int) (hn : n = 1) (hcap : ¬ cap = 1) (h1 : F lb) (h2 : F tb) (hlb : w.heap[lb]? = some (.cells #[.slice (some ⟨b, off, none⟩) n cap] 41)) (htb : w.heap[tb]? = some (.cells #[tv] 22))
    (hl : SlcA F w (.slice (some ⟨b, off + 4, none⟩) 0 (cap - 1)) ([])) (hnc : n ≤ cap) (ht : SlcU F w tv told) (hF : ∀ b, w.heap.size ≤ b → F b) (hk : told.length ≤ 1000) : Calls Try.prog 93 #[.int .u64 x, .pointer (some ⟨lb, 0, none⟩), .pointer (some ⟨tb, 0, none⟩)] w (LPMade F w ([]) (told ++ [x])) := by
  obtain ⟨i0, hi0, hz0, hz1, hz2⟩ := info_parts info23
  obtain ⟨ta, tcap, rfl⟩ := ht.form
  have hl' : SlcA (fun q => F q ∧ q ≠ w.heap.size) w (.slice (some ⟨b, off + 4, none⟩) 0 (cap - 1)) ([]) := Slc.imp hl (fun q hq hlt => ⟨hq, by omega⟩)
  have hs0 : Same w (w.alloc (.cells #[.bool false, .slice none 0 0, .int .i64 0, .int .i64 0, .int .u64 0, .int .u64 0, .nilFunc] 87)) := Sep.alloc _ _ _
  have hbW : (w.alloc (.cells #[.bool false, .slice none 0 0, .int .i64 0, .int .i64 0, .int .u64 0, .int .u64 0, .nilFunc] 87)).heap[w.heap.size]? = some (.cells #[.bool false, .slice none 0 0, .int .i64 0, .int .i64 0, .int .u64 0, .int .u64 0, .nilFunc] 87) := heap_alloc_new _ _
  obtain ⟨W, hW⟩ : ∃ W, W = w.alloc (.cells #[.bool false, .slice none 0 0, .int .i64 0, .int .i64 0, .int .u64 0, .int .u64 0, .nilFunc] 87) := ⟨_, rfl⟩
  have hszW : W.heap.size = w.heap.size + 1 := by rw [hW]; simp
  rw [← hW] at hs0 hbW
  have cl : W.cell? ⟨lb, 0, none⟩ = some (.slice (some ⟨b, off, none⟩) n cap) := hs0.cell (cell_of_one hlb)
  have ct : W.cell? ⟨tb, 0, none⟩ = some (.slice ta told.length tcap) := hs0.cell (cell_of_one htb)
  have n1 : lb ≠ w.heap.size := by have := lt_of_block hlb; omega
  have n2 : tb ≠ w.heap.size := by have := lt_of_block htb; omega
  have HW := Lib.hid hW
  have HT := Lib.hid ht
  have HL := Lib.hid hl'
  have HBW := Lib.hid hbW
  have HSZ := Lib.hid hszW
  have hnc1 : (1 : Int) ≤ (n : Int) := by omega
  have hnc2 : (n : Int) ≤ (cap : Int) := by omega
  clear hW ht hl hl' hbW hszW hlb htb
  go_enter Try.func93, Try.ntmps93
  go_wp2_with fail
  rw [← HW.out]
  refine wp_region_held_drew (S := (fun v => v.cell? ⟨lb, 0, none⟩ = some (.slice (some ⟨b, off, none⟩) n cap) ∧ v.cell? ⟨tb, 0, none⟩ = some (.slice ta told.length tcap) ∧ Sep (fun k => k = w.heap.size) W v)) (by kernel_rfl) ?_ (fun hHeld => ?_)
  · exact ⟨cl, ct, Sep.drew _ _⟩
  change wpAnyH _ _ _ _ _ 9 _ _ _
  refine wpAnyH_take (i := 0) (oi := ⟨some 5, _, _, _, _, _⟩) (v := ?v5) rfl (by kernel_rfl) (by kernel_rfl) (by kernel_rfl) (fun _ _ _ h => h) (Or.inl ⟨by kernel_rfl, ?h5⟩) hHeld ?_
  case h5 => intro w hSw; (try dsimp only at hSw); go_simp; try with_reducible rfl
  try simp only [Act.put, List.setIfInBounds_toArray, List.set_cons_zero, List.set_cons_succ]
  refine wpAnyH_take (i := 1) (oi := ⟨some 6, _, _, _, _, _⟩) (v := ?v6) rfl (by kernel_rfl) (by kernel_rfl) (by kernel_rfl) (fun _ _ _ h => h) (Or.inl ⟨by kernel_rfl, ?h6⟩) hHeld ?_
  case h6 => intro w hSw; (try dsimp only at hSw); go_simp; try with_reducible rfl
  try simp only [Act.put, List.setIfInBounds_toArray, List.set_cons_zero, List.set_cons_succ]
  refine wpAnyH_take (i := 2) (oi := ⟨some 7, _, _, _, _, _⟩) (v := ?v7) rfl (by kernel_rfl) (by kernel_rfl) (by kernel_rfl) (fun _ _ _ h => h) (Or.inl ⟨by kernel_rfl, ?h7⟩) hHeld ?_
  case h7 => intro w hSw; (try dsimp only at hSw); go_simp; try with_reducible rfl
  try simp only [Act.put, List.setIfInBounds_toArray, List.set_cons_zero, List.set_cons_succ]
  refine wpAnyH_take (i := 4) (oi := ⟨some 9, _, _, _, _, _⟩) (v := ?v8) rfl (by kernel_rfl) (by kernel_rfl) (by kernel_rfl) (fun _ _ _ h => h) (Or.inl ⟨by kernel_rfl, ?h8⟩) hHeld ?_
  case h8 => intro w hSw; (try dsimp only at hSw); go_simp; try with_reducible rfl
  try simp only [Act.put, List.setIfInBounds_toArray, List.set_cons_zero, List.set_cons_succ]
  refine wpAnyH_ready (rs := [3, 5]) (by kernel_rfl) (by simp) ?_
  refine AllReadyH.cons (o := ⟨some 8, _, _, _, _, _⟩) rfl (fun K hK => ?_) ?_
  ·
    rw [if_pos (by kernel_rfl)]
    go_simp
    refine (cloneU ((HT.out.same hs0).same (Sep.drew _ W)) (by omega)).mono ?_
    rintro e w8 ⟨v8, rfl, own8, hs8⟩
    have hc8 : Same W w8 := Sep.trans (Sep.drew _ W) hs8
    refine hK.out _ _ ?_ (fun hHeld => ?_)
    · exact ⟨hc8.cell cl, hc8.cell ct, hc8.sep _⟩
    clear hK K
    try simp only [Act.put, List.setIfInBounds_toArray, List.set_cons_zero, List.set_cons_succ]
    refine wpAnyH_ready (rs := [5]) (by kernel_rfl) (by simp) ?_
    refine AllReadyH.cons (o := ⟨some 10, _, _, _, _, _⟩) rfl (fun K hK => ?_) AllReadyH.nil
    rw [if_pos (by kernel_rfl)]
    go_simp
    have hc10 : Same W (w8.alloc (.cells #[.int .u64 x] 23)) := Sep.trans hc8 (Sep.alloc _ w8 _)
    refine hK.out _ _ ?_ (fun hHeld => ?_)
    · exact ⟨hc10.cell cl, hc10.cell ct, hc10.sep _⟩
    clear hK K
    try simp only [Act.put, List.setIfInBounds_toArray, List.set_cons_zero, List.set_cons_succ]
    refine wpAnyH_ready (rs := [6]) (by kernel_rfl) (by simp) ?_
    refine AllReadyH.cons (o := ⟨some 11, _, _, _, _, _⟩) rfl (fun K hK => ?_) AllReadyH.nil
    rw [if_pos (by kernel_rfl)]
    refine wp_append_lies _ (.tmp 8) (.tmp 10) 22 rfl _ 23 i0 (.int .u64 0) 1 8 Try.underlying22 hi0 hz0 hz1 hz2 rfl (by omega) v8 told.length (wds told) rfl (own8.alloc _) ⟨w8.heap.size, 0, none⟩ 1 1 [.int .u64 x] rfl rfl (World.news_of_block (heap_alloc_new w8 _)) (by simp [Value.oneCell']) (by omega) (by unfold maxLen; omega) (by omega) (by have := hs8.size; simp at this ⊢; omega) _ rfl ?_
    intro g cp wA ownA growA hatA hltA
    have hcA : Same W wA := grow_same hc10 growA (fun q hq => Nat.le_trans (by simp) (own8.lt q hq).1)
    have htA : SlcU (fun q => F q ∧ q ≠ w.heap.size) wA (.slice (some ⟨g, 0, none⟩) (told.length + 1) cp) (told ++ [x]) := one_told (fun q hq => by have hq2 : W.heap.size ≤ q := Nat.le_trans (by simp) hq; rw [HSZ.out] at hq2; exact ⟨hF q (by omega), by omega⟩) ownA
    refine hK.out _ _ ?_ (fun hHeld => ?_)
    · exact ⟨hcA.cell cl, hcA.cell ct, hcA.sep _⟩
    clear hK K
    try simp only [Act.put, List.setIfInBounds_toArray, List.set_cons_zero, List.set_cons_succ]
    refine wpAnyH_ready (rs := [7]) (by kernel_rfl) (by simp) ?_
    refine AllReadyH.cons (o := ⟨some 12, _, _, _, _, _⟩) rfl (fun K hK => ?_) AllReadyH.nil
    rw [if_pos (by kernel_rfl)]
    go_simp
    refine (list_any (F := fun q => F q ∧ q ≠ w.heap.size) ((HL.out.same hs0).same hcA) htA (fun q hq => by have := hcA.size; rw [HSZ.out] at this; exact ⟨hF q (by omega), by omega⟩)).mono ?_
    rintro e wL ⟨v12, rfl, hlp, hsL⟩
    obtain ⟨rv, rfl, hrv⟩ := id hlp
    obtain ⟨ra, rc, rfl⟩ := hrv.form
    obtain ⟨rn, hrn⟩ : ∃ rn, rn = (told ++ [x]).length := ⟨_, rfl⟩
    rw [← hrn] at hlp ⊢
    clear hrv hrn
    have hcL : Same W wL := hcA.trans hsL
    refine hK.out _ _ ?_ (fun hHeld => ?_)
    · exact ⟨hcL.cell cl, hcL.cell ct, hcL.sep _⟩
    clear hK K
    try simp only [Act.put, List.setIfInBounds_toArray, List.set_cons_zero, List.set_cons_succ]
    refine wpAnyH_ready (rs := [8]) (by kernel_rfl) (by simp) ?_
    refine AllReadyH.cons (o := ⟨none, _, _, _, _, _⟩) rfl (fun K hK => ?_) AllReadyH.nil
    obtain ⟨c0, c1, c2, c3, c4, c5, c6, cf⟩ := cells7 (hcL.obj HBW.out)
    rw [if_pos (by kernel_rfl)]
    go_simp
    have h7 := sep7 wL w.heap.size (.bool true) (.slice ra rn rc) (.int .i64 0) (.int .i64 0) (.int .u64 0) (.int .u64 0) (.nilFunc)
    refine hK.out _ _ ?_ (fun hHeld => ?_)
    · exact ⟨h7.cell (hcL.cell cl) n1, h7.cell (hcL.cell ct) n2, (hcL.sep _).trans h7⟩
    clear hK K
    try simp only [Act.put, List.setIfInBounds_toArray, List.set_cons_zero, List.set_cons_succ]
    refine wpAnyH_done (by kernel_rfl) ?_ _
    go_wp2
    refine bodyPost_ret (v := .agg #[.bool true, .slice ra rn rc, .int .i64 0, .int .i64 0, .int .u64 0, .int .u64 0, .nilFunc]) (by simp [results, Try.results93, go_sem, c0, c1, c2, c3, c4, c5, c6]) rfl ?_
    exact ⟨_, rfl, (hlp.stay h7 (fun q hq _ => hq.2)).imp (fun q hq => hq.1), same_then (hs0.trans hcL) (Nat.le_refl _) h7⟩
  refine AllReadyH.cons (o := ⟨some 10, _, _, _, _, _⟩) rfl (fun K hK => ?_) AllReadyH.nil
  ·
    rw [if_pos (by kernel_rfl)]
    go_simp
    have hc10 : Same W (W.alloc (.cells #[.int .u64 x] 23)).drew := Sep.trans (Sep.alloc _ W _) (Sep.drew _ _)
    refine hK.out _ _ ?_ (fun hHeld => ?_)
    · exact ⟨hc10.cell cl, hc10.cell ct, hc10.sep _⟩
    clear hK K
    try simp only [Act.put, List.setIfInBounds_toArray, List.set_cons_zero, List.set_cons_succ]
    refine wpAnyH_ready (rs := [3]) (by kernel_rfl) (by simp) ?_
    refine AllReadyH.cons (o := ⟨some 8, _, _, _, _, _⟩) rfl (fun K hK => ?_) AllReadyH.nil
    rw [if_pos (by kernel_rfl)]
    go_simp
    refine (cloneU ((HT.out.same hs0).same (hc10)) (by omega)).mono ?_
    rintro e w8 ⟨v8, rfl, own8, hs8⟩
    have hc8 : Same W w8 := Sep.trans (hc10) hs8
    refine hK.out _ _ ?_ (fun hHeld => ?_)
    · exact ⟨hc8.cell cl, hc8.cell ct, hc8.sep _⟩
    clear hK K
    try simp only [Act.put, List.setIfInBounds_toArray, List.set_cons_zero, List.set_cons_succ]
    refine wpAnyH_ready (rs := [6]) (by kernel_rfl) (by simp) ?_
    refine AllReadyH.cons (o := ⟨some 11, _, _, _, _, _⟩) rfl (fun K hK => ?_) AllReadyH.nil
    rw [if_pos (by kernel_rfl)]
    refine wp_append_lies _ (.tmp 8) (.tmp 10) 22 rfl _ 23 i0 (.int .u64 0) 1 8 Try.underlying22 hi0 hz0 hz1 hz2 rfl (by omega) v8 told.length (wds told) rfl own8 ⟨W.heap.size, 0, none⟩ 1 1 [.int .u64 x] rfl rfl (World.news_of_block (hs8.obj (heap_alloc_new W _))) (by simp [Value.oneCell']) (by omega) (by unfold maxLen; omega) (by omega) (by have := hs8.size; simpa using this) _ rfl ?_
    intro g cp wA ownA growA hatA hltA
    have hcA : Same W wA := grow_same hc8 growA (fun q hq => Nat.le_trans (by simp) (own8.lt q hq).1)
    have htA : SlcU (fun q => F q ∧ q ≠ w.heap.size) wA (.slice (some ⟨g, 0, none⟩) (told.length + 1) cp) (told ++ [x]) := one_told (fun q hq => by have hq2 : W.heap.size ≤ q := Nat.le_trans (by simp) hq; rw [HSZ.out] at hq2; exact ⟨hF q (by omega), by omega⟩) ownA
    refine hK.out _ _ ?_ (fun hHeld => ?_)
    · exact ⟨hcA.cell cl, hcA.cell ct, hcA.sep _⟩
    clear hK K
    try simp only [Act.put, List.setIfInBounds_toArray, List.set_cons_zero, List.set_cons_succ]
    refine wpAnyH_ready (rs := [7]) (by kernel_rfl) (by simp) ?_
    refine AllReadyH.cons (o := ⟨some 12, _, _, _, _, _⟩) rfl (fun K hK => ?_) AllReadyH.nil
    rw [if_pos (by kernel_rfl)]
    go_simp
    refine (list_any (F := fun q => F q ∧ q ≠ w.heap.size) ((HL.out.same hs0).same hcA) htA (fun q hq => by have := hcA.size; rw [HSZ.out] at this; exact ⟨hF q (by omega), by omega⟩)).mono ?_
    rintro e wL ⟨v12, rfl, hlp, hsL⟩
    obtain ⟨rv, rfl, hrv⟩ := id hlp
    obtain ⟨ra, rc, rfl⟩ := hrv.form
    obtain ⟨rn, hrn⟩ : ∃ rn, rn = (told ++ [x]).length := ⟨_, rfl⟩
    rw [← hrn] at hlp ⊢
    clear hrv hrn
    have hcL : Same W wL := hcA.trans hsL
    refine hK.out _ _ ?_ (fun hHeld => ?_)
    · exact ⟨hcL.cell cl, hcL.cell ct, hcL.sep _⟩
    clear hK K
    try simp only [Act.put, List.setIfInBounds_toArray, List.set_cons_zero, List.set_cons_succ]
    refine wpAnyH_ready (rs := [8]) (by kernel_rfl) (by simp) ?_
    refine AllReadyH.cons (o := ⟨none, _, _, _, _, _⟩) rfl (fun K hK => ?_) AllReadyH.nil
    obtain ⟨c0, c1, c2, c3, c4, c5, c6, cf⟩ := cells7 (hcL.obj HBW.out)
    rw [if_pos (by kernel_rfl)]
    go_simp
    have h7 := sep7 wL w.heap.size (.bool true) (.slice ra rn rc) (.int .i64 0) (.int .i64 0) (.int .u64 0) (.int .u64 0) (.nilFunc)
    refine hK.out _ _ ?_ (fun hHeld => ?_)
    · exact ⟨h7.cell (hcL.cell cl) n1, h7.cell (hcL.cell ct) n2, (hcL.sep _).trans h7⟩
    clear hK K
    try simp only [Act.put, List.setIfInBounds_toArray, List.set_cons_zero, List.set_cons_succ]
    refine wpAnyH_done (by kernel_rfl) ?_ _
    go_wp2
    refine bodyPost_ret (v := .agg #[.bool true, .slice ra rn rc, .int .i64 0, .int .i64 0, .int .u64 0, .int .u64 0, .nilFunc]) (by simp [results, Try.results93, go_sem, c0, c1, c2, c3, c4, c5, c6]) rfl ?_
    exact ⟨_, rfl, (hlp.stay h7 (fun q hq _ => hq.2)).imp (fun q hq => hq.1), same_then (hs0.trans hcL) (Nat.le_refl _) h7⟩

set_option maxRecDepth 100000 in
set_option maxHeartbeats 1000000 in
theorem next_cons {F : Nat → Prop} {w : World} {lb tb b off cap n : Nat} {tv : Value} {A A' : Acc} {l : List Acc} {told : List Int} (x : Int) (hn : 2 ≤ n) (hcap : ¬ cap = 1) (h1 : F lb) (h2 : F tb) (hlb : w.heap[lb]? = some (.cells #[.slice (some ⟨b, off, none⟩) n cap] 41)) (htb : w.heap[tb]? = some (.cells #[tv] 22))
    (hl : SlcA F w (.slice (some ⟨b, off + 4, none⟩) (n - 1) (cap - 1)) (A' :: l)) (hnc : n ≤ cap) (ht : SlcU F w tv told) (hF : ∀ b, w.heap.size ≤ b → F b) (hk : told.length ≤ 1000) : Calls Try.prog 93 #[.int .u64 x, .pointer (some ⟨lb, 0, none⟩), .pointer (some ⟨tb, 0, none⟩)] w (LPMade F w (A' :: l) (told ++ [x])) := by
  obtain ⟨i0, hi0, hz0, hz1, hz2⟩ := info_parts info23
  obtain ⟨ta, tcap, rfl⟩ := ht.form
  have hl' : SlcA (fun q => F q ∧ q ≠ w.heap.size) w (.slice (some ⟨b, off + 4, none⟩) (n - 1) (cap - 1)) (A' :: l) := Slc.imp hl (fun q hq hlt => ⟨hq, by omega⟩)
  have hs0 : Same w (w.alloc (.cells #[.bool false, .slice none 0 0, .int .i64 0, .int .i64 0, .int .u64 0, .int .u64 0, .nilFunc] 87)) := Sep.alloc _ _ _
  have hbW : (w.alloc (.cells #[.bool false, .slice none 0 0, .int .i64 0, .int .i64 0, .int .u64 0, .int .u64 0, .nilFunc] 87)).heap[w.heap.size]? = some (.cells #[.bool false, .slice none 0 0, .int .i64 0, .int .i64 0, .int .u64 0, .int .u64 0, .nilFunc] 87) := heap_alloc_new _ _
  obtain ⟨W, hW⟩ : ∃ W, W = w.alloc (.cells #[.bool false, .slice none 0 0, .int .i64 0, .int .i64 0, .int .u64 0, .int .u64 0, .nilFunc] 87) := ⟨_, rfl⟩
  have hszW : W.heap.size = w.heap.size + 1 := by rw [hW]; simp
  rw [← hW] at hs0 hbW
  have cl : W.cell? ⟨lb, 0, none⟩ = some (.slice (some ⟨b, off, none⟩) n cap) := hs0.cell (cell_of_one hlb)
  have ct : W.cell? ⟨tb, 0, none⟩ = some (.slice ta told.length tcap) := hs0.cell (cell_of_one htb)
  have n1 : lb ≠ w.heap.size := by have := lt_of_block hlb; omega
  have n2 : tb ≠ w.heap.size := by have := lt_of_block htb; omega
  have HW := Lib.hid hW
  have HT := Lib.hid ht
  have HL := Lib.hid hl'
  have HBW := Lib.hid hbW
  have HSZ := Lib.hid hszW
  have hnc1 : (1 : Int) ≤ (n : Int) := by omega
  have hnc2 : (n : Int) ≤ (cap : Int) := by omega
  clear hW ht hl hl' hbW hszW hlb htb
  go_enter Try.func93, Try.ntmps93
  go_wp2_with fail
  rw [← HW.out]
  refine wp_region_held_drew (S := (fun v => v.cell? ⟨lb, 0, none⟩ = some (.slice (some ⟨b, off, none⟩) n cap) ∧ v.cell? ⟨tb, 0, none⟩ = some (.slice ta told.length tcap) ∧ Sep (fun k => k = w.heap.size) W v)) (by kernel_rfl) ?_ (fun hHeld => ?_)
  · exact ⟨cl, ct, Sep.drew _ _⟩
  change wpAnyH _ _ _ _ _ 9 _ _ _
  refine wpAnyH_take (i := 0) (oi := ⟨some 5, _, _, _, _, _⟩) (v := ?v9) rfl (by kernel_rfl) (by kernel_rfl) (by kernel_rfl) (fun _ _ _ h => h) (Or.inl ⟨by kernel_rfl, ?h9⟩) hHeld ?_
  case h9 => intro w hSw; (try dsimp only at hSw); go_simp; try with_reducible rfl
  try simp only [Act.put, List.setIfInBounds_toArray, List.set_cons_zero, List.set_cons_succ]
  refine wpAnyH_take (i := 1) (oi := ⟨some 6, _, _, _, _, _⟩) (v := ?v10) rfl (by kernel_rfl) (by kernel_rfl) (by kernel_rfl) (fun _ _ _ h => h) (Or.inl ⟨by kernel_rfl, ?h10⟩) hHeld ?_
  case h10 => intro w hSw; (try dsimp only at hSw); go_simp; try with_reducible rfl
  try simp only [Act.put, List.setIfInBounds_toArray, List.set_cons_zero, List.set_cons_succ]
  refine wpAnyH_take (i := 2) (oi := ⟨some 7, _, _, _, _, _⟩) (v := ?v11) rfl (by kernel_rfl) (by kernel_rfl) (by kernel_rfl) (fun _ _ _ h => h) (Or.inl ⟨by kernel_rfl, ?h11⟩) hHeld ?_
  case h11 => intro w hSw; (try dsimp only at hSw); go_simp; try with_reducible rfl
  try simp only [Act.put, List.setIfInBounds_toArray, List.set_cons_zero, List.set_cons_succ]
  refine wpAnyH_take (i := 4) (oi := ⟨some 9, _, _, _, _, _⟩) (v := ?v12) rfl (by kernel_rfl) (by kernel_rfl) (by kernel_rfl) (fun _ _ _ h => h) (Or.inl ⟨by kernel_rfl, ?h12⟩) hHeld ?_
  case h12 => intro w hSw; (try dsimp only at hSw); go_simp; try with_reducible rfl
  try simp only [Act.put, List.setIfInBounds_toArray, List.set_cons_zero, List.set_cons_succ]
  refine wpAnyH_ready (rs := [3, 5]) (by kernel_rfl) (by simp) ?_
  refine AllReadyH.cons (o := ⟨some 8, _, _, _, _, _⟩) rfl (fun K hK => ?_) ?_
  ·
    rw [if_pos (by kernel_rfl)]
    go_simp
    refine (cloneU ((HT.out.same hs0).same (Sep.drew _ W)) (by omega)).mono ?_
    rintro e w8 ⟨v8, rfl, own8, hs8⟩
    have hc8 : Same W w8 := Sep.trans (Sep.drew _ W) hs8
    refine hK.out _ _ ?_ (fun hHeld => ?_)
    · exact ⟨hc8.cell cl, hc8.cell ct, hc8.sep _⟩
    clear hK K
    try simp only [Act.put, List.setIfInBounds_toArray, List.set_cons_zero, List.set_cons_succ]
    refine wpAnyH_ready (rs := [5]) (by kernel_rfl) (by simp) ?_
    refine AllReadyH.cons (o := ⟨some 10, _, _, _, _, _⟩) rfl (fun K hK => ?_) AllReadyH.nil
    rw [if_pos (by kernel_rfl)]
    go_simp
    have hc10 : Same W (w8.alloc (.cells #[.int .u64 x] 23)) := Sep.trans hc8 (Sep.alloc _ w8 _)
    refine hK.out _ _ ?_ (fun hHeld => ?_)
    · exact ⟨hc10.cell cl, hc10.cell ct, hc10.sep _⟩
    clear hK K
    try simp only [Act.put, List.setIfInBounds_toArray, List.set_cons_zero, List.set_cons_succ]
    refine wpAnyH_ready (rs := [6]) (by kernel_rfl) (by simp) ?_
    refine AllReadyH.cons (o := ⟨some 11, _, _, _, _, _⟩) rfl (fun K hK => ?_) AllReadyH.nil
    rw [if_pos (by kernel_rfl)]
    refine wp_append_lies _ (.tmp 8) (.tmp 10) 22 rfl _ 23 i0 (.int .u64 0) 1 8 Try.underlying22 hi0 hz0 hz1 hz2 rfl (by omega) v8 told.length (wds told) rfl (own8.alloc _) ⟨w8.heap.size, 0, none⟩ 1 1 [.int .u64 x] rfl rfl (World.news_of_block (heap_alloc_new w8 _)) (by simp [Value.oneCell']) (by omega) (by unfold maxLen; omega) (by omega) (by have := hs8.size; simp at this ⊢; omega) _ rfl ?_
    intro g cp wA ownA growA hatA hltA
    have hcA : Same W wA := grow_same hc10 growA (fun q hq => Nat.le_trans (by simp) (own8.lt q hq).1)
    have htA : SlcU (fun q => F q ∧ q ≠ w.heap.size) wA (.slice (some ⟨g, 0, none⟩) (told.length + 1) cp) (told ++ [x]) := one_told (fun q hq => by have hq2 : W.heap.size ≤ q := Nat.le_trans (by simp) hq; rw [HSZ.out] at hq2; exact ⟨hF q (by omega), by omega⟩) ownA
    refine hK.out _ _ ?_ (fun hHeld => ?_)
    · exact ⟨hcA.cell cl, hcA.cell ct, hcA.sep _⟩
    clear hK K
    try simp only [Act.put, List.setIfInBounds_toArray, List.set_cons_zero, List.set_cons_succ]
    refine wpAnyH_ready (rs := [7]) (by kernel_rfl) (by simp) ?_
    refine AllReadyH.cons (o := ⟨some 12, _, _, _, _, _⟩) rfl (fun K hK => ?_) AllReadyH.nil
    rw [if_pos (by kernel_rfl)]
    go_simp
    refine (list_any (F := fun q => F q ∧ q ≠ w.heap.size) ((HL.out.same hs0).same hcA) htA (fun q hq => by have := hcA.size; rw [HSZ.out] at this; exact ⟨hF q (by omega), by omega⟩)).mono ?_
    rintro e wL ⟨v12, rfl, hlp, hsL⟩
    obtain ⟨lb', tb', lv', tv', rfl, _⟩ := id hlp
    have hcL : Same W wL := hcA.trans hsL
    refine hK.out _ _ ?_ (fun hHeld => ?_)
    · exact ⟨hcL.cell cl, hcL.cell ct, hcL.sep _⟩
    clear hK K
    try simp only [Act.put, List.setIfInBounds_toArray, List.set_cons_zero, List.set_cons_succ]
    refine wpAnyH_ready (rs := [8]) (by kernel_rfl) (by simp) ?_
    refine AllReadyH.cons (o := ⟨none, _, _, _, _, _⟩) rfl (fun K hK => ?_) AllReadyH.nil
    obtain ⟨c0, c1, c2, c3, c4, c5, c6, cf⟩ := cells7 (hcL.obj HBW.out)
    rw [if_pos (by kernel_rfl)]
    go_simp
    have h7 := sep7 wL w.heap.size (.bool false) (.slice none 0 0) (.int .i64 A'.op) (.int .i64 A'.at_) (.int .u64 A'.x) (.int .u64 A'.y) (.func (.func 93) #[] #[.pointer (some ⟨lb', 0, none⟩), .pointer (some ⟨tb', 0, none⟩)])
    refine hK.out _ _ ?_ (fun hHeld => ?_)
    · exact ⟨h7.cell (hcL.cell cl) n1, h7.cell (hcL.cell ct) n2, (hcL.sep _).trans h7⟩
    clear hK K
    try simp only [Act.put, List.setIfInBounds_toArray, List.set_cons_zero, List.set_cons_succ]
    refine wpAnyH_done (by kernel_rfl) ?_ _
    go_wp2
    refine bodyPost_ret (v := .agg #[.bool false, .slice none 0 0, .int .i64 A'.op, .int .i64 A'.at_, .int .u64 A'.x, .int .u64 A'.y, .func (.func 93) #[] #[.pointer (some ⟨lb', 0, none⟩), .pointer (some ⟨tb', 0, none⟩)]]) (by simp [results, Try.results93, go_sem, c0, c1, c2, c3, c4, c5, c6]) rfl ?_
    exact ⟨_, rfl, (hlp.stay h7 (fun q hq _ => hq.2)).imp (fun q hq => hq.1), same_then (hs0.trans hcL) (Nat.le_refl _) h7⟩
  refine AllReadyH.cons (o := ⟨some 10, _, _, _, _, _⟩) rfl (fun K hK => ?_) AllReadyH.nil
  ·
    rw [if_pos (by kernel_rfl)]
    go_simp
    have hc10 : Same W (W.alloc (.cells #[.int .u64 x] 23)).drew := Sep.trans (Sep.alloc _ W _) (Sep.drew _ _)
    refine hK.out _ _ ?_ (fun hHeld => ?_)
    · exact ⟨hc10.cell cl, hc10.cell ct, hc10.sep _⟩
    clear hK K
    try simp only [Act.put, List.setIfInBounds_toArray, List.set_cons_zero, List.set_cons_succ]
    refine wpAnyH_ready (rs := [3]) (by kernel_rfl) (by simp) ?_
    refine AllReadyH.cons (o := ⟨some 8, _, _, _, _, _⟩) rfl (fun K hK => ?_) AllReadyH.nil
    rw [if_pos (by kernel_rfl)]
    go_simp
    refine (cloneU ((HT.out.same hs0).same (hc10)) (by omega)).mono ?_
    rintro e w8 ⟨v8, rfl, own8, hs8⟩
    have hc8 : Same W w8 := Sep.trans (hc10) hs8
    refine hK.out _ _ ?_ (fun hHeld => ?_)
    · exact ⟨hc8.cell cl, hc8.cell ct, hc8.sep _⟩
    clear hK K
    try simp only [Act.put, List.setIfInBounds_toArray, List.set_cons_zero, List.set_cons_succ]
    refine wpAnyH_ready (rs := [6]) (by kernel_rfl) (by simp) ?_
    refine AllReadyH.cons (o := ⟨some 11, _, _, _, _, _⟩) rfl (fun K hK => ?_) AllReadyH.nil
    rw [if_pos (by kernel_rfl)]
    refine wp_append_lies _ (.tmp 8) (.tmp 10) 22 rfl _ 23 i0 (.int .u64 0) 1 8 Try.underlying22 hi0 hz0 hz1 hz2 rfl (by omega) v8 told.length (wds told) rfl own8 ⟨W.heap.size, 0, none⟩ 1 1 [.int .u64 x] rfl rfl (World.news_of_block (hs8.obj (heap_alloc_new W _))) (by simp [Value.oneCell']) (by omega) (by unfold maxLen; omega) (by omega) (by have := hs8.size; simpa using this) _ rfl ?_
    intro g cp wA ownA growA hatA hltA
    have hcA : Same W wA := grow_same hc8 growA (fun q hq => Nat.le_trans (by simp) (own8.lt q hq).1)
    have htA : SlcU (fun q => F q ∧ q ≠ w.heap.size) wA (.slice (some ⟨g, 0, none⟩) (told.length + 1) cp) (told ++ [x]) := one_told (fun q hq => by have hq2 : W.heap.size ≤ q := Nat.le_trans (by simp) hq; rw [HSZ.out] at hq2; exact ⟨hF q (by omega), by omega⟩) ownA
    refine hK.out _ _ ?_ (fun hHeld => ?_)
    · exact ⟨hcA.cell cl, hcA.cell ct, hcA.sep _⟩
    clear hK K
    try simp only [Act.put, List.setIfInBounds_toArray, List.set_cons_zero, List.set_cons_succ]
    refine wpAnyH_ready (rs := [7]) (by kernel_rfl) (by simp) ?_
    refine AllReadyH.cons (o := ⟨some 12, _, _, _, _, _⟩) rfl (fun K hK => ?_) AllReadyH.nil
    rw [if_pos (by kernel_rfl)]
    go_simp
    refine (list_any (F := fun q => F q ∧ q ≠ w.heap.size) ((HL.out.same hs0).same hcA) htA (fun q hq => by have := hcA.size; rw [HSZ.out] at this; exact ⟨hF q (by omega), by omega⟩)).mono ?_
    rintro e wL ⟨v12, rfl, hlp, hsL⟩
    obtain ⟨lb', tb', lv', tv', rfl, _⟩ := id hlp
    have hcL : Same W wL := hcA.trans hsL
    refine hK.out _ _ ?_ (fun hHeld => ?_)
    · exact ⟨hcL.cell cl, hcL.cell ct, hcL.sep _⟩
    clear hK K
    try simp only [Act.put, List.setIfInBounds_toArray, List.set_cons_zero, List.set_cons_succ]
    refine wpAnyH_ready (rs := [8]) (by kernel_rfl) (by simp) ?_
    refine AllReadyH.cons (o := ⟨none, _, _, _, _, _⟩) rfl (fun K hK => ?_) AllReadyH.nil
    obtain ⟨c0, c1, c2, c3, c4, c5, c6, cf⟩ := cells7 (hcL.obj HBW.out)
    rw [if_pos (by kernel_rfl)]
    go_simp
    have h7 := sep7 wL w.heap.size (.bool false) (.slice none 0 0) (.int .i64 A'.op) (.int .i64 A'.at_) (.int .u64 A'.x) (.int .u64 A'.y) (.func (.func 93) #[] #[.pointer (some ⟨lb', 0, none⟩), .pointer (some ⟨tb', 0, none⟩)])
    refine hK.out _ _ ?_ (fun hHeld => ?_)
    · exact ⟨h7.cell (hcL.cell cl) n1, h7.cell (hcL.cell ct) n2, (hcL.sep _).trans h7⟩
    clear hK K
    try simp only [Act.put, List.setIfInBounds_toArray, List.set_cons_zero, List.set_cons_succ]
    refine wpAnyH_done (by kernel_rfl) ?_ _
    go_wp2
    refine bodyPost_ret (v := .agg #[.bool false, .slice none 0 0, .int .i64 A'.op, .int .i64 A'.at_, .int .u64 A'.x, .int .u64 A'.y, .func (.func 93) #[] #[.pointer (some ⟨lb', 0, none⟩), .pointer (some ⟨tb', 0, none⟩)]]) (by simp [results, Try.results93, go_sem, c0, c1, c2, c3, c4, c5, c6]) rfl ?_
    exact ⟨_, rfl, (hlp.stay h7 (fun q hq _ => hq.2)).imp (fun q hq => hq.1), same_then (hs0.trans hcL) (Nat.le_refl _) h7⟩
end Go.Proofs.Ytiljledgoflogaa
