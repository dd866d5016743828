/- Done, Do, Step, Run at programs of no result, of a bool, of a word: their contracts over trees. -/
import Derived.Test.YtiljledgoflogaaT
import Derived.Deep.CutBlock
import Derived.Laws.EntriesVeiled
namespace Go.Proofs.Ytiljledgoflogaa
open Go.RowKit
set_option linter.unusedSimpArgs false
set_option linter.unusedVariables false

def layN : Lay Unit where
  zero := []
  rep := fun _ _ rc _ => rc = []
  len := by rintro w F rc r rfl; rfl
  plain := by rintro w F rc r rfl u hu; cases hu
  keep := fun _ _ _ _ _ h _ => h
  imp := fun _ _ _ _ _ h _ => h
  plainZ := by intro u hu; cases hu
  val := fun _ => .agg #[]
def layB : Lay Bool where
  zero := [.bool false]
  rep := fun _ _ rc r => rc = [.bool r]
  len := by rintro w F rc r rfl; rfl
  plain := by rintro w F rc r rfl u hu; simp at hu; subst hu; exact plain_of rfl
  keep := fun _ _ _ _ _ h _ => h
  imp := fun _ _ _ _ _ h _ => h
  plainZ := by intro u hu; simp at hu; subst hu; exact plain_of rfl
  val := fun rc => rc.headD undef
def layU : Lay Int where
  zero := [.int .u64 0]
  rep := fun _ _ rc r => rc = [.int .u64 r] ∧ isU r
  len := by rintro w F rc r ⟨rfl, _⟩; rfl
  plain := by rintro w F rc r ⟨rfl, _⟩ u hu; simp at hu; subst hu; exact plain_of rfl
  keep := fun _ _ _ _ _ h _ => h
  imp := fun _ _ _ _ _ h _ => h
  plainZ := by intro u hu; simp at hu; subst hu; exact plain_of rfl
  val := fun rc => rc.headD undef
theorem SlcU.keep {F : Nat → Prop} {w w' : World} {v : Value} {l : List Int} (h : SlcU F w v l) (hk : Keeps F w w') : SlcU F w' v l := by
  obtain ⟨hl, h⟩ := h
  refine ⟨hl, ?_⟩
  rcases h with h | ⟨b, off, cap, rfl, hB, hlt, hlc, hm, hc⟩
  · exact .inl h
  · exact .inr ⟨b, off, cap, rfl, hB, Nat.lt_of_lt_of_le hlt hk.1, hlc, hm, fun j u hj => (World.cell?_of_block (w := w) (hk.2 b hlt hB)).trans (hc j u hj)⟩
def layS : Lay (List Int) where
  zero := [.slice none 0 0]
  rep := fun w F rc r => ∃ v, rc = [v] ∧ SlcU F w v r
  len := by rintro w F rc r ⟨v, rfl, _⟩; rfl
  plain := by
    rintro w F rc r ⟨v, rfl, h⟩ u hu
    obtain ⟨a, c, rfl⟩ := h.form
    simp at hu; subst hu; exact plain_of rfl
  keep := by rintro w w' F rc r ⟨v, rfl, h⟩ hk; exact ⟨v, rfl, h.keep hk⟩
  imp := by rintro w F G rc r ⟨v, rfl, h⟩ hg; exact ⟨v, rfl, Slc.imp h fun b hf hb => hg b hb hf⟩
  plainZ := by intro u hu; simp at hu; subst hu; exact plain_of rfl
  val := fun rc => rc.headD undef

/-- The words of all regions are words. -/
def Words (L : List Reg) : Prop := ∀ i j, isU (peekOf L i j)

theorem cells6 {w : World} {b : Nat} {x0 x1 x2 x3 x4 x5 : Value} {T : TypeId} (h : w.heap[b]? = some (.cells #[x0, x1, x2, x3, x4, x5] T)) :
    w.cell? ⟨b, 0, none⟩ = some x0 ∧ w.cell? ⟨b, 1, none⟩ = some x1 ∧ w.cell? ⟨b, 2, none⟩ = some x2 ∧ w.cell? ⟨b, 3, none⟩ = some x3 ∧ w.cell? ⟨b, 4, none⟩ = some x4 ∧ w.cell? ⟨b, 5, none⟩ = some x5 ∧
    (∀ j, w.frozen? ⟨b, j, none⟩ = false) := by
  refine ⟨?_, ?_, ?_, ?_, ?_, ?_, fun j => free_of_heap h⟩ <;> (rw [cell_of_heap h]; rfl)
theorem sep6 (w : World) (b : Nat) (x0 x1 x2 x3 x4 x5 : Value) : Sep (fun k => k = b) w ((((((w.setCell ⟨b, 0, none⟩ x0).setCell ⟨b, 1, none⟩ x1).setCell ⟨b, 2, none⟩ x2).setCell ⟨b, 3, none⟩ x3).setCell ⟨b, 4, none⟩ x4).setCell ⟨b, 5, none⟩ x5) :=
  ((((((Sep.refl (fun k => k = b) w).thenSet (.inl rfl) _).thenSet (.inl rfl) _).thenSet (.inl rfl) _).thenSet (.inl rfl) _).thenSet (.inl rfl) _).thenSet (.inl rfl) _
theorem heap6 {w : World} {b : Nat} {x0 x1 x2 x3 x4 x5 : Value} {c : Array Value} {T : TypeId} (h : w.heap[b]? = some (.cells c T)) (hc : c.size = 6) :
    ((((((w.setCell ⟨b, 0, none⟩ x0).setCell ⟨b, 1, none⟩ x1).setCell ⟨b, 2, none⟩ x2).setCell ⟨b, 3, none⟩ x3).setCell ⟨b, 4, none⟩ x4).setCell ⟨b, 5, none⟩ x5).heap[b]? = some (.cells #[x0, x1, x2, x3, x4, x5] T) := by
  rw [heap_set_same (heap_set_same (heap_set_same (heap_set_same (heap_set_same (heap_set_same h)))))]
  obtain ⟨l⟩ := c
  match l, hc with
  | [_, _, _, _, _, _], _ => rfl
/-- The blocks that a call may write: its own, and those of the memory. -/
abbrev Near (F : Nat → Prop) (w : World) (lo hi : Nat) : Nat → Prop := fun b => Part F w b ∨ (lo ≤ b ∧ b < hi)
theorem three_t (w : World) (T : TypeId) (p c z : Array Value) : ∃ W, W = ((w.alloc (.cells p T)).alloc (.cells c 33)).alloc (.cells z T) ∧
    Same w W ∧ W.heap.size = w.heap.size + 3 ∧ W.heap[w.heap.size]? = some (.cells p T) ∧ W.heap[w.heap.size + 1]? = some (.cells c 33) ∧ W.heap[w.heap.size + 2]? = some (.cells z T) := by
  refine ⟨_, rfl, ((Sep.alloc _ _ _).thenAlloc _).thenAlloc _, by simp, ?_, ?_, ?_⟩
  · rw [Below.heap_alloc _ _ _ (by simp; omega), Below.heap_alloc _ _ _ (by simp)]; exact heap_alloc_new _ _
  · rw [Below.heap_alloc _ _ _ (by simp)]
    have e : (w.alloc (.cells p T)).heap.size = w.heap.size + 1 := by simp
    rw [← e]; exact heap_alloc_new _ _
  · have e : ((w.alloc (.cells p T)).alloc (.cells c 33)).heap.size = w.heap.size + 2 := by simp
    rw [← e]; exact heap_alloc_new _ _
theorem sep_then {S : Nat → Prop} {w w1 w2 : World} {b : Nat} (h : Sep S w w1) (hb : w.heap.size ≤ b) (h2 : Sep (fun k => k = b) w1 w2) : Sep S w w2 :=
  ⟨h2.os.trans h.os, h2.tape.trans h.tape, h2.output.trans h.output, Nat.le_trans h.size h2.size, fun k hk hn => (h2.block k (Nat.lt_of_lt_of_le hk h.size) (fun e => by omega)).trans (h.block k hk hn)⟩


/-! ### at N -/
theorem formN {v : Value} (h : Form layN v) : ∃ (o : Bool) (A : Acc) (nx : Value), v = .agg #[.bool o, .int .i64 A.op, .int .i64 A.at_, .int .u64 A.x, .int .u64 A.y, nx] ∧ Plain nx := by
  obtain ⟨o, rc, A, nx, rfl, hl, hp, hn⟩ := h
  match rc, hl with
  | [], _ => exact ⟨o, A, nx, rfl, hn⟩

theorem doN {p : Int → PT _} {w : World} {F : Nat → Prop} {A : Acc} {K : Nat} {caps : Array Value} (hK : Enters K) (hf : ∀ w', Keeps F w w' → ∀ z, isU z → Calls Try.prog K (#[.int .u64 z] ++ caps) w' (Gives layN (p z) F w w')) :
    Calls Try.prog 87 #[.agg #[.int .i64 A.op, .int .i64 A.at_, .int .u64 A.x, .int .u64 A.y], .func (.func K) #[] caps] w fun e w' => ∃ v, e = .returned v ∧ Is layN (.step A p) w' (Part F w) v ∧ Same w w' := by
  have key : ∀ v w', v = Value.agg #[.bool false, .int .i64 A.op, .int .i64 A.at_, .int .u64 A.x, .int .u64 A.y, .func (.func K) #[] caps] → Same w w' → ∃ v', Ending.returned v = .returned v' ∧ Is layN (.step A p) w' (Part F w) v' ∧ Same w w' := by
    rintro v w' rfl hs
    exact ⟨_, rfl, Is.keep (w := w) (F := F) ⟨K, caps, rfl, hK, hf⟩ (Same.keeps hs), hs⟩
  have KEY := Lib.hid key
  clear hf key
  go_enter Try.func87, Try.ntmps87
  go_wp2
  refine bodyPost_ret (v := .agg #[.bool false, .int .i64 A.op, .int .i64 A.at_, .int .u64 A.x, .int .u64 A.y, .func (.func K) #[] caps]) (by simp [results, Try.results87, go_sem]) rfl (KEY.out _ _ rfl ((Sep.alloc _ _ _).thenAlloc _))

set_option maxRecDepth 100000 in
theorem stepON (p ci ce : Value) (hp : ∃ b, p = .pointer b) (w : World) : Calls Try.prog 65 #[.agg #[.bool true, .int .i64 0, .int .i64 0, .int .u64 0, .int .u64 0, .nilFunc], p, .agg #[ci, ce]] w fun e w' =>
    e = .returned (.tuple #[.agg #[.bool true, .int .i64 0, .int .i64 0, .int .u64 0, .int .u64 0, .nilFunc], .bool false]) ∧ Same w w' := by
  obtain ⟨b, rfl⟩ := hp
  go_enter Try.func65, Try.ntmps65
  go_wp2
  exact bodyPost_ret (v := .tuple #[.agg #[.bool true, .int .i64 0, .int .i64 0, .int .u64 0, .int .u64 0, .nilFunc], .bool false]) (by simp [results, Try.results65, go_sem]) rfl ⟨rfl, ((Sep.alloc _ _ _).thenAlloc _).thenAlloc _⟩

section
variable {lo hi p cnt : Nat} {w : World} {L : List Reg} {F : Nat → Prop}

set_option maxRecDepth 100000 in
theorem stepNN {v : Value} {A : Acc} {k : Int → PT _} (hm : Mem lo hi w p L cnt) (hv : Is layN (.step A k) w F v) (ci ce : Int) (hno : okB L ci ce A.op A.at_ = false) :
    Calls Try.prog 65 #[v, .pointer (some ⟨p, 0, none⟩), .agg #[.int .i64 ci, .int .u64 ce]] w fun e w' => e = .returned (.tuple #[v, .bool false]) ∧ Same w w' := by
  obtain ⟨K, caps, rfl, _, _⟩ := hv
  show Calls Try.prog 65 #[.agg #[.bool false, .int .i64 A.op, .int .i64 A.at_, .int .u64 A.x, .int .u64 A.y, .func (.func K) #[] caps], _, _] w fun e w' => e = .returned (.tuple #[.agg #[.bool false, .int .i64 A.op, .int .i64 A.at_, .int .u64 A.x, .int .u64 A.y, .func (.func K) #[] caps], _]) ∧ Same w w'
  obtain ⟨W, hW, hs0, hsz, h0, h1, h2⟩ := three_t w 68 #[.bool false, .int .i64 A.op, .int .i64 A.at_, .int .u64 A.x, .int .u64 A.y, .func (.func K) #[] caps] #[.int .i64 ci, .int .u64 ce] #[.bool false, .int .i64 0, .int .i64 0, .int .u64 0, .int .u64 0, .nilFunc]
  have HW := Lib.hid hW
  have H0 := Lib.hid h0
  have H2 := Lib.hid h2
  have hmW := hm.same hs0
  clear hW hsz h0 h1 h2 hm
  go_enter Try.func65, Try.ntmps65
  go_wp2_with fail
  rw [← HW.out]
  refine (do_no hmW ci ce A.op A.at_ A.x A.y hno).mono ?_
  rintro e w1 ⟨rfl, hs1⟩
  obtain ⟨d0, d1, d2, d3, d4, d5, df⟩ := cells6 (hs1.obj H0.out)
  obtain ⟨c0, c1, c2, c3, c4, c5, cf⟩ := cells6 (hs1.obj H2.out)
  have h01 := hs0.trans hs1
  clear hs0 hs1 hmW
  go_wp2
  refine bodyPost_ret (v := .tuple #[.agg #[.bool false, .int .i64 A.op, .int .i64 A.at_, .int .u64 A.x, .int .u64 A.y, .func (.func K) #[] caps], .bool false]) (by simp [results, Try.results65, go_sem, c0, c1, c2, c3, c4, c5]) rfl ?_
  have h7 := sep6 w1 (w.heap.size + 2) (.bool false) (.int .i64 A.op) (.int .i64 A.at_) (.int .u64 A.x) (.int .u64 A.y) (.func (.func K) #[] caps)
  exact ⟨rfl, same_then h01 (Nat.le_add_right _ 2) h7⟩

/-- A step that is done. -/
def SteppedN (lo hi p cnt : Nat) (F : Nat → Prop) (L' : List Reg) (w : World) (q : PT Unit) (e : Ending) (w' : World) : Prop :=
  ∃ v', e = .returned (.tuple #[v', .bool true]) ∧ Is layN q w' (Grown F w w) v' ∧ Mem lo hi w' p L' (cnt + 1) ∧ Sep (Near F w lo hi) w w'

set_option maxRecDepth 100000 in
theorem stepYN {v : Value} {A : Acc} {k : Int → PT _} (hm : Mem lo hi w p L cnt) (hv : Is layN (.step A k) w F v) (ci ce : Int) (hok : okB L ci ce A.op A.at_ = true) (hc : cnt < 1000000000) (hu : isU (peekOf L ci A.at_))
    (hFd : ∀ b, b < w.heap.size → F b → ¬ (lo ≤ b ∧ b < hi)) :
    Calls Try.prog 65 #[v, .pointer (some ⟨p, 0, none⟩), .agg #[.int .i64 ci, .int .u64 ce]] w (SteppedN lo hi p cnt F (doL L ci.toNat A.at_.toNat A.op A.x A.y) w (k (peekOf L ci A.at_))) := by
  obtain ⟨K, caps, rfl, hK, hk⟩ := hv
  show Calls Try.prog 65 #[.agg #[.bool false, .int .i64 A.op, .int .i64 A.at_, .int .u64 A.x, .int .u64 A.y, .func (.func K) #[] caps], _, _] w _
  obtain ⟨W, hW, hs0, hsz, h0, h1, h2⟩ := three_t w 68 #[.bool false, .int .i64 A.op, .int .i64 A.at_, .int .u64 A.x, .int .u64 A.y, .func (.func K) #[] caps] #[.int .i64 ci, .int .u64 ce] #[.bool false, .int .i64 0, .int .i64 0, .int .u64 0, .int .u64 0, .nilFunc]
  have hle := hm.le
  have HW := Lib.hid hW
  have H0 := Lib.hid h0
  have H2 := Lib.hid h2
  have HSZ := Lib.hid hsz
  have hmW := hm.same hs0
  have HK := Lib.hid hk
  unfold Enters at hK
  clear hW hsz h0 h1 h2 hm hk
  go_enter Try.func65, Try.ntmps65
  go_wp2_with fail
  rw [← HW.out]
  refine (do_yes hmW ci ce A.op A.at_ A.x A.y hc hok).mono ?_
  rintro e w1 ⟨rfl, hm1, hs1⟩
  obtain ⟨was, hwas⟩ : ∃ was, was = peekOf L ci A.at_ := ⟨_, rfl⟩
  rw [← hwas] at hu ⊢
  have hout : ¬ (lo ≤ w.heap.size ∧ w.heap.size < hi) := by omega
  have hout2 : ¬ (lo ≤ w.heap.size + 2 ∧ w.heap.size + 2 < hi) := by omega
  obtain ⟨d0, d1, d2, d3, d4, d5, df⟩ := cells6 (Sep.obj hs1 H0.out hout)
  have H2' := Lib.hid (Sep.obj hs1 H2.out hout2)
  have hge : W.heap.size ≤ w1.heap.size := hs1.size
  have i01 : In lo hi w w1 := (hs0.sep _).trans hs1
  have hkk : Keeps F w w1 := Sep.keeps i01 hFd
  have HWAS := Lib.hid hwas
  clear hwas hs0 hs1 hmW
  go_wp2_with fail
  refine (HK.out w1 hkk was hu).mono ?_
  rintro e w2 ⟨v2, rfl, hi2, hs2⟩
  have hs2' : Sep (Near F w lo hi) w1 w2 := hs2.mono fun b _ hb => .inl hb
  have i02 : Sep (Near F w lo hi) w w2 := (i01.mono fun b _ hb => .inr hb).trans hs2'
  have hsz1 : w.heap.size + 3 ≤ w1.heap.size := by have := HSZ.out; omega
  have hm2 := hm1.stay hs2 (fun b h1 h2 h3 => hFd b h3.2 h3.1 ⟨h1, h2⟩)
  obtain ⟨c0, c1, c2, c3, c4, c5, cf⟩ := cells6 (Sep.obj hs2 H2'.out (fun h => by have := h.2; omega))
  have HI := Lib.hid hi2
  have HM2 := Lib.hid hm2
  obtain ⟨o2, A2, nx2, rfl, pn⟩ := formN hi2.form
  unfold Plain at *
  clear hi2 hs2 hs2' hm2 hm1 i01 d0 d1 d2 d3 d4 d5 df hkk hu
  go_wp2
  refine bodyPost_ret (v := .tuple #[.agg #[.bool o2, .int .i64 A2.op, .int .i64 A2.at_, .int .u64 A2.x, .int .u64 A2.y, nx2], .bool true]) (by simp [results, Try.results65, go_sem, c0, c1, c2, c3, c4, c5]) rfl ?_
  have h7 := sep6 w2 (w.heap.size + 2) (.bool o2) (.int .i64 A2.op) (.int .i64 A2.at_) (.int .u64 A2.x) (.int .u64 A2.y) (nx2)
  rw [← HWAS.out]
  refine ⟨_, rfl, ?_, HM2.out.stay h7 (fun q h1 h2 h3 => by omega), sep_then i02 (Nat.le_add_right _ 2) h7⟩
  exact (HI.out.keep (Sep.keeps h7 (fun b _ hb e => by subst e; rcases hb with hb | hb; exact absurd hb.2 (by omega); omega))).imp fun b _ hb => hb.1.imp id (fun x => Nat.le_trans (by omega) x)
end


/-! ### at B -/
theorem formB {v : Value} (h : Form layB v) : ∃ (o : Bool) (r0 : Value) (A : Acc) (nx : Value), v = .agg #[.bool o, r0, .int .i64 A.op, .int .i64 A.at_, .int .u64 A.x, .int .u64 A.y, nx] ∧ Plain r0 ∧ Plain nx := by
  obtain ⟨o, rc, A, nx, rfl, hl, hp, hn⟩ := h
  match rc, hl with
  | [r0], _ => exact ⟨o, r0, A, nx, rfl, hp _ (by simp), hn⟩

theorem doB {p : Int → PT _} {w : World} {F : Nat → Prop} {A : Acc} {K : Nat} {caps : Array Value} (hK : Enters K) (hf : ∀ w', Keeps F w w' → ∀ z, isU z → Calls Try.prog K (#[.int .u64 z] ++ caps) w' (Gives layB (p z) F w w')) :
    Calls Try.prog 89 #[.agg #[.int .i64 A.op, .int .i64 A.at_, .int .u64 A.x, .int .u64 A.y], .func (.func K) #[] caps] w fun e w' => ∃ v, e = .returned v ∧ Is layB (.step A p) w' (Part F w) v ∧ Same w w' := by
  have key : ∀ v w', v = Value.agg #[.bool false, .bool false, .int .i64 A.op, .int .i64 A.at_, .int .u64 A.x, .int .u64 A.y, .func (.func K) #[] caps] → Same w w' → ∃ v', Ending.returned v = .returned v' ∧ Is layB (.step A p) w' (Part F w) v' ∧ Same w w' := by
    rintro v w' rfl hs
    exact ⟨_, rfl, Is.keep (w := w) (F := F) ⟨K, caps, rfl, hK, hf⟩ (Same.keeps hs), hs⟩
  have KEY := Lib.hid key
  clear hf key
  go_enter Try.func89, Try.ntmps89
  go_wp2
  refine bodyPost_ret (v := .agg #[.bool false, .bool false, .int .i64 A.op, .int .i64 A.at_, .int .u64 A.x, .int .u64 A.y, .func (.func K) #[] caps]) (by simp [results, Try.results89, go_sem]) rfl (KEY.out _ _ rfl ((Sep.alloc _ _ _).thenAlloc _))

set_option maxRecDepth 100000 in
theorem stepOB (r0 : Value) (pr0 : Plain r0) (p ci ce : Value) (hp : ∃ b, p = .pointer b) (w : World) : Calls Try.prog 69 #[.agg #[.bool true, r0, .int .i64 0, .int .i64 0, .int .u64 0, .int .u64 0, .nilFunc], p, .agg #[ci, ce]] w fun e w' =>
    e = .returned (.tuple #[.agg #[.bool true, r0, .int .i64 0, .int .i64 0, .int .u64 0, .int .u64 0, .nilFunc], .bool false]) ∧ Same w w' := by
  obtain ⟨b, rfl⟩ := hp
  unfold Plain at *
  go_enter Try.func69, Try.ntmps69
  go_wp2
  exact bodyPost_ret (v := .tuple #[.agg #[.bool true, r0, .int .i64 0, .int .i64 0, .int .u64 0, .int .u64 0, .nilFunc], .bool false]) (by simp [results, Try.results69, go_sem]) rfl ⟨rfl, ((Sep.alloc _ _ _).thenAlloc _).thenAlloc _⟩

section
variable {lo hi p cnt : Nat} {w : World} {L : List Reg} {F : Nat → Prop}

set_option maxRecDepth 100000 in
theorem stepNB {v : Value} {A : Acc} {k : Int → PT _} (hm : Mem lo hi w p L cnt) (hv : Is layB (.step A k) w F v) (ci ce : Int) (hno : okB L ci ce A.op A.at_ = false) :
    Calls Try.prog 69 #[v, .pointer (some ⟨p, 0, none⟩), .agg #[.int .i64 ci, .int .u64 ce]] w fun e w' => e = .returned (.tuple #[v, .bool false]) ∧ Same w w' := by
  obtain ⟨K, caps, rfl, _, _⟩ := hv
  show Calls Try.prog 69 #[.agg #[.bool false, .bool false, .int .i64 A.op, .int .i64 A.at_, .int .u64 A.x, .int .u64 A.y, .func (.func K) #[] caps], _, _] w fun e w' => e = .returned (.tuple #[.agg #[.bool false, .bool false, .int .i64 A.op, .int .i64 A.at_, .int .u64 A.x, .int .u64 A.y, .func (.func K) #[] caps], _]) ∧ Same w w'
  obtain ⟨W, hW, hs0, hsz, h0, h1, h2⟩ := three_t w 74 #[.bool false, .bool false, .int .i64 A.op, .int .i64 A.at_, .int .u64 A.x, .int .u64 A.y, .func (.func K) #[] caps] #[.int .i64 ci, .int .u64 ce] #[.bool false, .bool false, .int .i64 0, .int .i64 0, .int .u64 0, .int .u64 0, .nilFunc]
  have HW := Lib.hid hW
  have H0 := Lib.hid h0
  have H2 := Lib.hid h2
  have hmW := hm.same hs0
  clear hW hsz h0 h1 h2 hm
  go_enter Try.func69, Try.ntmps69
  go_wp2_with fail
  rw [← HW.out]
  refine (do_no hmW ci ce A.op A.at_ A.x A.y hno).mono ?_
  rintro e w1 ⟨rfl, hs1⟩
  obtain ⟨d0, d1, d2, d3, d4, d5, d6, df⟩ := cells7 (hs1.obj H0.out)
  obtain ⟨c0, c1, c2, c3, c4, c5, c6, cf⟩ := cells7 (hs1.obj H2.out)
  have h01 := hs0.trans hs1
  clear hs0 hs1 hmW
  go_wp2
  refine bodyPost_ret (v := .tuple #[.agg #[.bool false, .bool false, .int .i64 A.op, .int .i64 A.at_, .int .u64 A.x, .int .u64 A.y, .func (.func K) #[] caps], .bool false]) (by simp [results, Try.results69, go_sem, c0, c1, c2, c3, c4, c5, c6]) rfl ?_
  have h7 := sep7 w1 (w.heap.size + 2) (.bool false) (.bool false) (.int .i64 A.op) (.int .i64 A.at_) (.int .u64 A.x) (.int .u64 A.y) (.func (.func K) #[] caps)
  exact ⟨rfl, same_then h01 (Nat.le_add_right _ 2) h7⟩

/-- A step that is done. -/
def SteppedB (lo hi p cnt : Nat) (F : Nat → Prop) (L' : List Reg) (w : World) (q : PT Bool) (e : Ending) (w' : World) : Prop :=
  ∃ v', e = .returned (.tuple #[v', .bool true]) ∧ Is layB q w' (Grown F w w) v' ∧ Mem lo hi w' p L' (cnt + 1) ∧ Sep (Near F w lo hi) w w'

set_option maxRecDepth 100000 in
theorem stepYB {v : Value} {A : Acc} {k : Int → PT _} (hm : Mem lo hi w p L cnt) (hv : Is layB (.step A k) w F v) (ci ce : Int) (hok : okB L ci ce A.op A.at_ = true) (hc : cnt < 1000000000) (hu : isU (peekOf L ci A.at_))
    (hFd : ∀ b, b < w.heap.size → F b → ¬ (lo ≤ b ∧ b < hi)) :
    Calls Try.prog 69 #[v, .pointer (some ⟨p, 0, none⟩), .agg #[.int .i64 ci, .int .u64 ce]] w (SteppedB lo hi p cnt F (doL L ci.toNat A.at_.toNat A.op A.x A.y) w (k (peekOf L ci A.at_))) := by
  obtain ⟨K, caps, rfl, hK, hk⟩ := hv
  show Calls Try.prog 69 #[.agg #[.bool false, .bool false, .int .i64 A.op, .int .i64 A.at_, .int .u64 A.x, .int .u64 A.y, .func (.func K) #[] caps], _, _] w _
  obtain ⟨W, hW, hs0, hsz, h0, h1, h2⟩ := three_t w 74 #[.bool false, .bool false, .int .i64 A.op, .int .i64 A.at_, .int .u64 A.x, .int .u64 A.y, .func (.func K) #[] caps] #[.int .i64 ci, .int .u64 ce] #[.bool false, .bool false, .int .i64 0, .int .i64 0, .int .u64 0, .int .u64 0, .nilFunc]
  have hle := hm.le
  have HW := Lib.hid hW
  have H0 := Lib.hid h0
  have H2 := Lib.hid h2
  have HSZ := Lib.hid hsz
  have hmW := hm.same hs0
  have HK := Lib.hid hk
  unfold Enters at hK
  clear hW hsz h0 h1 h2 hm hk
  go_enter Try.func69, Try.ntmps69
  go_wp2_with fail
  rw [← HW.out]
  refine (do_yes hmW ci ce A.op A.at_ A.x A.y hc hok).mono ?_
  rintro e w1 ⟨rfl, hm1, hs1⟩
  obtain ⟨was, hwas⟩ : ∃ was, was = peekOf L ci A.at_ := ⟨_, rfl⟩
  rw [← hwas] at hu ⊢
  have hout : ¬ (lo ≤ w.heap.size ∧ w.heap.size < hi) := by omega
  have hout2 : ¬ (lo ≤ w.heap.size + 2 ∧ w.heap.size + 2 < hi) := by omega
  obtain ⟨d0, d1, d2, d3, d4, d5, d6, df⟩ := cells7 (Sep.obj hs1 H0.out hout)
  have H2' := Lib.hid (Sep.obj hs1 H2.out hout2)
  have hge : W.heap.size ≤ w1.heap.size := hs1.size
  have i01 : In lo hi w w1 := (hs0.sep _).trans hs1
  have hkk : Keeps F w w1 := Sep.keeps i01 hFd
  have HWAS := Lib.hid hwas
  clear hwas hs0 hs1 hmW
  go_wp2_with fail
  refine (HK.out w1 hkk was hu).mono ?_
  rintro e w2 ⟨v2, rfl, hi2, hs2⟩
  have hs2' : Sep (Near F w lo hi) w1 w2 := hs2.mono fun b _ hb => .inl hb
  have i02 : Sep (Near F w lo hi) w w2 := (i01.mono fun b _ hb => .inr hb).trans hs2'
  have hsz1 : w.heap.size + 3 ≤ w1.heap.size := by have := HSZ.out; omega
  have hm2 := hm1.stay hs2 (fun b h1 h2 h3 => hFd b h3.2 h3.1 ⟨h1, h2⟩)
  obtain ⟨c0, c1, c2, c3, c4, c5, c6, cf⟩ := cells7 (Sep.obj hs2 H2'.out (fun h => by have := h.2; omega))
  have HI := Lib.hid hi2
  have HM2 := Lib.hid hm2
  obtain ⟨o2, r0, A2, nx2, rfl, pr0, pn⟩ := formB hi2.form
  unfold Plain at *
  clear hi2 hs2 hs2' hm2 hm1 i01 d0 d1 d2 d3 d4 d5 d6 df hkk hu
  go_wp2
  refine bodyPost_ret (v := .tuple #[.agg #[.bool o2, r0, .int .i64 A2.op, .int .i64 A2.at_, .int .u64 A2.x, .int .u64 A2.y, nx2], .bool true]) (by simp [results, Try.results69, go_sem, c0, c1, c2, c3, c4, c5, c6]) rfl ?_
  have h7 := sep7 w2 (w.heap.size + 2) (.bool o2) (r0) (.int .i64 A2.op) (.int .i64 A2.at_) (.int .u64 A2.x) (.int .u64 A2.y) (nx2)
  rw [← HWAS.out]
  refine ⟨_, rfl, ?_, HM2.out.stay h7 (fun q h1 h2 h3 => by omega), sep_then i02 (Nat.le_add_right _ 2) h7⟩
  exact (HI.out.keep (Sep.keeps h7 (fun b _ hb e => by subst e; rcases hb with hb | hb; exact absurd hb.2 (by omega); omega))).imp fun b _ hb => hb.1.imp id (fun x => Nat.le_trans (by omega) x)
end


/-! ### at U -/
theorem formU {v : Value} (h : Form layU v) : ∃ (o : Bool) (r0 : Value) (A : Acc) (nx : Value), v = .agg #[.bool o, r0, .int .i64 A.op, .int .i64 A.at_, .int .u64 A.x, .int .u64 A.y, nx] ∧ Plain r0 ∧ Plain nx := by
  obtain ⟨o, rc, A, nx, rfl, hl, hp, hn⟩ := h
  match rc, hl with
  | [r0], _ => exact ⟨o, r0, A, nx, rfl, hp _ (by simp), hn⟩

theorem doU {p : Int → PT _} {w : World} {F : Nat → Prop} {A : Acc} {K : Nat} {caps : Array Value} (hK : Enters K) (hf : ∀ w', Keeps F w w' → ∀ z, isU z → Calls Try.prog K (#[.int .u64 z] ++ caps) w' (Gives layU (p z) F w w')) :
    Calls Try.prog 91 #[.agg #[.int .i64 A.op, .int .i64 A.at_, .int .u64 A.x, .int .u64 A.y], .func (.func K) #[] caps] w fun e w' => ∃ v, e = .returned v ∧ Is layU (.step A p) w' (Part F w) v ∧ Same w w' := by
  have key : ∀ v w', v = Value.agg #[.bool false, .int .u64 0, .int .i64 A.op, .int .i64 A.at_, .int .u64 A.x, .int .u64 A.y, .func (.func K) #[] caps] → Same w w' → ∃ v', Ending.returned v = .returned v' ∧ Is layU (.step A p) w' (Part F w) v' ∧ Same w w' := by
    rintro v w' rfl hs
    exact ⟨_, rfl, Is.keep (w := w) (F := F) ⟨K, caps, rfl, hK, hf⟩ (Same.keeps hs), hs⟩
  have KEY := Lib.hid key
  clear hf key
  go_enter Try.func91, Try.ntmps91
  go_wp2
  refine bodyPost_ret (v := .agg #[.bool false, .int .u64 0, .int .i64 A.op, .int .i64 A.at_, .int .u64 A.x, .int .u64 A.y, .func (.func K) #[] caps]) (by simp [results, Try.results91, go_sem]) rfl (KEY.out _ _ rfl ((Sep.alloc _ _ _).thenAlloc _))

set_option maxRecDepth 100000 in
theorem stepOU (r0 : Value) (pr0 : Plain r0) (p ci ce : Value) (hp : ∃ b, p = .pointer b) (w : World) : Calls Try.prog 72 #[.agg #[.bool true, r0, .int .i64 0, .int .i64 0, .int .u64 0, .int .u64 0, .nilFunc], p, .agg #[ci, ce]] w fun e w' =>
    e = .returned (.tuple #[.agg #[.bool true, r0, .int .i64 0, .int .i64 0, .int .u64 0, .int .u64 0, .nilFunc], .bool false]) ∧ Same w w' := by
  obtain ⟨b, rfl⟩ := hp
  unfold Plain at *
  go_enter Try.func72, Try.ntmps72
  go_wp2
  exact bodyPost_ret (v := .tuple #[.agg #[.bool true, r0, .int .i64 0, .int .i64 0, .int .u64 0, .int .u64 0, .nilFunc], .bool false]) (by simp [results, Try.results72, go_sem]) rfl ⟨rfl, ((Sep.alloc _ _ _).thenAlloc _).thenAlloc _⟩

section
variable {lo hi p cnt : Nat} {w : World} {L : List Reg} {F : Nat → Prop}

set_option maxRecDepth 100000 in
theorem stepNU {v : Value} {A : Acc} {k : Int → PT _} (hm : Mem lo hi w p L cnt) (hv : Is layU (.step A k) w F v) (ci ce : Int) (hno : okB L ci ce A.op A.at_ = false) :
    Calls Try.prog 72 #[v, .pointer (some ⟨p, 0, none⟩), .agg #[.int .i64 ci, .int .u64 ce]] w fun e w' => e = .returned (.tuple #[v, .bool false]) ∧ Same w w' := by
  obtain ⟨K, caps, rfl, _, _⟩ := hv
  show Calls Try.prog 72 #[.agg #[.bool false, .int .u64 0, .int .i64 A.op, .int .i64 A.at_, .int .u64 A.x, .int .u64 A.y, .func (.func K) #[] caps], _, _] w fun e w' => e = .returned (.tuple #[.agg #[.bool false, .int .u64 0, .int .i64 A.op, .int .i64 A.at_, .int .u64 A.x, .int .u64 A.y, .func (.func K) #[] caps], _]) ∧ Same w w'
  obtain ⟨W, hW, hs0, hsz, h0, h1, h2⟩ := three_t w 80 #[.bool false, .int .u64 0, .int .i64 A.op, .int .i64 A.at_, .int .u64 A.x, .int .u64 A.y, .func (.func K) #[] caps] #[.int .i64 ci, .int .u64 ce] #[.bool false, .int .u64 0, .int .i64 0, .int .i64 0, .int .u64 0, .int .u64 0, .nilFunc]
  have HW := Lib.hid hW
  have H0 := Lib.hid h0
  have H2 := Lib.hid h2
  have hmW := hm.same hs0
  clear hW hsz h0 h1 h2 hm
  go_enter Try.func72, Try.ntmps72
  go_wp2_with fail
  rw [← HW.out]
  refine (do_no hmW ci ce A.op A.at_ A.x A.y hno).mono ?_
  rintro e w1 ⟨rfl, hs1⟩
  obtain ⟨d0, d1, d2, d3, d4, d5, d6, df⟩ := cells7 (hs1.obj H0.out)
  obtain ⟨c0, c1, c2, c3, c4, c5, c6, cf⟩ := cells7 (hs1.obj H2.out)
  have h01 := hs0.trans hs1
  clear hs0 hs1 hmW
  go_wp2
  refine bodyPost_ret (v := .tuple #[.agg #[.bool false, .int .u64 0, .int .i64 A.op, .int .i64 A.at_, .int .u64 A.x, .int .u64 A.y, .func (.func K) #[] caps], .bool false]) (by simp [results, Try.results72, go_sem, c0, c1, c2, c3, c4, c5, c6]) rfl ?_
  have h7 := sep7 w1 (w.heap.size + 2) (.bool false) (.int .u64 0) (.int .i64 A.op) (.int .i64 A.at_) (.int .u64 A.x) (.int .u64 A.y) (.func (.func K) #[] caps)
  exact ⟨rfl, same_then h01 (Nat.le_add_right _ 2) h7⟩

/-- A step that is done. -/
def SteppedU (lo hi p cnt : Nat) (F : Nat → Prop) (L' : List Reg) (w : World) (q : PT Int) (e : Ending) (w' : World) : Prop :=
  ∃ v', e = .returned (.tuple #[v', .bool true]) ∧ Is layU q w' (Grown F w w) v' ∧ Mem lo hi w' p L' (cnt + 1) ∧ Sep (Near F w lo hi) w w'

set_option maxRecDepth 100000 in
theorem stepYU {v : Value} {A : Acc} {k : Int → PT _} (hm : Mem lo hi w p L cnt) (hv : Is layU (.step A k) w F v) (ci ce : Int) (hok : okB L ci ce A.op A.at_ = true) (hc : cnt < 1000000000) (hu : isU (peekOf L ci A.at_))
    (hFd : ∀ b, b < w.heap.size → F b → ¬ (lo ≤ b ∧ b < hi)) :
    Calls Try.prog 72 #[v, .pointer (some ⟨p, 0, none⟩), .agg #[.int .i64 ci, .int .u64 ce]] w (SteppedU lo hi p cnt F (doL L ci.toNat A.at_.toNat A.op A.x A.y) w (k (peekOf L ci A.at_))) := by
  obtain ⟨K, caps, rfl, hK, hk⟩ := hv
  show Calls Try.prog 72 #[.agg #[.bool false, .int .u64 0, .int .i64 A.op, .int .i64 A.at_, .int .u64 A.x, .int .u64 A.y, .func (.func K) #[] caps], _, _] w _
  obtain ⟨W, hW, hs0, hsz, h0, h1, h2⟩ := three_t w 80 #[.bool false, .int .u64 0, .int .i64 A.op, .int .i64 A.at_, .int .u64 A.x, .int .u64 A.y, .func (.func K) #[] caps] #[.int .i64 ci, .int .u64 ce] #[.bool false, .int .u64 0, .int .i64 0, .int .i64 0, .int .u64 0, .int .u64 0, .nilFunc]
  have hle := hm.le
  have HW := Lib.hid hW
  have H0 := Lib.hid h0
  have H2 := Lib.hid h2
  have HSZ := Lib.hid hsz
  have hmW := hm.same hs0
  have HK := Lib.hid hk
  unfold Enters at hK
  clear hW hsz h0 h1 h2 hm hk
  go_enter Try.func72, Try.ntmps72
  go_wp2_with fail
  rw [← HW.out]
  refine (do_yes hmW ci ce A.op A.at_ A.x A.y hc hok).mono ?_
  rintro e w1 ⟨rfl, hm1, hs1⟩
  obtain ⟨was, hwas⟩ : ∃ was, was = peekOf L ci A.at_ := ⟨_, rfl⟩
  rw [← hwas] at hu ⊢
  have hout : ¬ (lo ≤ w.heap.size ∧ w.heap.size < hi) := by omega
  have hout2 : ¬ (lo ≤ w.heap.size + 2 ∧ w.heap.size + 2 < hi) := by omega
  obtain ⟨d0, d1, d2, d3, d4, d5, d6, df⟩ := cells7 (Sep.obj hs1 H0.out hout)
  have H2' := Lib.hid (Sep.obj hs1 H2.out hout2)
  have hge : W.heap.size ≤ w1.heap.size := hs1.size
  have i01 : In lo hi w w1 := (hs0.sep _).trans hs1
  have hkk : Keeps F w w1 := Sep.keeps i01 hFd
  have HWAS := Lib.hid hwas
  clear hwas hs0 hs1 hmW
  go_wp2_with fail
  refine (HK.out w1 hkk was hu).mono ?_
  rintro e w2 ⟨v2, rfl, hi2, hs2⟩
  have hs2' : Sep (Near F w lo hi) w1 w2 := hs2.mono fun b _ hb => .inl hb
  have i02 : Sep (Near F w lo hi) w w2 := (i01.mono fun b _ hb => .inr hb).trans hs2'
  have hsz1 : w.heap.size + 3 ≤ w1.heap.size := by have := HSZ.out; omega
  have hm2 := hm1.stay hs2 (fun b h1 h2 h3 => hFd b h3.2 h3.1 ⟨h1, h2⟩)
  obtain ⟨c0, c1, c2, c3, c4, c5, c6, cf⟩ := cells7 (Sep.obj hs2 H2'.out (fun h => by have := h.2; omega))
  have HI := Lib.hid hi2
  have HM2 := Lib.hid hm2
  obtain ⟨o2, r0, A2, nx2, rfl, pr0, pn⟩ := formU hi2.form
  unfold Plain at *
  clear hi2 hs2 hs2' hm2 hm1 i01 d0 d1 d2 d3 d4 d5 d6 df hkk hu
  go_wp2
  refine bodyPost_ret (v := .tuple #[.agg #[.bool o2, r0, .int .i64 A2.op, .int .i64 A2.at_, .int .u64 A2.x, .int .u64 A2.y, nx2], .bool true]) (by simp [results, Try.results72, go_sem, c0, c1, c2, c3, c4, c5, c6]) rfl ?_
  have h7 := sep7 w2 (w.heap.size + 2) (.bool o2) (r0) (.int .i64 A2.op) (.int .i64 A2.at_) (.int .u64 A2.x) (.int .u64 A2.y) (nx2)
  rw [← HWAS.out]
  refine ⟨_, rfl, ?_, HM2.out.stay h7 (fun q h1 h2 h3 => by omega), sep_then i02 (Nat.le_add_right _ 2) h7⟩
  exact (HI.out.keep (Sep.keeps h7 (fun b _ hb e => by subst e; rcases hb with hb | hb; exact absurd hb.2 (by omega); omega))).imp fun b _ hb => hb.1.imp id (fun x => Nat.le_trans (by omega) x)
end

end Go.Proofs.Ytiljledgoflogaa
