/- Contracts of List, Access, Over, Step at programs that come to a list of words. -/
import Derived.Test.YtiljledgoflogaaL
namespace Go.Proofs.Ytiljledgoflogaa
open Go.RowKit
set_option linter.unusedSimpArgs false
set_option linter.unusedVariables false

theorem next_any {F : Nat → Prop} {w : World} {v : Value} {A : Acc} {l : List Acc} {told : List Int} (hlp : LP F w v (A :: l) told) (hF : ∀ b, w.heap.size ≤ b → F b) (hk : told.length ≤ 1000) (x : Int) :
    ∃ lb tb, v = .agg #[.bool false, .slice none 0 0, .int .i64 A.op, .int .i64 A.at_, .int .u64 A.x, .int .u64 A.y, .func (.func 93) #[] #[.pointer (some ⟨lb, 0, none⟩), .pointer (some ⟨tb, 0, none⟩)]] ∧
      Calls Try.prog 93 #[.int .u64 x, .pointer (some ⟨lb, 0, none⟩), .pointer (some ⟨tb, 0, none⟩)] w (LPMade F w l (told ++ [x])) := by
  obtain ⟨lb, tb, lv, tv, rfl, h1, h2, hlb, htb, hl, ht⟩ := hlp
  refine ⟨lb, tb, rfl, ?_⟩
  obtain ⟨hcl, ⟨rfl, h0⟩ | ⟨b, off, cap, rfl, hBb, hlt, hlc, hm, hc⟩⟩ := hl
  · simp at h0
  have tail := tail_slc hBb hlt hlc hm hc
  cases l with
  | nil =>
    by_cases hcap : cap = 1
    · subst hcap
      exact next_nil1 (A := A) (A' := A) (l := []) x rfl rfl h1 h2 hlb htb (by simpa using tail) hlc ht hF hk
    · rw [if_neg (fun e => hcap e.symm)] at tail
      exact next_nil2 (A := A) (A' := A) (l := []) x rfl hcap h1 h2 hlb htb (by simpa using tail) hlc ht hF hk
  | cons A' l =>
    have hcap : ¬ cap = 1 := by simp at hlc; omega
    rw [if_neg (fun e => hcap e.symm)] at tail
    exact next_cons (A := A) x (by simp) hcap h1 h2 hlb htb tail hlc ht hF hk

/-- The seven cells of such a program. -/
theorem LP.form {F : Nat → Prop} {w : World} {v : Value} {l : List Acc} {told : List Int} (h : LP F w v l told) :
    (l = [] ∧ ∃ a cap, v = .agg #[.bool true, .slice a told.length cap, .int .i64 0, .int .i64 0, .int .u64 0, .int .u64 0, .nilFunc]) ∨
    (∃ A l' lb tb, l = A :: l' ∧ v = .agg #[.bool false, .slice none 0 0, .int .i64 A.op, .int .i64 A.at_, .int .u64 A.x, .int .u64 A.y, .func (.func 93) #[] #[.pointer (some ⟨lb, 0, none⟩), .pointer (some ⟨tb, 0, none⟩)]]) := by
  cases l with
  | nil =>
    obtain ⟨rv, rfl, hr⟩ := h
    obtain ⟨a, cap, rfl⟩ := hr.form
    exact .inl ⟨rfl, a, cap, rfl⟩
  | cons A l =>
    obtain ⟨lb, tb, lv, tv, rfl, _⟩ := h
    exact .inr ⟨A, l, lb, tb, rfl, rfl⟩

set_option maxRecDepth 100000 in
theorem list_new {F G : Nat → Prop} {w : World} {v : Value} {l : List Acc} (hv : SlcA G w v l) (hl : l.length ≤ 1000) (hF : ∀ b, w.heap.size ≤ b → F b) : Calls Try.prog 42 #[v] w (LPMade F w l []) := by
  have hs0 : Same w (w.alloc (.cells #[.bool false, .slice none 0 0, .int .i64 0, .int .i64 0, .int .u64 0, .int .u64 0, .nilFunc] 87)) := Sep.alloc _ _ _
  have hb : (w.alloc (.cells #[.bool false, .slice none 0 0, .int .i64 0, .int .i64 0, .int .u64 0, .int .u64 0, .nilFunc] 87)).heap[w.heap.size]? = some (.cells #[.bool false, .slice none 0 0, .int .i64 0, .int .i64 0, .int .u64 0, .int .u64 0, .nilFunc] 87) := heap_alloc_new _ _
  obtain ⟨W, hW⟩ : ∃ W, W = w.alloc (.cells #[.bool false, .slice none 0 0, .int .i64 0, .int .i64 0, .int .u64 0, .int .u64 0, .nilFunc] 87) := ⟨_, rfl⟩
  have hsz : W.heap.size = w.heap.size + 1 := by rw [hW]; simp
  rw [← hW] at hs0 hb
  obtain ⟨va, vc, rfl⟩ := hv.form
  obtain ⟨n, hn⟩ : ∃ n, n = l.length := ⟨_, rfl⟩
  have hv' : SlcA G W (.slice va n vc) l := by rw [hn]; exact hv.same hs0
  rw [← hn]
  have HW := Lib.hid hW
  have HB := Lib.hid hb
  have HV := Lib.hid hv'
  have HSZ := Lib.hid hsz
  clear hW hb hv hv' hn hsz
  go_enter Try.func42, Try.ntmps42
  go_wp2_with fail
  rw [← HW.out]
  refine (cloneA HV.out (by omega)).mono ?_
  rintro e w1 ⟨v1, rfl, own1, hs1⟩
  have h01 := hs0.trans hs1
  have sl1 : SlcA (fun q => F q ∧ q ≠ w.heap.size) w1 v1 l := Slc.owned (fun q hq => by rw [HSZ.out] at hq; exact ⟨hF q (by omega), by omega⟩) own1
  have hge : W.heap.size ≤ w1.heap.size := hs1.size
  clear own1
  go_wp2_with fail
  refine (list_any (F := fun q => F q ∧ q ≠ w.heap.size) sl1 (told := []) ⟨rfl, .inl ⟨rfl, rfl⟩⟩ (fun q hq => by rw [HSZ.out] at hge; exact ⟨hF q (by omega), by omega⟩)).mono ?_
  rintro e w2 ⟨v2, rfl, hlp, hs2⟩
  have h02 := h01.trans hs2
  obtain ⟨c0, c1, c2, c3, c4, c5, c6, cf⟩ := cells7 (hs2.obj (hs1.obj HB.out))
  have HLP := Lib.hid hlp
  rcases hlp.form with ⟨rfl, ra, rc, rfl⟩ | ⟨A, l', lb, tb, rfl, rfl⟩
  · clear hlp sl1 hs1 hs2 h01
    go_wp2
    refine bodyPost_ret (v := .agg #[.bool true, .slice ra ([] : List Int).length rc, .int .i64 0, .int .i64 0, .int .u64 0, .int .u64 0, .nilFunc]) (by simp [results, Try.results42, go_sem, c0, c1, c2, c3, c4, c5, c6]) rfl ?_
    have h7 := sep7 w2 w.heap.size (.bool true) (.slice ra ([] : List Int).length rc) (.int .i64 0) (.int .i64 0) (.int .u64 0) (.int .u64 0) .nilFunc
    exact ⟨_, rfl, (HLP.out.stay h7 (fun q hq _ => hq.2)).imp (fun q hq => hq.1), same_then h02 (Nat.le_refl _) h7⟩
  · clear hlp sl1 hs1 hs2 h01
    go_wp2
    refine bodyPost_ret (v := .agg #[.bool false, .slice none 0 0, .int .i64 A.op, .int .i64 A.at_, .int .u64 A.x, .int .u64 A.y, .func (.func 93) #[] #[.pointer (some ⟨lb, 0, none⟩), .pointer (some ⟨tb, 0, none⟩)]]) (by simp [results, Try.results42, go_sem, c0, c1, c2, c3, c4, c5, c6]) rfl ?_
    have h7 := sep7 w2 w.heap.size (.bool false) (.slice none 0 0) (.int .i64 A.op) (.int .i64 A.at_) (.int .u64 A.x) (.int .u64 A.y) (.func (.func 93) #[] #[.pointer (some ⟨lb, 0, none⟩), .pointer (some ⟨tb, 0, none⟩)])
    exact ⟨_, rfl, (HLP.out.stay h7 (fun q hq _ => hq.2)).imp (fun q hq => hq.1), same_then h02 (Nat.le_refl _) h7⟩

theorem access_some (nx : Value) (op at_ x y : Int) (w : World) : Calls Try.prog 43 #[.agg #[.bool false, .slice none 0 0, .int .i64 op, .int .i64 at_, .int .u64 x, .int .u64 y, nx]] w fun e w' => e = .returned (.tuple #[.agg #[.int .i64 op, .int .i64 at_, .int .u64 x, .int .u64 y], .bool true]) ∧ Same w w' := by
  go_enter Try.func43, Try.ntmps43
  go_wp2
  exact bodyPost_ret (v := .tuple #[.agg #[.int .i64 op, .int .i64 at_, .int .u64 x, .int .u64 y], .bool true]) (by simp [results, Try.results43, go_sem]) rfl ⟨rfl, (Sep.alloc _ _ _).thenAlloc _⟩
theorem access_none (a : Option Addr) (n cap : Nat) (w : World) : Calls Try.prog 43 #[.agg #[.bool true, .slice a n cap, .int .i64 0, .int .i64 0, .int .u64 0, .int .u64 0, .nilFunc]] w fun e w' => e = .returned (.tuple #[.agg #[.int .i64 0, .int .i64 0, .int .u64 0, .int .u64 0], .bool false]) ∧ Same w w' := by
  go_enter Try.func43, Try.ntmps43
  go_wp2
  exact bodyPost_ret (v := .tuple #[.agg #[.int .i64 0, .int .i64 0, .int .u64 0, .int .u64 0], .bool false]) (by simp [results, Try.results43, go_sem]) rfl ⟨rfl, (Sep.alloc _ _ _).thenAlloc _⟩
theorem over_any (o : Bool) (a : Option Addr) (n cap : Nat) (op at_ x y : Int) (nx : Value) (w : World) : Calls Try.prog 44 #[.agg #[.bool o, .slice a n cap, .int .i64 op, .int .i64 at_, .int .u64 x, .int .u64 y, nx]] w fun e w' => e = .returned (.tuple #[.slice a n cap, .bool o]) ∧ Same w w' := by
  have c0 : (w.alloc (.cells #[.bool o, .slice a n cap, .int .i64 op, .int .i64 at_, .int .u64 x, .int .u64 y, nx] 87)).cell? ⟨w.heap.size, 0, none⟩ = some (.bool o) := by rw [cell_of_heap (heap_alloc_new _ _)]; rfl
  have c1 : (w.alloc (.cells #[.bool o, .slice a n cap, .int .i64 op, .int .i64 at_, .int .u64 x, .int .u64 y, nx] 87)).cell? ⟨w.heap.size, 1, none⟩ = some (.slice a n cap) := by rw [cell_of_heap (heap_alloc_new _ _)]; rfl
  go_enter Try.func44, Try.ntmps44
  go_wp2
  go_region
  all_goals go_wp2
  all_goals go_ret2
  all_goals exact ⟨rfl, (Sep.alloc _ _ _).trans (Sep.drew _ _)⟩

theorem LP.imp2 {F G : Nat → Prop} {w : World} {v : Value} {l : List Acc} {told : List Int} (h : LP F w v l told) (hB : ∀ b, F b → b < w.heap.size → G b) : LP G w v l told := by
  cases l with
  | nil =>
    obtain ⟨rv, e, hr⟩ := h
    exact ⟨rv, e, Slc.imp hr hB⟩
  | cons A l =>
    obtain ⟨lb, tb, lv, tv, e, h1, h2, h3, h4, h5, h6⟩ := h
    exact ⟨lb, tb, lv, tv, e, hB _ h1 (lt_of_block h3), hB _ h2 (lt_of_block h4), h3, h4, Slc.imp h5 hB, Slc.imp h6 hB⟩
theorem in_then {lo hi : Nat} {w w1 w2 : World} {b : Nat} (h : In lo hi w w1) (hb : w.heap.size ≤ b) (h2 : Sep (fun k => k = b) w1 w2) : In lo hi w w2 :=
  ⟨h2.os.trans h.os, h2.tape.trans h.tape, h2.output.trans h.output, Nat.le_trans h.size h2.size, fun k hk hn => (h2.block k (Nat.lt_of_lt_of_le hk h.size) (fun e => by omega)).trans (h.block k hk hn)⟩

/-- The three blocks of Step: the program, the capability, the result. -/
theorem three_s (w : World) (p c : Array Value) : ∃ W, W = ((w.alloc (.cells p 87)).alloc (.cells c 33)).alloc (.cells #[.bool false, .slice none 0 0, .int .i64 0, .int .i64 0, .int .u64 0, .int .u64 0, .nilFunc] 87) ∧
    Same w W ∧ W.heap.size = w.heap.size + 3 ∧ W.heap[w.heap.size]? = some (.cells p 87) ∧ W.heap[w.heap.size + 1]? = some (.cells c 33) ∧ W.heap[w.heap.size + 2]? = some (.cells #[.bool false, .slice none 0 0, .int .i64 0, .int .i64 0, .int .u64 0, .int .u64 0, .nilFunc] 87) := by
  refine ⟨_, rfl, ((Sep.alloc _ _ _).thenAlloc _).thenAlloc _, by simp, ?_, ?_, ?_⟩
  · rw [Below.heap_alloc _ _ _ (by simp; omega), Below.heap_alloc _ _ _ (by simp)]; exact heap_alloc_new _ _
  · rw [Below.heap_alloc _ _ _ (by simp)]
    have e : (w.alloc (.cells p 87)).heap.size = w.heap.size + 1 := by simp
    rw [← e]; exact heap_alloc_new _ _
  · have e : ((w.alloc (.cells p 87)).alloc (.cells c 33)).heap.size = w.heap.size + 2 := by simp
    rw [← e]; exact heap_alloc_new _ _

/-- A program that is over stays. -/
theorem step_over (a : Option Addr) (n cap : Nat) (p ci ce : Value) (hp : ∃ b, p = .pointer b) (w : World) : Calls Try.prog 45 #[.agg #[.bool true, .slice a n cap, .int .i64 0, .int .i64 0, .int .u64 0, .int .u64 0, .nilFunc], p, .agg #[ci, ce]] w fun e w' =>
    e = .returned (.tuple #[.agg #[.bool true, .slice a n cap, .int .i64 0, .int .i64 0, .int .u64 0, .int .u64 0, .nilFunc], .bool false]) ∧ Same w w' := by
  obtain ⟨b, rfl⟩ := hp
  go_enter Try.func45, Try.ntmps45
  go_wp2
  exact bodyPost_ret (v := .tuple #[.agg #[.bool true, .slice a n cap, .int .i64 0, .int .i64 0, .int .u64 0, .int .u64 0, .nilFunc], .bool false]) (by simp [results, Try.results45, go_sem]) rfl ⟨rfl, ((Sep.alloc _ _ _).thenAlloc _).thenAlloc _⟩

section
variable {lo hi p cnt : Nat} {w : World} {L : List Reg} {F : Nat → Prop}

set_option maxRecDepth 100000 in
theorem step_no {v : Value} {A : Acc} {l : List Acc} {told : List Int} (hm : Mem lo hi w p L cnt) (hlp : LP F w v (A :: l) told) (ci ce : Int) (hno : okB L ci ce A.op A.at_ = false) :
    Calls Try.prog 45 #[v, .pointer (some ⟨p, 0, none⟩), .agg #[.int .i64 ci, .int .u64 ce]] w fun e w' => e = .returned (.tuple #[v, .bool false]) ∧ Same w w' := by
  rcases hlp.form with ⟨h0, _⟩ | ⟨A', l', lb, tb, he, rfl⟩
  · cases h0
  obtain ⟨rfl, rfl⟩ : A = A' ∧ l = l' := by simpa using he
  obtain ⟨W, hW, hs0, hsz, h0, h1, h2⟩ := three_s w #[.bool false, .slice none 0 0, .int .i64 A.op, .int .i64 A.at_, .int .u64 A.x, .int .u64 A.y, .func (.func 93) #[] #[.pointer (some ⟨lb, 0, none⟩), .pointer (some ⟨tb, 0, none⟩)]] #[.int .i64 ci, .int .u64 ce]
  have HW := Lib.hid hW
  have H0 := Lib.hid h0
  have H2 := Lib.hid h2
  have hmW := hm.same hs0
  clear hW hsz h0 h1 h2 hlp he hm
  go_enter Try.func45, Try.ntmps45
  go_wp2_with fail
  rw [← HW.out]
  refine (do_no hmW ci ce A.op A.at_ A.x A.y hno).mono ?_
  rintro e w1 ⟨rfl, hs1⟩
  obtain ⟨d0, d1, d2, d3, d4, d5, d6, df⟩ := cells7 (hs1.obj H0.out)
  obtain ⟨c0, c1, c2, c3, c4, c5, c6, cf⟩ := cells7 (hs1.obj H2.out)
  have h01 := hs0.trans hs1
  clear hs0 hs1 hmW
  go_wp2
  refine bodyPost_ret (v := .tuple #[.agg #[.bool false, .slice none 0 0, .int .i64 A.op, .int .i64 A.at_, .int .u64 A.x, .int .u64 A.y, .func (.func 93) #[] #[.pointer (some ⟨lb, 0, none⟩), .pointer (some ⟨tb, 0, none⟩)]], .bool false]) (by simp [results, Try.results45, go_sem, c0, c1, c2, c3, c4, c5, c6]) rfl ?_
  have h7 := sep7 w1 (w.heap.size + 2) (.bool false) (.slice none 0 0) (.int .i64 A.op) (.int .i64 A.at_) (.int .u64 A.x) (.int .u64 A.y) (.func (.func 93) #[] #[.pointer (some ⟨lb, 0, none⟩), .pointer (some ⟨tb, 0, none⟩)])
  exact ⟨rfl, same_then h01 (Nat.le_add_right _ 2) h7⟩

/-- A step that is done. -/
def Stepped (lo hi : Nat) (F : Nat → Prop) (p cnt : Nat) (L' : List Reg) (w : World) (l : List Acc) (told : List Int) (e : Ending) (w' : World) : Prop :=
  ∃ v', e = .returned (.tuple #[v', .bool true]) ∧ LP F w' v' l told ∧ Mem lo hi w' p L' (cnt + 1) ∧ In lo hi w w'

set_option maxRecDepth 100000 in
theorem step_yes {v : Value} {A : Acc} {l : List Acc} {told : List Int} (hm : Mem lo hi w p L cnt) (hlp : LP F w v (A :: l) told) (ci ce : Int) (hok : okB L ci ce A.op A.at_ = true) (hc : cnt < 1000000000) (hk : told.length ≤ 1000)
    (hF : ∀ b, w.heap.size ≤ b → F b) (hFd : ∀ b, F b → ¬ (lo ≤ b ∧ b < hi)) :
    Calls Try.prog 45 #[v, .pointer (some ⟨p, 0, none⟩), .agg #[.int .i64 ci, .int .u64 ce]] w (Stepped lo hi F p cnt (doL L ci.toNat A.at_.toNat A.op A.x A.y) w l (told ++ [peekOf L ci A.at_])) := by
  have hlp0 := hlp
  rcases hlp.form with ⟨h0, _⟩ | ⟨A', l', lb, tb, he, rfl⟩
  · cases h0
  obtain ⟨rfl, rfl⟩ : A = A' ∧ l = l' := by simpa using he
  obtain ⟨W, hW, hs0, hsz, h0, h1, h2⟩ := three_s w #[.bool false, .slice none 0 0, .int .i64 A.op, .int .i64 A.at_, .int .u64 A.x, .int .u64 A.y, .func (.func 93) #[] #[.pointer (some ⟨lb, 0, none⟩), .pointer (some ⟨tb, 0, none⟩)]] #[.int .i64 ci, .int .u64 ce]
  have hle := hm.le
  have HW := Lib.hid hW
  have H0 := Lib.hid h0
  have H2 := Lib.hid h2
  have HSZ := Lib.hid hsz
  have hmW := hm.same hs0
  have hlpW : LP (fun q => F q ∧ q ≠ w.heap.size + 2) W (.agg #[.bool false, .slice none 0 0, .int .i64 A.op, .int .i64 A.at_, .int .u64 A.x, .int .u64 A.y, .func (.func 93) #[] #[.pointer (some ⟨lb, 0, none⟩), .pointer (some ⟨tb, 0, none⟩)]]) (A :: l) told := (hlp0.imp2 (fun q hq hlt => ⟨hq, by omega⟩)).same hs0
  have HLPW := Lib.hid hlpW
  clear hW hsz h0 h1 h2 hlp hlp0 he hm hlpW
  go_enter Try.func45, Try.ntmps45
  go_wp2_with fail
  rw [← HW.out]
  refine (do_yes hmW ci ce A.op A.at_ A.x A.y hc hok).mono ?_
  rintro e w1 ⟨rfl, hm1, hs1⟩
  obtain ⟨was, hwas⟩ : ∃ was, was = peekOf L ci A.at_ := ⟨_, rfl⟩
  rw [← hwas]
  have hout : ¬ (lo ≤ w.heap.size ∧ w.heap.size < hi) := by omega
  have hout2 : ¬ (lo ≤ w.heap.size + 2 ∧ w.heap.size + 2 < hi) := by omega
  obtain ⟨d0, d1, d2, d3, d4, d5, d6, df⟩ := cells7 (Sep.obj hs1 H0.out hout)
  have H2' := Lib.hid (Sep.obj hs1 H2.out hout2)
  have hlp1 := HLPW.out.stay hs1 (fun q hq _ => hFd q hq.1)
  have hge : W.heap.size ≤ w1.heap.size := hs1.size
  obtain ⟨lb2, tb2, he2, hnext⟩ := next_any hlp1 (fun q hq => by rw [HSZ.out] at hge; exact ⟨hF q (by omega), by omega⟩) hk was
  simp only [Value.agg.injEq] at he2
  obtain ⟨rfl, rfl⟩ : lb = lb2 ∧ tb = tb2 := by simpa using he2
  have HN := Lib.hid hnext
  have i01 : In lo hi w w1 := (hs0.sep _).trans hs1
  have HWAS := Lib.hid hwas
  clear hwas he2 hnext hlp1 hs0 hs1 hmW
  go_wp2_with fail
  refine HN.out.mono ?_
  rintro e w2 ⟨v2, rfl, hlp2, hs2⟩
  have i02 : In lo hi w w2 := i01.trans (hs2.sep _)
  have hm2 := hm1.same hs2
  obtain ⟨c0, c1, c2, c3, c4, c5, c6, cf⟩ := cells7 (hs2.obj H2'.out)
  have HLP := Lib.hid hlp2
  have HM2 := Lib.hid hm2
  rcases hlp2.form with ⟨rfl, ra, rc, rfl⟩ | ⟨A', l', lb', tb', rfl, rfl⟩
  · obtain ⟨rn, hrn⟩ : ∃ rn, rn = (told ++ [was]).length := ⟨_, rfl⟩
    rw [← hrn] at HLP ⊢
    clear hlp2 hs2 hm2 hm1 i01 d0 d1 d2 d3 d4 d5 d6 hrn
    go_wp2
    refine bodyPost_ret (v := .tuple #[.agg #[.bool true, .slice ra rn rc, .int .i64 0, .int .i64 0, .int .u64 0, .int .u64 0, .nilFunc], .bool true]) (by simp [results, Try.results45, go_sem, c0, c1, c2, c3, c4, c5, c6]) rfl ?_
    have h7 := sep7 w2 (w.heap.size + 2) (.bool true) (.slice ra rn rc) (.int .i64 0) (.int .i64 0) (.int .u64 0) (.int .u64 0) .nilFunc
    rw [← HWAS.out]
    exact ⟨_, rfl, (HLP.out.stay h7 (fun q hq _ => hq.2)).imp (fun q hq => hq.1), HM2.out.stay h7 (fun q h1 h2 h3 => by omega), in_then i02 (Nat.le_add_right _ 2) h7⟩
  · clear hlp2 hs2 hm2 hm1 i01 d0 d1 d2 d3 d4 d5 d6
    go_wp2
    refine bodyPost_ret (v := .tuple #[.agg #[.bool false, .slice none 0 0, .int .i64 A'.op, .int .i64 A'.at_, .int .u64 A'.x, .int .u64 A'.y, .func (.func 93) #[] #[.pointer (some ⟨lb', 0, none⟩), .pointer (some ⟨tb', 0, none⟩)]], .bool true]) (by simp [results, Try.results45, go_sem, c0, c1, c2, c3, c4, c5, c6]) rfl ?_
    have h7 := sep7 w2 (w.heap.size + 2) (.bool false) (.slice none 0 0) (.int .i64 A'.op) (.int .i64 A'.at_) (.int .u64 A'.x) (.int .u64 A'.y) (.func (.func 93) #[] #[.pointer (some ⟨lb', 0, none⟩), .pointer (some ⟨tb', 0, none⟩)])
    rw [← HWAS.out]
    exact ⟨_, rfl, (HLP.out.stay h7 (fun q hq _ => hq.2)).imp (fun q hq => hq.1), HM2.out.stay h7 (fun q h1 h2 h3 => by omega), in_then i02 (Nat.le_add_right _ 2) h7⟩
end
end Go.Proofs.Ytiljledgoflogaa
