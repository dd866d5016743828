/- The worker as the proofs see it; New, Lists, Give, Waits, Busy. -/
import Derived.Test.YtiljledgoflogaaTb
namespace Go.Proofs.Ytiljledgoflogaa
open Go.RowKit
set_option linter.unusedSimpArgs false
set_option linter.unusedVariables false

/-- A list of accesses that is read alone: its accesses in blocks of F, or none. -/
def ArgF (F : Nat → Prop) (w : World) (v : Value) (l : List Acc) : Prop := SlcA F w v l ∨ (l = [] ∧ ∃ a cap, v = .slice (some a) 0 cap)
theorem ArgF.stay {F : Nat → Prop} {w w' : World} {v : Value} {l : List Acc} {S : Nat → Prop} (h : ArgF F w v l) (hs : Sep S w w') (hn : ∀ b, F b → b < w.heap.size → ¬ S b) : ArgF F w' v l := by
  rcases h with h | h
  · exact .inl (Slc.stay h hs hn)
  · exact .inr h
theorem ArgF.imp {F G : Nat → Prop} {w : World} {v : Value} {l : List Acc} (h : ArgF F w v l) (hB : ∀ b, F b → b < w.heap.size → G b) : ArgF G w v l := by
  rcases h with h | h
  · exact .inl (Slc.imp h hB)
  · exact .inr h
theorem ArgF.any {F : Nat → Prop} {w : World} {v : Value} {l : List Acc} (h : ArgF F w v l) : ArgA w v l := by
  rcases h with h | h
  · exact .inl (Slc.imp h (fun _ _ _ => trivial))
  · exact .inr h
theorem ArgF.form {F : Nat → Prop} {w : World} {v : Value} {l : List Acc} (h : ArgF F w v l) : ∃ a cap, v = .slice a l.length cap := by
  rcases h with h | ⟨rfl, a, cap, rfl⟩
  · exact h.form
  · exact ⟨_, _, rfl⟩
theorem ArgA.on {F : Nat → Prop} {w : World} {v : Value} {l : List Acc} (h : ArgA w v l) (hF : ∀ b, b < w.heap.size → F b) : ArgF F w v l := by
  rcases h with h | h
  · exact .inl (Slc.imp h (fun b _ hb => hF b hb))
  · exact .inr h
theorem ArgF.nil {F : Nat → Prop} {w : World} : ArgF F w (.slice none 0 0) [] := .inl ⟨rfl, .inl ⟨rfl, rfl⟩⟩

/-- What waits in a box. -/
def Fits (F : Nat → Prop) (w : World) : List Value → List (List Acc) → Prop
  | [], [] => True
  | v :: vs, l :: B => ArgF F w v l ∧ Fits F w vs B
  | _, _ => False
theorem Fits.stay {F : Nat → Prop} {w w' : World} {S : Nat → Prop} (hs : Sep S w w') (hn : ∀ b, F b → b < w.heap.size → ¬ S b) : ∀ {vs : List Value} {B : List (List Acc)}, Fits F w vs B → Fits F w' vs B
  | [], [], _ => trivial
  | _ :: _, _ :: _, ⟨h, k⟩ => ⟨h.stay hs hn, Fits.stay hs hn k⟩
  | [], _ :: _, h => h.elim
  | _ :: _, [], h => h.elim
theorem Fits.imp {F G : Nat → Prop} {w : World} (hB : ∀ b, F b → b < w.heap.size → G b) : ∀ {vs : List Value} {B : List (List Acc)}, Fits F w vs B → Fits G w vs B
  | [], [], _ => trivial
  | _ :: _, _ :: _, ⟨h, k⟩ => ⟨h.imp hB, Fits.imp hB k⟩
  | [], _ :: _, h => h.elim
  | _ :: _, [], h => h.elim
theorem Fits.len {F : Nat → Prop} {w : World} : ∀ {vs : List Value} {B : List (List Acc)}, Fits F w vs B → vs.length = B.length
  | [], [], _ => rfl
  | _ :: vs, _ :: B, ⟨_, k⟩ => by simp [Fits.len k]
  | [], _ :: _, h => h.elim
  | _ :: _, [], h => h.elim
theorem Fits.add {F : Nat → Prop} {w : World} {v : Value} {l : List Acc} (hv : ArgF F w v l) : ∀ {vs : List Value} {B : List (List Acc)}, Fits F w vs B → Fits F w (vs ++ [v]) (B ++ [l])
  | [], [], _ => ⟨hv, trivial⟩
  | _ :: vs, _ :: B, ⟨h, k⟩ => ⟨h, Fits.add hv k⟩
  | [], _ :: _, h => h.elim
  | _ :: _, [], h => h.elim

/-- What waits for a worker, and what it is at: what is left, what was told. -/
structure Job where
  box : List (List Acc)
  cur : Option (List Acc × List Int)

/-- The program of a worker. -/
def Pg (F : Nat → Prop) (w : World) (cur : Option (List Acc × List Int)) (x0 x1 x2 x3 x4 x5 x6 : Value) : Prop :=
  match cur with
  | none => x0 = .bool false ∧ x1 = .slice none 0 0 ∧ x2 = .int .i64 0 ∧ x3 = .int .i64 0 ∧ x4 = .int .u64 0 ∧ x5 = .int .u64 0 ∧ x6 = .nilFunc
  | some (l, t) => l ≠ [] ∧ LP F w (.agg #[x0, x1, x2, x3, x4, x5, x6]) l t
theorem Pg.stay {F : Nat → Prop} {w w' : World} {S : Nat → Prop} {cur : Option (List Acc × List Int)} {x0 x1 x2 x3 x4 x5 x6 : Value} (h : Pg F w cur x0 x1 x2 x3 x4 x5 x6) (hs : Sep S w w') (hn : ∀ b, F b → b < w.heap.size → ¬ S b) : Pg F w' cur x0 x1 x2 x3 x4 x5 x6 := by
  rcases cur with _ | ⟨l, t⟩
  · exact h
  · exact ⟨h.1, h.2.stay hs hn⟩

/-- A worker at wp: its memory is mp, its box lies at bp, the channel at c. -/
def Wk (F : Nat → Prop) (w : World) (wp mp bp c cap : Nat) (J : Job) : Prop :=
  ∃ (vs : List Value) (x0 x1 x2 x3 x4 x5 x6 : Value), w.heap[wp]? = some (wcells mp bp J.cur.isSome x0 x1 x2 x3 x4 x5 x6) ∧ Box 176 w bp c cap vs ∧ Fits F w vs J.box ∧ Pg F w J.cur x0 x1 x2 x3 x4 x5 x6
theorem Wk.stay {F : Nat → Prop} {w w' : World} {S : Nat → Prop} {wp mp bp c cap : Nat} {J : Job} (h : Wk F w wp mp bp c cap J) (hs : Sep S w w') (hn : ∀ b, F b → b < w.heap.size → ¬ S b) (h1 : ¬ S wp) (h2 : ¬ S bp) (h3 : ¬ S c) : Wk F w' wp mp bp c cap J := by
  obtain ⟨vs, x0, x1, x2, x3, x4, x5, x6, a, b, d, e⟩ := h
  exact ⟨vs, x0, x1, x2, x3, x4, x5, x6, hs.obj a h1, b.stay hs h2 h3, Fits.stay hs hn d, e.stay hs hn⟩
theorem Wk.same {F : Nat → Prop} {w w' : World} {wp mp bp c cap : Nat} {J : Job} (h : Wk F w wp mp bp c cap J) (hs : Same w w') : Wk F w' wp mp bp c cap J := h.stay hs (fun _ _ _ x => x) (fun x => x) (fun x => x) (fun x => x)
theorem Wk.lt {F : Nat → Prop} {w : World} {wp mp bp c cap : Nat} {J : Job} (h : Wk F w wp mp bp c cap J) : wp < w.heap.size ∧ bp < w.heap.size ∧ c < w.heap.size ∧ wp ≠ bp ∧ wp ≠ c ∧ bp ≠ c := by
  obtain ⟨vs, x0, x1, x2, x3, x4, x5, x6, a, b, d, e⟩ := h
  refine ⟨lt_of_block a, b.ltp, b.ltc, fun e => ?_, fun e => ?_, b.ne⟩
  · subst e
    have h1 := b.1
    rw [a] at h1
    simp [wcells] at h1
  · subst e
    obtain ⟨s, r, h2⟩ := b.2
    rw [a] at h2
    simp [wcells] at h2

theorem Wk.free {F G : Nat → Prop} {w : World} {wp mp bp c cap : Nat} (h : Wk F w wp mp bp c cap ⟨[], none⟩) : Wk G w wp mp bp c cap ⟨[], none⟩ := by
  obtain ⟨vs, x0, x1, x2, x3, x4, x5, x6, a, b, d, e⟩ := h
  refine ⟨vs, x0, x1, x2, x3, x4, x5, x6, a, b, ?_, e⟩
  cases vs with
  | nil => trivial
  | cons _ _ => exact d.elim

theorem wnew_no (p : Option Addr) (n : Int) (h : n < 1 ∨ 4096 < n) (w : World) : Calls Try.prog 51 #[.pointer p, .int .i64 n] w fun e w' =>
    e = .returned (.tuple #[.pointer none, .int .i64 1]) ∧ w = w' := by
  have key : Calls Try.prog 82 #[.pointer p, .int .i64 n, .func (.func 42) #[] #[]] w fun e w' => e = .returned (.tuple #[.pointer none, .int .i64 1]) ∧ w = w' := by
    go_enter Try.func82, Try.ntmps82
    go_wp2_with fail
    refine (newA_no n h w).mono ?_
    rintro e w' ⟨rfl, rfl⟩
    go_wp2
    go_ret2
    exact ⟨rfl, rfl⟩
  go_enter Try.func51, Try.ntmps51
  go_wp2_with fail
  refine key.mono ?_
  rintro e w' ⟨rfl, rfl⟩
  go_wp2
  go_ret2
  exact ⟨rfl, rfl⟩

theorem wnew_ok {F : Nat → Prop} (mp n : Nat) (h1 : 1 ≤ n) (h2 : n ≤ 4096) (w : World) : Calls Try.prog 51 #[.pointer (some ⟨mp, 0, none⟩), .int .i64 n] w fun e w' =>
    ∃ wp bp c, e = .returned (.tuple #[.pointer (some ⟨wp, 0, none⟩), .int .i64 0]) ∧ Wk F w' wp mp bp c n ⟨[], none⟩ ∧ w.heap.size ≤ wp ∧ w.heap.size ≤ bp ∧ w.heap.size ≤ c ∧ Same w w' := by
  have key : Calls Try.prog 82 #[.pointer (some ⟨mp, 0, none⟩), .int .i64 n, .func (.func 42) #[] #[]] w fun e w' => ∃ wp bp c, e = .returned (.tuple #[.pointer (some ⟨wp, 0, none⟩), .int .i64 0]) ∧ Wk F w' wp mp bp c n ⟨[], none⟩ ∧ w.heap.size ≤ wp ∧ w.heap.size ≤ bp ∧ w.heap.size ≤ c ∧ Same w w' := by
    go_enter Try.func82, Try.ntmps82
    go_wp2_with fail
    refine (newA n n rfl h1 h2 w).mono ?_
    rintro e w1 ⟨bp, c, rfl, hb, hbp, hc, hs⟩
    have HB := Lib.hid hb
    clear hb
    have fin : ∀ w2, w2 = w1.alloc (wcells mp bp false (.bool false) (.slice none 0 0) (.int .i64 0) (.int .i64 0) (.int .u64 0) (.int .u64 0) .nilFunc) → Wk F w2 w1.heap.size mp bp c n ⟨[], none⟩ ∧ Same w w2 := by
      rintro w2 rfl
      have hs2 : Same w1 (w1.alloc (wcells mp bp false (.bool false) (.slice none 0 0) (.int .i64 0) (.int .i64 0) (.int .u64 0) (.int .u64 0) .nilFunc)) := Sep.alloc _ _ _
      exact ⟨⟨[], _, _, _, _, _, _, _, heap_alloc_new _ _, Box.stay HB.out hs2 (fun x => x) (fun x => x), trivial, rfl, rfl, rfl, rfl, rfl, rfl, rfl⟩, hs.trans hs2⟩
    have hsz := hs.size
    go_wp2
    go_ret2
    obtain ⟨f1, f2⟩ := fin _ rfl
    exact ⟨w1.heap.size, bp, c, rfl, f1, hsz, hbp, hc, f2⟩
  go_enter Try.func51, Try.ntmps51
  go_wp2_with fail
  refine key.mono ?_
  rintro e w' ⟨wp, bp, c, rfl, hw⟩
  have HW := Lib.hid hw
  clear hw
  go_wp2
  go_ret2
  exact ⟨wp, bp, c, rfl, HW.out⟩

section
variable {F : Nat → Prop} {w : World} {wp mp bp c cap : Nat} {J : Job}
theorem waits_any (h : Wk F w wp mp bp c cap J) : Calls Try.prog 53 #[.pointer (some ⟨wp, 0, none⟩)] w fun e w' => e = .returned (.int .i64 J.box.length) ∧ w = w' := by
  obtain ⟨vs, x0, x1, x2, x3, x4, x5, x6, a, b, d, e⟩ := h
  have hl := Fits.len d
  unfold wcells at a
  obtain ⟨c0, c1, c2, c3, c4, c5, c6, c7, c8, c9, c10, cf⟩ := cells11 a
  have B := Lib.hid b
  have HL := Lib.hid hl
  clear a b d e hl c0 c2 c3 c4 c5 c6 c7 c8 c9 c10 cf
  go_enter Try.func53, Try.ntmps53
  go_wp2_with fail
  refine (lenA B.out).mono ?_
  rintro e w' ⟨rfl, rfl⟩
  rw [HL.out]
  go_wp2
  go_ret
  exact ⟨rfl, rfl⟩
theorem busy_any (h : Wk F w wp mp bp c cap J) : Calls Try.prog 55 #[.pointer (some ⟨wp, 0, none⟩)] w fun e w' => e = .returned (.bool J.cur.isSome) ∧ w = w' := by
  obtain ⟨vs, x0, x1, x2, x3, x4, x5, x6, a, b, d, e⟩ := h
  obtain ⟨bz, hbz⟩ : ∃ bz, bz = J.cur.isSome := ⟨_, rfl⟩
  rw [← hbz] at a ⊢
  unfold wcells at a
  obtain ⟨c0, c1, c2, c3, c4, c5, c6, c7, c8, c9, c10, cf⟩ := cells11 a
  clear a b d e hbz c0 c1 c2 c4 c5 c6 c7 c8 c9 c10 cf
  go_enter Try.func55, Try.ntmps55
  go_wp2
  go_ret
  exact ⟨rfl, rfl⟩
theorem give_full (h : Wk F w wp mp bp c cap J) (a0 : Option Addr) (n0 c0 : Nat) (hf : cap ≤ J.box.length) : Calls Try.prog 52 #[.pointer (some ⟨wp, 0, none⟩), .slice a0 n0 c0] w fun e w' => e = .returned (.int .i64 8) ∧ w = w' := by
  obtain ⟨vs, x0, x1, x2, x3, x4, x5, x6, a, b, d, e⟩ := h
  have hl := Fits.len d
  unfold wcells at a
  obtain ⟨c0, c1, c2, c3, c4, c5, c6, c7, c8, c9, c10, cf⟩ := cells11 a
  have B := Lib.hid b
  have HL := Lib.hid hl
  clear a b d e hl c0 c2 c3 c4 c5 c6 c7 c8 c9 c10 cf
  go_enter Try.func52, Try.ntmps52
  go_wp2_with fail
  refine (putA_full a0 n0 _ B.out (by have := HL.out; omega)).mono ?_
  rintro e w' ⟨rfl, rfl⟩
  go_wp2
  go_ret
  exact ⟨rfl, rfl⟩
theorem give_room (h : Wk F w wp mp bp c cap J) {a0 : Option Addr} {n0 c0 : Nat} {l : List Acc} (hv : ArgF F w (.slice a0 n0 c0) l) (hFc : ¬ F c) (hr : J.box.length < cap) : Calls Try.prog 52 #[.pointer (some ⟨wp, 0, none⟩), .slice a0 n0 c0] w fun e w' => e = .returned (.int .i64 0) ∧ Wk F w' wp mp bp c cap ⟨J.box ++ [l], J.cur⟩ ∧ Sep (fun k => k = c) w w' := by
  have hlt := h.lt
  obtain ⟨vs, x0, x1, x2, x3, x4, x5, x6, a, b, d, e⟩ := h
  have hl := Fits.len d
  unfold wcells at a
  obtain ⟨k0, k1, k2, k3, k4, k5, k6, k7, k8, k9, k10, kf⟩ := cells11 a
  have A := Lib.hid a
  have B := Lib.hid b
  have D := Lib.hid (Fits.add hv d)
  have E := Lib.hid e
  have HL := Lib.hid hl
  have HLT := Lib.hid hlt
  clear a b d e hl k0 k2 k3 k4 k5 k6 k7 k8 k9 k10 kf hv hlt
  go_enter Try.func52, Try.ntmps52
  go_wp2_with fail
  refine (putA_room a0 n0 _ B.out (by have := HL.out; omega)).mono ?_
  rintro e w' ⟨rfl, hb, hs⟩
  have HB := Lib.hid hb
  have HS := Lib.hid hs
  clear hb hs
  go_wp2
  go_ret
  have hn : ∀ b, F b → b < w.heap.size → ¬ b = c := fun b hb _ e => hFc (e ▸ hb)
  exact ⟨rfl, ⟨_, x0, x1, x2, x3, x4, x5, x6, HS.out.obj A.out HLT.out.2.2.2.2.1, HB.out, Fits.stay HS.out hn D.out, Pg.stay E.out HS.out hn⟩, HS.out⟩
end
end Go.Proofs.Ytiljledgoflogaa
