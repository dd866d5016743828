/- Lists of accesses as trees; Then, Join at them. -/
import Derived.Test.YtiljledgoflogaaUs
import Derived.Test.YtiljledgoflogaaX
import Derived.Test.YtiljledgoflogaaO
import Derived.Lib.AppendZerosOnto
namespace Go.Proofs.Ytiljledgoflogaa
open Go.RowKit
set_option linter.unusedSimpArgs false
set_option linter.unusedVariables false

namespace PT
/-- The accesses of a list, behind what others told. -/
def list : List Acc → List Int → PT (List Int)
  | [], told => .done told
  | A :: l, told => .step A fun z => list l (told ++ [z])
/-- Whatever it comes to is ok. -/
def All {R : Type} (ok : R → Prop) : PT R → Prop
  | .done r => ok r
  | .step _ k => ∀ z, isU z → All ok (k z)
  | .out => True
end PT
theorem LP.keep {F : Nat → Prop} {w w' : World} {v : Value} {l : List Acc} {told : List Int} (h : LP F w v l told) (hk : Keeps F w w') : LP F w' v l told := by
  cases l with
  | nil =>
    obtain ⟨rv, e, hr⟩ := h
    exact ⟨rv, e, hr.keep hk⟩
  | cons A l =>
    obtain ⟨lb, tb, lv, tv, e, h1, h2, h3, h4, ⟨h5a, h5⟩, h6⟩ := h
    refine ⟨lb, tb, lv, tv, e, h1, h2, hk.obj h3 h1, hk.obj h4 h2, ⟨h5a, ?_⟩, h6.keep hk⟩
    rcases h5 with h | ⟨b, off, cap, rfl, hB, hlt, hlc, hm, hc⟩
    · exact .inl h
    · exact .inr ⟨b, off, cap, rfl, hB, Nat.lt_of_lt_of_le hlt hk.1, hlc, hm, fun j u hj => (World.cell?_of_block (w := w) (hk.2 b hlt hB)).trans (hc j u hj)⟩
theorem enters93 : Enters 93 := enters_of Try.func93 (by kernel_rfl) (by kernel_rfl)
theorem enters95 : Enters 95 := enters_of Try.func95 (by kernel_rfl) (by kernel_rfl)
theorem enters78 : Enters 78 := enters_of Try.func78 (by kernel_rfl) (by kernel_rfl)
theorem enters79 : Enters 79 := enters_of Try.func79 (by kernel_rfl) (by kernel_rfl)
/-- A list's program is its tree's. -/
theorem LP.is {F : Nat → Prop} {w : World} {v : Value} {l : List Acc} {told : List Int} (h : LP F w v l told) (hk : told.length + l.length ≤ 1000) : Is layS (PT.list l told) w F v := by
  induction l generalizing F w v told with
  | nil =>
    obtain ⟨rv, rfl, hr⟩ := h
    exact ⟨[rv], rfl, rv, rfl, hr⟩
  | cons A l ih =>
    obtain ⟨lb, tb, lv, tv, e, _⟩ := id h
    refine ⟨93, #[.pointer (some ⟨lb, 0, none⟩), .pointer (some ⟨tb, 0, none⟩)], e, enters93, fun w' hkp z hz => ?_⟩
    have h' : LP (Grown F w w') w' v (A :: l) told := ((h.imp2 (G := Part F w) fun b hb hlt => ⟨hb, hlt⟩).keep (hkp.imp fun b _ hb => hb.1)).imp2 fun b hb _ => .inl hb
    obtain ⟨lb2, tb2, e2, hn⟩ := next_any h' (fun b hb => .inr hb) (by simp at hk; omega) z
    obtain ⟨rfl, rfl⟩ : lb = lb2 ∧ tb = tb2 := by
      rw [e] at e2
      simpa using e2
    refine Calls.mono (R := LPMade (Grown F w w') w' l (told ++ [z])) hn ?_
    rintro e w2 ⟨v2, rfl, hlp, hs⟩
    exact ⟨v2, rfl, ih hlp (by simp at hk ⊢; omega), hs.sep _⟩

/-- What a call comes to that may write what X owns. -/
abbrev GivesX (q : PT (List Int)) (X : Nat → Prop) (w : World) (e : Ending) (w' : World) : Prop := Gives layS q X w w e w'

set_option maxRecDepth 100000 in
theorem clo95 {p q : PT (List Int)} {A : Acc} {X F G : Nat → Prop} {Wx w w0 : World} {K K0 b0 b1 : Nat} {caps caps0 : Array Value} {z : Int}
    (h0 : w.heap[b0]? = some (.cells #[.bool false, .slice none 0 0, .int .i64 A.op, .int .i64 A.at_, .int .u64 A.x, .int .u64 A.y, .func (.func K0) #[] caps0] 87)) (h1 : w.heap[b1]? = some (.cells #[.func (.func K) #[] caps] 157)) (hb0 : ¬ Part F w0 b0) (hb1 : ¬ Part F w0 b1) (hb0' : ¬ Part G w0 b0) (hb1' : ¬ Part G w0 b1) (hK0 : Enters K0) (hz : isU z)
    (hnx : ∀ w1, Same w w1 → Calls Try.prog K0 (#[.int .u64 z] ++ caps0) w1 (Gives layS p F w0 w1))
    (hth : ∀ w1 w2 v, Same w w1 → w.heap.size < w1.heap.size → Sep (Part F w0) w1 w2 → Is layS p w2 (Grown F w0 w1) v → Calls Try.prog 77 #[v, .func (.func K) #[] caps] w2 (GivesX q (fun b => Grown F w0 w1 b ∨ Part G w0 b) w2))
    (hFX : ∀ b, Part F w0 b → X b ∧ b < Wx.heap.size) (hGX : ∀ b, Part G w0 b → X b ∧ b < Wx.heap.size) (hw0 : w0.heap.size ≤ w.heap.size) :
    Calls Try.prog 95 #[.int .u64 z, .pointer (some ⟨b0, 0, none⟩), .pointer (some ⟨b1, 0, none⟩)] w (Gives layS q X Wx w) := by
  obtain ⟨W, hW⟩ : ∃ W, W = (w.alloc (.cells #[.bool false, .slice none 0 0, .int .i64 0, .int .i64 0, .int .u64 0, .int .u64 0, .nilFunc] 87)) := ⟨_, rfl⟩
  have hs0 : Same w W := by rw [hW]; exact Sep.alloc _ _ _
  have hsz : W.heap.size = w.heap.size + 1 := by rw [hW]; simp
  have ob0 : W.heap[w.heap.size]? = some (.cells #[.bool false, .slice none 0 0, .int .i64 0, .int .i64 0, .int .u64 0, .int .u64 0, .nilFunc] 87) := by rw [hW]; exact heap_at1_0 _ _
  have HW := Lib.hid hW
  have HSZ := Lib.hid hsz
  have OB0 := Lib.hid ob0
  clear hW hsz ob0
  have e6 : W.cell? ⟨b0, 6, none⟩ = some (.func (.func K0) #[] caps0) := hs0.cell (by rw [cell_of_heap h0]; rfl)
  have e1 : W.cell? ⟨b1, 0, none⟩ = some (.func (.func K) #[] caps) := hs0.cell (cell_of_one h1)
  have l0 := lt_of_block h0
  have l1 := lt_of_block h1
  have hW1 : Same w W.drew := hs0.trans (Sep.drew _ _)
  have hlt : w.heap.size < W.drew.heap.size := by show w.heap.size < W.heap.size; have := HSZ.out; omega
  have OBd := Lib.hid (Same.obj (Sep.drew (fun _ => False) W) OB0.out)
  have HTH := Lib.hid hth
  have HNX := Lib.hid (hnx _ hW1)
  have HZ := Lib.hid hz
  clear hth hnx h0 h1 hz
  unfold Enters at hK0
  go_enter Try.func95, Try.ntmps95
  go_wp2_with fail
  rw [← HW.out]
  refine wp_region_held_drew (S := (fun v => v.cell? ⟨b0, 6, none⟩ = some (.func (.func K0) #[] caps0) ∧ v.cell? ⟨b1, 0, none⟩ = some (.func (.func K) #[] caps))) (by kernel_rfl) ?_ (fun hHeld => ?_)
  · exact ⟨(Sep.drew (fun _ => False) W).cell e6 (fun x => x), (Sep.drew (fun _ => False) W).cell e1 (fun x => x)⟩
  change wpAnyH _ _ _ _ _ 7 _ _ _
  refine wpAnyH_take (i := 0) (oi := ⟨some 5, _, _, _, _, _⟩) (v := ?v1) rfl (by kernel_rfl) (by kernel_rfl) (by kernel_rfl) (fun _ _ _ h => h) (Or.inl ⟨by kernel_rfl, ?h1⟩) hHeld ?_
  case h1 => intro w hSw; (try dsimp only at hSw); go_simp; try with_reducible rfl
  try simp only [Act.put, List.setIfInBounds_toArray, List.set_cons_zero, List.set_cons_succ]
  refine wpAnyH_take (i := 1) (oi := ⟨some 6, _, _, _, _, _⟩) (v := ?v2) rfl (by kernel_rfl) (by kernel_rfl) (by kernel_rfl) (fun _ _ _ h => h) (Or.inl ⟨by kernel_rfl, ?h2⟩) hHeld ?_
  case h2 => intro w hSw; (try dsimp only at hSw); go_simp; try with_reducible rfl
  try simp only [Act.put, List.setIfInBounds_toArray, List.set_cons_zero, List.set_cons_succ]
  refine wpAnyH_take (i := 2) (oi := ⟨some 7, _, _, _, _, _⟩) (v := ?v3) rfl (by kernel_rfl) (by kernel_rfl) (by kernel_rfl) (fun _ _ _ h => h) (Or.inl ⟨by kernel_rfl, ?h3⟩) hHeld ?_
  case h3 => intro w hSw; (try dsimp only at hSw); go_simp; try with_reducible rfl
  try simp only [Act.put, List.setIfInBounds_toArray, List.set_cons_zero, List.set_cons_succ]
  refine wpAnyH_take (i := 4) (oi := ⟨some 9, _, _, _, _, _⟩) (v := ?v4) rfl (by kernel_rfl) (by kernel_rfl) (by kernel_rfl) (fun _ _ _ h => h) (Or.inl ⟨by kernel_rfl, ?h4⟩) hHeld ?_
  case h4 => intro w hSw; (try dsimp only at hSw); go_simp; try with_reducible rfl
  try simp only [Act.put, List.setIfInBounds_toArray, List.set_cons_zero, List.set_cons_succ]
  refine wpAnyH_ready (rs := [3]) (by kernel_rfl) (by simp) ?_
  refine AllReadyH.cons (o := ⟨some 8, _, _, _, _, _⟩) rfl (fun K hK => ?_) AllReadyH.nil
  rw [if_pos (by kernel_rfl)]
  go_simp
  refine HNX.out.mono ?_
  rintro e w2 ⟨v2, rfl, hI, hs2⟩
  refine hK.out _ _ ?_ (fun hHeld => ?_)
  · exact ⟨Sep.cell hs2 ((Sep.drew (fun _ => False) W).cell e6 (fun x => x)) hb0, Sep.cell hs2 ((Sep.drew (fun _ => False) W).cell e1 (fun x => x)) hb1⟩
  clear hK K
  try simp only [Act.put, List.setIfInBounds_toArray, List.set_cons_zero, List.set_cons_succ]
  refine wpAnyH_ready (rs := [5]) (by kernel_rfl) (by simp) ?_
  refine AllReadyH.cons (o := ⟨some 10, _, _, _, _, _⟩) rfl (fun K hK => ?_) AllReadyH.nil
  have hn : ∀ b, b < w.heap.size → ¬ Part F w0 b → ¬ Part G w0 b → ¬ Part (fun b => Grown F w0 W.drew b ∨ Part G w0 b) w2 b := fun b hb hf hg h => by
    rcases h.1 with (h | h) | h
    · exact hf h
    · omega
    · exact hg h
  rw [if_pos (by kernel_rfl)]
  go_simp
  refine (HTH.out _ _ _ hW1 hlt hs2 hI).mono ?_
  rintro e w3 ⟨v3, rfl, hI3, hs3⟩
  have hob3 := Sep.obj hs3 (Sep.obj hs2 OBd.out (fun h => by have := h.2; omega)) (fun h => by
    have hlt' : w.heap.size < W.heap.size := hlt
    rcases h.1 with (h | h) | h
    · have := h.2; omega
    · have h9 : W.heap.size ≤ w.heap.size := h; omega
    · have := h.2; omega)
  have h23 : Sep (Part X Wx) w w3 := sep_chain (sep_chain (Same.sep hW1 _) hs2 (fun b _ h => ⟨(hFX b h).1, (hFX b h).2⟩)) hs3 (fun b hb h => by
    have hlt' : w.heap.size < W.heap.size := hlt
    rcases h.1 with (h | h) | h
    · exact hFX b h
    · have h9 : W.heap.size ≤ b := h; omega
    · exact hGX b h)
  have HI3 := Lib.hid hI3
  obtain ⟨o2, r0, A2, nx2, rfl, pr0, pn⟩ := formS hI3.form
  unfold Plain at pr0 pn
  have c6 := Sep.cell hs3 hHeld.1 (hn _ l0 hb0 hb0')
  have c1 := Sep.cell hs3 hHeld.2 (hn _ l1 hb1 hb1')
  refine hK.out _ _ ?_ (fun hHeld => ?_)
  · exact ⟨c6, c1⟩
  clear hK K
  try simp only [Act.put, List.setIfInBounds_toArray, List.set_cons_zero, List.set_cons_succ]
  refine wpAnyH_ready (rs := [6]) (by kernel_rfl) (by simp) ?_
  refine AllReadyH.cons (o := ⟨none, _, _, _, _, _⟩) rfl (fun K hK => ?_) AllReadyH.nil
  obtain ⟨t0, t1, t2, t3, t4, t5, t6, tf⟩ := cells7 hob3
  clear c6 c1
  rw [if_pos (by kernel_rfl)]
  go_simp
  obtain ⟨wT, hwT⟩ : ∃ x, x = (((((((w3.setCell ⟨w.heap.size, 0, none⟩ (.bool o2)).setCell ⟨w.heap.size, 1, none⟩ (r0)).setCell ⟨w.heap.size, 2, none⟩ (.int .i64 A2.op)).setCell ⟨w.heap.size, 3, none⟩ (.int .i64 A2.at_)).setCell ⟨w.heap.size, 4, none⟩ (.int .u64 A2.x)).setCell ⟨w.heap.size, 5, none⟩ (.int .u64 A2.y)).setCell ⟨w.heap.size, 6, none⟩ (nx2)) := ⟨_, rfl⟩
  rw [← hwT]
  have h7 : Sep (fun k => k = w.heap.size) w3 wT := by rw [hwT]; exact sep7 w3 w.heap.size (.bool o2) (r0) (.int .i64 A2.op) (.int .i64 A2.at_) (.int .u64 A2.x) (.int .u64 A2.y) (nx2)
  have obT : wT.heap[w.heap.size]? = some (.cells #[.bool o2, r0, .int .i64 A2.op, .int .i64 A2.at_, .int .u64 A2.x, .int .u64 A2.y, nx2] 87) := by rw [hwT]; exact heap7 hob3 rfl
  clear hwT
  refine hK.out _ _ ?_ (fun hHeld => ?_)
  · exact ⟨h7.cell hHeld.1 (show ¬ (b0 = w.heap.size) by omega), h7.cell hHeld.2 (show ¬ (b1 = w.heap.size) by omega)⟩
  clear hK K
  try simp only [Act.put, List.setIfInBounds_toArray, List.set_cons_zero, List.set_cons_succ]
  refine wpAnyH_done (by kernel_rfl) ?_ _
  obtain ⟨d0, d1, d2, d3, d4, d5, d6, df⟩ := cells7 obT
  clear hHeld t0 t1 t2 t3 t4 t5 t6 tf hob3
  go_wp2
  refine bodyPost_ret (v := .agg #[.bool o2, r0, .int .i64 A2.op, .int .i64 A2.at_, .int .u64 A2.x, .int .u64 A2.y, nx2]) (by simp [results, Try.results95, go_sem, d0, d1, d2, d3, d4, d5, d6]) rfl ?_
  refine ⟨_, rfl, (HI3.out.keep (Sep.keeps h7 fun k _ hk e => ?_)).imp fun k _ hk => ?_, sep_then h23 (Nat.le_refl _) h7⟩
  · subst e
    have hsz2 : W.heap.size ≤ w2.heap.size := hs2.size
    have hlt' : w.heap.size < W.heap.size := hlt
    rcases hk with ⟨h, _⟩ | h
    · rcases h with (h | h) | h
      · have := h.2; omega
      · have h9 : W.heap.size ≤ w.heap.size := h; omega
      · have := h.2; omega
    · omega
  · have hsz2 : W.heap.size ≤ w2.heap.size := hs2.size
    have hlt' : w.heap.size < W.heap.size := hlt
    rcases hk.1 with ⟨h, _⟩ | h
    · rcases h with (h | h) | h
      · exact .inl (hFX k h)
      · exact .inr (by have h9 : W.heap.size ≤ k := h; omega)
      · exact .inl (hGX k h)
    · exact .inr (by omega)

/-- What f's value is good for, behind worlds that keep what G owns: it goes on with what was come to. -/
def Goes (ok : List Int → Prop) (g : List Int → PT (List Int)) (w : World) (G : Nat → Prop) (K : Nat) (caps : Array Value) : Prop :=
  ∀ w' H rv r, Keeps G w w' → (∀ b, b < w'.heap.size → H b → ¬ Part G w b) → SlcU H w' rv r → ok r → Calls Try.prog K (#[rv] ++ caps) w' (GivesX (g r) (fun b => H b ∨ Part G w b) w')
theorem Goes.keep {ok : List Int → Prop} {g : List Int → PT (List Int)} {w w' : World} {G : Nat → Prop} {K : Nat} {caps : Array Value} (h : Goes ok g w G K caps) (hk : Keeps G w w') : Goes ok g w' (Part G w) K caps := by
  intro w2 H rv r hk2 hd hs hok
  have e : ∀ b, Part (Part G w) w' b ↔ Part G w b := fun b => ⟨fun h => h.1, fun h => ⟨h, Nat.lt_of_lt_of_le h.2 hk.1⟩⟩
  refine (h w2 H rv r ⟨Nat.le_trans hk.1 hk2.1, fun b hb hg => (hk2.2 b (Nat.lt_of_lt_of_le hb hk.1) ⟨hg, hb⟩).trans (hk.2 b hb hg)⟩ (fun b hb hh hg => hd b hb hh ((e b).2 hg)) hs hok).mono ?_
  rintro en w3 ⟨v, rfl, hi, hs⟩
  exact ⟨v, rfl, hi.imp fun b _ hb => hb.imp (fun x => ⟨x.1.imp id (e b).2, x.2⟩) id, hs.mono fun b _ hb => ⟨hb.1.imp id (e b).2, hb.2⟩⟩

set_option maxRecDepth 100000 in
set_option maxHeartbeats 1000000 in
theorem thenS_done {ok : List Int → Prop} {r : List Int} (hr : ok r) {g : List Int → PT (List Int)} {K : Nat} {caps : Array Value} (hK : Enters K) {w : World} {F G : Nat → Prop} {v : Value} (hp : Is layS (.done r) w F v) (hd : ∀ b, b < w.heap.size → F b → ¬ G b) (hg : Goes ok g w G K caps) :
    Calls Try.prog 77 #[v, .func (.func K) #[] caps] w (GivesX (g r) (fun b => F b ∨ G b) w) := by
  obtain ⟨rc, rfl, v0, rfl, hsl⟩ := hp
  obtain ⟨sa, sc, rfl⟩ := Slc.form hsl
  show Calls Try.prog 77 #[.agg #[.bool true, .slice sa r.length sc, .int .i64 0, .int .i64 0, .int .u64 0, .int .u64 0, .nilFunc], _] w _
  obtain ⟨W, hW⟩ : ∃ W, W = (((w.alloc (.cells #[.bool true, .slice sa r.length sc, .int .i64 0, .int .i64 0, .int .u64 0, .int .u64 0, .nilFunc] 87)).alloc (.cells #[.func (.func K) #[] caps] 157)).alloc (.cells #[.bool false, .slice none 0 0, .int .i64 0, .int .i64 0, .int .u64 0, .int .u64 0, .nilFunc] 87)) := ⟨_, rfl⟩
  have hs0 : Same w W := by rw [hW]; exact ((Sep.alloc _ _ _).thenAlloc _).thenAlloc _
  have hsz : W.heap.size = w.heap.size + 3 := by rw [hW]; simp
  have ob0 : W.heap[w.heap.size]? = some (.cells #[.bool true, .slice sa r.length sc, .int .i64 0, .int .i64 0, .int .u64 0, .int .u64 0, .nilFunc] 87) := by rw [hW]; exact heap_at3_0 _ _ _ _
  have ob1 : W.heap[w.heap.size + 1]? = some (.cells #[.func (.func K) #[] caps] 157) := by rw [hW]; exact heap_at3_1 _ _ _ _
  have ob2 : W.heap[w.heap.size + 2]? = some (.cells #[.bool false, .slice none 0 0, .int .i64 0, .int .i64 0, .int .u64 0, .int .u64 0, .nilFunc] 87) := by rw [hW]; exact heap_at3_2 _ _ _ _
  have HW := Lib.hid hW
  have HSZ := Lib.hid hsz
  have OB0 := Lib.hid ob0
  have OB1 := Lib.hid ob1
  have OB2 := Lib.hid ob2
  clear hW hsz ob0 ob1 ob2
  have hcall := hg W (Part F w) _ r (Same.keeps hs0) (fun b _ h1 h2 => hd b h1.2 h1.1 h2.1) ((Slc.imp hsl (G := Part F w) fun b hb hlt => ⟨hb, hlt⟩).same hs0) hr
  obtain ⟨sn, hsn⟩ : ∃ n, n = r.length := ⟨_, rfl⟩
  rw [← hsn] at HW OB0 hcall ⊢
  have HC := Lib.hid hcall
  have HS0 := Lib.hid hs0
  clear hcall hs0 hsn hg hd hsl
  unfold Enters at hK
  go_enter Try.func77, Try.ntmps77
  go_wp2_with fail
  rw [← HW.out]
  refine HC.out.mono ?_
  rintro e w2 ⟨v2, rfl, hI, hs2⟩
  have hob := Sep.obj hs2 OB2.out (fun h => by rcases h.1 with h | h <;> (have := h.2; omega))
  have HI := Lib.hid hI
  have HS2 := Lib.hid hs2
  clear hI hs2
  obtain ⟨c0, c1, c2, c3, c4, c5, c6, cf⟩ := cells7 hob
  obtain ⟨o2, r0, A2, nx2, rfl, pr0, pn⟩ := formS HI.out.form
  unfold Plain at *
  clear hob
  go_wp2
  have h7 := sep7 w2 (w.heap.size + 2) (.bool o2) (r0) (.int .i64 A2.op) (.int .i64 A2.at_) (.int .u64 A2.x) (.int .u64 A2.y) (nx2)
  refine bodyPost_ret (v := .agg #[.bool o2, r0, .int .i64 A2.op, .int .i64 A2.at_, .int .u64 A2.x, .int .u64 A2.y, nx2]) (by simp [results, Try.results77, go_sem, c0, c1, c2, c3, c4, c5, c6]) rfl ?_
  have hlt := HSZ.out
  refine ⟨_, rfl, (HI.out.keep (Sep.keeps h7 fun k _ hk e => ?_)).imp fun k _ hk => ?_, sep_then (sep_chain (Same.sep HS0.out _) HS2.out (fun b hb h => h.1.elim (fun x => ⟨.inl x.1, x.2⟩) (fun x => ⟨.inr x.1, x.2⟩))) (Nat.le_add_right _ 2) h7⟩
  · subst e
    rcases hk with ⟨h | h, _⟩ | h
    · have := h.2; omega
    · have := h.2; omega
    · omega
  · rcases hk.1 with ⟨h | h, _⟩ | h
    · exact .inl ⟨.inl h.1, h.2⟩
    · exact .inl ⟨.inr h.1, h.2⟩
    · exact .inr (by omega)

set_option maxRecDepth 100000 in
set_option maxHeartbeats 1000000 in
theorem thenS_out {K : Nat} {caps : Array Value} {w : World} {F G : Nat → Prop} {v : Value} (hp : Is layS .out w F v) :
    Calls Try.prog 77 #[v, .func (.func K) #[] caps] w (GivesX .out (fun b => F b ∨ G b) w) := by
  obtain ⟨rc, A, nx, rfl, hl, hpl, hn⟩ := hp
  match rc, hl with
  | [r1], _ =>
  have hp1 : Plain r1 := hpl _ (by simp)
  clear hpl
  show Calls Try.prog 77 #[.agg #[.bool false, r1, .int .i64 A.op, .int .i64 A.at_, .int .u64 A.x, .int .u64 A.y, nx], _] w _
  obtain ⟨W, hW⟩ : ∃ W, W = (((w.alloc (.cells #[.bool false, r1, .int .i64 A.op, .int .i64 A.at_, .int .u64 A.x, .int .u64 A.y, nx] 87)).alloc (.cells #[.func (.func K) #[] caps] 157)).alloc (.cells #[.bool false, .slice none 0 0, .int .i64 0, .int .i64 0, .int .u64 0, .int .u64 0, .nilFunc] 87)) := ⟨_, rfl⟩
  have hs0 : Same w W := by rw [hW]; exact ((Sep.alloc _ _ _).thenAlloc _).thenAlloc _
  have hsz : W.heap.size = w.heap.size + 3 := by rw [hW]; simp
  have ob0 : W.heap[w.heap.size]? = some (.cells #[.bool false, r1, .int .i64 A.op, .int .i64 A.at_, .int .u64 A.x, .int .u64 A.y, nx] 87) := by rw [hW]; exact heap_at3_0 _ _ _ _
  have ob1 : W.heap[w.heap.size + 1]? = some (.cells #[.func (.func K) #[] caps] 157) := by rw [hW]; exact heap_at3_1 _ _ _ _
  have ob2 : W.heap[w.heap.size + 2]? = some (.cells #[.bool false, .slice none 0 0, .int .i64 0, .int .i64 0, .int .u64 0, .int .u64 0, .nilFunc] 87) := by rw [hW]; exact heap_at3_2 _ _ _ _
  have HW := Lib.hid hW
  have HSZ := Lib.hid hsz
  have OB0 := Lib.hid ob0
  have OB1 := Lib.hid ob1
  have OB2 := Lib.hid ob2
  clear hW hsz ob0 ob1 ob2
  have HS0 := Lib.hid hs0
  clear hs0
  unfold Plain at hp1 hn
  go_enter Try.func77, Try.ntmps77
  go_wp2_with fail
  rw [← HW.out]
  refine (do_u A (.func 95) #[] #[.pointer (some ⟨w.heap.size, 0, none⟩), .pointer (some ⟨w.heap.size + 1, 0, none⟩)] W).mono ?_
  rintro e w2 ⟨rfl, hs2⟩
  obtain ⟨c0, c1, c2, c3, c4, c5, c6, cf⟩ := cells7 (Same.obj hs2 OB2.out)
  have HS2 := Lib.hid hs2
  clear hs2
  go_wp2
  have h7 := sep7 w2 (w.heap.size + 2) (.bool false) (.slice none 0 0) (.int .i64 A.op) (.int .i64 A.at_) (.int .u64 A.x) (.int .u64 A.y) (.func (.func 95) #[] #[.pointer (some ⟨w.heap.size, 0, none⟩), .pointer (some ⟨w.heap.size + 1, 0, none⟩)])
  refine bodyPost_ret (v := .agg #[.bool false, .slice none 0 0, .int .i64 A.op, .int .i64 A.at_, .int .u64 A.x, .int .u64 A.y, .func (.func 95) #[] #[.pointer (some ⟨w.heap.size, 0, none⟩), .pointer (some ⟨w.heap.size + 1, 0, none⟩)]]) (by simp [results, Try.results77, go_sem, c0, c1, c2, c3, c4, c5, c6]) rfl ?_
  exact ⟨_, rfl, ⟨[_], A, _, rfl, rfl, fun u hu => by simp at hu; subst hu; exact plain_of rfl, plain_of rfl⟩, Same.sep (same_then (HS0.out.trans HS2.out) (Nat.le_add_right _ 2) h7) _⟩

set_option maxRecDepth 100000 in
set_option maxHeartbeats 1000000 in
theorem thenS_step {ok : List Int → Prop} {A : Acc} {k : Int → PT (List Int)} {g : List Int → PT (List Int)} {K : Nat} {caps : Array Value} (hK : Enters K)
    (ih : ∀ z, isU z → ∀ {w : World} {F G : Nat → Prop} {v : Value}, Is layS (k z) w F v → (∀ b, b < w.heap.size → F b → ¬ G b) → Goes ok g w G K caps → Calls Try.prog 77 #[v, .func (.func K) #[] caps] w (GivesX ((k z).bind g) (fun b => F b ∨ G b) w))
    {w : World} {F G : Nat → Prop} {v : Value} (hp : Is layS (.step A k) w F v) (hd : ∀ b, b < w.heap.size → F b → ¬ G b) (hg : Goes ok g w G K caps) :
    Calls Try.prog 77 #[v, .func (.func K) #[] caps] w (GivesX (.step A fun z => (k z).bind g) (fun b => F b ∨ G b) w) := by
  obtain ⟨K0, caps0, rfl, hK0, hk⟩ := hp
  show Calls Try.prog 77 #[.agg #[.bool false, .slice none 0 0, .int .i64 A.op, .int .i64 A.at_, .int .u64 A.x, .int .u64 A.y, .func (.func K0) #[] caps0], _] w _
  obtain ⟨W, hW⟩ : ∃ W, W = (((w.alloc (.cells #[.bool false, .slice none 0 0, .int .i64 A.op, .int .i64 A.at_, .int .u64 A.x, .int .u64 A.y, .func (.func K0) #[] caps0] 87)).alloc (.cells #[.func (.func K) #[] caps] 157)).alloc (.cells #[.bool false, .slice none 0 0, .int .i64 0, .int .i64 0, .int .u64 0, .int .u64 0, .nilFunc] 87)) := ⟨_, rfl⟩
  have hs0 : Same w W := by rw [hW]; exact ((Sep.alloc _ _ _).thenAlloc _).thenAlloc _
  have hsz : W.heap.size = w.heap.size + 3 := by rw [hW]; simp
  have ob0 : W.heap[w.heap.size]? = some (.cells #[.bool false, .slice none 0 0, .int .i64 A.op, .int .i64 A.at_, .int .u64 A.x, .int .u64 A.y, .func (.func K0) #[] caps0] 87) := by rw [hW]; exact heap_at3_0 _ _ _ _
  have ob1 : W.heap[w.heap.size + 1]? = some (.cells #[.func (.func K) #[] caps] 157) := by rw [hW]; exact heap_at3_1 _ _ _ _
  have ob2 : W.heap[w.heap.size + 2]? = some (.cells #[.bool false, .slice none 0 0, .int .i64 0, .int .i64 0, .int .u64 0, .int .u64 0, .nilFunc] 87) := by rw [hW]; exact heap_at3_2 _ _ _ _
  have HW := Lib.hid hW
  have HSZ := Lib.hid hsz
  have OB0 := Lib.hid ob0
  have OB1 := Lib.hid ob1
  have OB2 := Lib.hid ob2
  clear hW hsz ob0 ob1 ob2
  have hcall := doS (w := W) (F := fun b => (Part F w b ∨ Part G w b) ∨ (b = w.heap.size ∨ b = w.heap.size + 1)) (A := A) (K := 95) (caps := #[.pointer (some ⟨w.heap.size, 0, none⟩), .pointer (some ⟨w.heap.size + 1, 0, none⟩)]) (p := fun z => (k z).bind g) enters95
    (fun w' hkx z hz => clo95 (p := k z) (q := (k z).bind g) (A := A) (F := F) (G := G) (w0 := w) (hkx.obj OB0.out (.inr (.inl rfl))) (hkx.obj OB1.out (.inr (.inr rfl))) (fun h => by have := h.2; omega) (fun h => by have := h.2; omega) (fun h => by have := h.2; omega) (fun h => by have := h.2; omega) hK0 hz
      (fun w1 h1 => hk w1 ((hkx.under hs0 fun b hb hF => .inl (.inl ⟨hF, hb⟩)).trans (Same.keeps h1)) z hz)
      (fun w1 w2 v h1 hlt hs2 hI => by
        have hkG : Keeps G w w2 := ((hkx.under hs0 fun b hb hG => .inl (.inr ⟨hG, hb⟩)).trans (Same.keeps h1)).trans ⟨hs2.size, fun b hb hG => by
          by_cases hbw : b < w.heap.size
          · exact hs2.block b hb (fun hF => hd b hbw hF.1 hG)
          · exact hs2.block b hb (fun hF => hbw hF.2)⟩
        refine ih z hz hI (fun b _ hF hG => ?_) (hg.keep hkG)
        rcases hF with hF | hF
        · exact hd b hF.2 hF.1 hG.1
        · have h1' := h1.size; have h2' := hkx.1; have h3' := hs0.size; have := hG.2; omega)
      (fun b h => ⟨.inl (.inl h), Nat.lt_of_lt_of_le h.2 hs0.size⟩) (fun b h => ⟨.inl (.inr h), Nat.lt_of_lt_of_le h.2 hs0.size⟩) (Nat.le_trans hs0.size hkx.1))
  have HC := Lib.hid hcall
  have HS0 := Lib.hid hs0
  clear hcall hs0 hg hd hk hK ih hK0
  go_enter Try.func77, Try.ntmps77
  go_wp2_with fail
  rw [← HW.out]
  refine HC.out.mono ?_
  rintro e w2 ⟨v2, rfl, hI, hs2⟩
  have hob := Same.obj hs2 OB2.out
  have HI := Lib.hid hI
  have HS2 := Lib.hid hs2
  clear hI hs2
  obtain ⟨c0, c1, c2, c3, c4, c5, c6, cf⟩ := cells7 hob
  obtain ⟨o2, r0, A2, nx2, rfl, pr0, pn⟩ := formS HI.out.form
  unfold Plain at *
  clear hob
  go_wp2
  have h7 := sep7 w2 (w.heap.size + 2) (.bool o2) (r0) (.int .i64 A2.op) (.int .i64 A2.at_) (.int .u64 A2.x) (.int .u64 A2.y) (nx2)
  refine bodyPost_ret (v := .agg #[.bool o2, r0, .int .i64 A2.op, .int .i64 A2.at_, .int .u64 A2.x, .int .u64 A2.y, nx2]) (by simp [results, Try.results77, go_sem, c0, c1, c2, c3, c4, c5, c6]) rfl ?_
  have hlt := HSZ.out
  refine ⟨_, rfl, (HI.out.keep (Sep.keeps h7 fun k _ hk e => ?_)).imp fun k _ hk => ?_, Same.sep (same_then (HS0.out.trans HS2.out) (Nat.le_add_right _ 2) h7) _⟩
  · subst e
    rcases hk.1 with (h | h) | h
    · have := h.2; omega
    · have := h.2; omega
    · omega
  · rcases hk.1.1 with (h | h) | h
    · exact .inl ⟨.inl h.1, h.2⟩
    · exact .inl ⟨.inr h.1, h.2⟩
    · exact .inr (by omega)

theorem thenS {ok : List Int → Prop} {p : PT (List Int)} {g : List Int → PT (List Int)} {K : Nat} {caps : Array Value} (hp : p.All ok) (hK : Enters K) : ∀ {w : World} {F G : Nat → Prop} {v : Value}, Is layS p w F v → (∀ b, b < w.heap.size → F b → ¬ G b) → Goes ok g w G K caps →
    Calls Try.prog 77 #[v, .func (.func K) #[] caps] w (GivesX (p.bind g) (fun b => F b ∨ G b) w) := by
  induction p with
  | done r => exact fun h1 hd hg => thenS_done hp hK h1 hd hg
  | out => exact fun h1 _ _ => thenS_out h1
  | step A k ih => exact fun h1 hd hg => thenS_step hK (fun z hz => ih z (hp z hz)) h1 hd hg

end Go.Proofs.Ytiljledgoflogaa
