/- The reference's worker: Give. -/
import Derived.Test.YtiljledgoflogaaPa
import Derived.Test.YtiljledgoflogaaTm
namespace Go.Proofs.Ytiljledgoflogaa
open Go.RowKit
set_option linter.unusedSimpArgs false
set_option linter.unusedVariables false

theorem info41 : (Try.prog.info? 41).map (fun i => (i.zero, i.size, i.bytes)) = some (some (.slice none 0 0), 1, 24) := by kernel_rfl
/-- Lists of accesses, behind a row of the call's own. -/
theorem app_rows {F : Nat → Prop} {w : World} {ops : Array Oper} {rest : List Oper} {o : Oper} {a : Act} {Q : Exit → Act → World → Prop} (hgd : o.guard = none) (s x : Operand) (ho : o.op = .call { callee := .builtin .append, args := #[s, x], argTypes := #[110, 110] })
    (base : Nat) (v : Value) (n : Nat) (xs : List Value) (hs : a.eval s = v) (hown : w.ownsRow base 41 1 v n xs) (src : Value) (m : Nat) (vs : List Value) (hx : a.eval x = src) (hA : Slc 1 F w src m vs) (h1 : ∀ u ∈ vs, u.oneCell' = true) (hn : n + m ≤ 100000) (hbase : base ≤ w.heap.size)
    (h : ∀ v' w', w'.ownsRow base 41 1 v' (n + m) (xs ++ vs) → w.grownBy w' v.ownBlock → wpList Try.prog ops Q rest (a.put o.dst v') w') : wpList Try.prog ops Q (o :: rest) a w := by
  obtain ⟨i0, hi, hz0, hz1, hz2⟩ := info_parts info41
  obtain ⟨hcl, ⟨rfl, h0⟩ | ⟨b, off, cap, rfl, hBb, hlt, hlc, hm, hc⟩⟩ := hA
  · subst h0
    obtain rfl : vs = [] := List.eq_nil_of_length_eq_zero (by simpa using hcl)
    refine wpList_append_own_none hgd s x 110 ho base 41 i0 1 Try.underlying110 hi v n xs hs hown hx (h v w ?_ ⟨rfl, rfl, rfl, Nat.le_refl _, fun _ _ _ => rfl⟩)
    simpa using hown
  · exact wpList_append_own w hgd s x 110 ho base 41 i0 (.slice none 0 0) 1 24 Try.underlying110 hi hz0 hz1 hz2 rfl (by decide) v n xs hs hown ⟨b, off, none⟩ m cap vs hx hcl
      (Slc.news (w := w) (w' := w) (fun _ _ => rfl) hlt hc) h1 (by unfold maxLen; omega) (by omega) hbase fun v' w' h2 h3 _ => h v' w' h2 h3
theorem Fits.one {F : Nat → Prop} {w : World} : ∀ {vs : List Value} {B : List (List Acc)}, Fits F w vs B → ∀ u ∈ vs, u.oneCell' = true
  | [], [], _ => fun u hu => by cases hu
  | v :: vs, l :: B, ⟨h, k⟩ => fun u hu => by
    obtain ⟨a, cp, rfl⟩ := h.form
    rcases List.mem_cons.mp hu with rfl | hu
    · rfl
    · exact Fits.one k u hu
  | [], _ :: _, h => h.elim
  | _ :: _, [], h => h.elim

/-- v is the reference's worker. -/
def RW (F : Nat → Prop) (w : World) (v : Value) (size : Nat) (J : Job) : Prop :=
  ∃ ba bc la ln lc ta tn tc vs, v = .agg #[.int .i64 size, .slice ba J.box.length bc, .bool J.cur.isSome, .slice la ln lc, .slice ta tn tc] ∧ Slc 1 F w (.slice ba J.box.length bc) J.box.length vs ∧ Fits F w vs J.box ∧
    ∀ l t, J.cur = some (l, t) → ArgF F w (.slice la ln lc) l ∧ SlcU F w (.slice ta tn tc) t
section
variable {F G : Nat → Prop} {w w' : World} {v : Value} {size : Nat} {J : Job}
theorem RW.stay {S : Nat → Prop} (h : RW F w v size J) (hs : Sep S w w') (hn : ∀ b, F b → b < w.heap.size → ¬ S b) : RW F w' v size J := by
  obtain ⟨ba, bc, la, ln, lc, ta, tn, tc, vs, rfl, h1, h2, h3⟩ := h
  exact ⟨ba, bc, la, ln, lc, ta, tn, tc, vs, rfl, h1.stay hs hn, Fits.stay hs hn h2, fun l t e => ⟨(h3 l t e).1.stay hs hn, Slc.stay (h3 l t e).2 hs hn⟩⟩
theorem RW.same (h : RW F w v size J) (hs : Same w w') : RW F w' v size J := h.stay hs fun _ _ _ x => x
theorem RW.imp (h : RW F w v size J) (hg : ∀ b, F b → b < w.heap.size → G b) : RW G w v size J := by
  obtain ⟨ba, bc, la, ln, lc, ta, tn, tc, vs, rfl, h1, h2, h3⟩ := h
  exact ⟨ba, bc, la, ln, lc, ta, tn, tc, vs, rfl, h1.imp hg, Fits.imp hg h2, fun l t e => ⟨(h3 l t e).1.imp hg, Slc.imp (h3 l t e).2 hg⟩⟩
end

/-- The two blocks of Give. -/
theorem two_g (w : World) (x0 x1 x2 x3 x4 : Value) : ∃ W, W = (w.alloc (.cells #[x0, x1, x2, x3, x4] 118)).alloc (.cells #[.int .i64 0, .slice none 0 0, .bool false, .slice none 0 0, .slice none 0 0] 118) ∧
    Same w W ∧ W.heap.size = w.heap.size + 2 ∧ W.heap[w.heap.size]? = some (.cells #[x0, x1, x2, x3, x4] 118) ∧ W.heap[w.heap.size + 1]? = some (.cells #[.int .i64 0, .slice none 0 0, .bool false, .slice none 0 0, .slice none 0 0] 118) := by
  refine ⟨_, rfl, (Sep.alloc _ _ _).thenAlloc _, by simp, ?_, ?_⟩
  · rw [Below.heap_alloc _ _ _ (by simp)]; exact heap_alloc_new _ _
  · have e : (w.alloc (.cells #[x0, x1, x2, x3, x4] 118)).heap.size = w.heap.size + 1 := by simp
    rw [← e]; exact heap_alloc_new _ _
theorem cells5 {w : World} {b : Nat} {x0 x1 x2 x3 x4 : Value} {T : TypeId} (h : w.heap[b]? = some (.cells #[x0, x1, x2, x3, x4] T)) :
    w.cell? ⟨b, 0, none⟩ = some x0 ∧ w.cell? ⟨b, 1, none⟩ = some x1 ∧ w.cell? ⟨b, 2, none⟩ = some x2 ∧ w.cell? ⟨b, 3, none⟩ = some x3 ∧ w.cell? ⟨b, 4, none⟩ = some x4 ∧ (∀ j, w.frozen? ⟨b, j, none⟩ = false) := by
  refine ⟨?_, ?_, ?_, ?_, ?_, fun j => free_of_heap h⟩ <;> (rw [cell_of_heap h]; rfl)
theorem sep5 (w : World) (b : Nat) (x0 x1 x2 x3 x4 : Value) : Sep (fun k => k = b) w (((((w.setCell ⟨b, 0, none⟩ x0).setCell ⟨b, 1, none⟩ x1).setCell ⟨b, 2, none⟩ x2).setCell ⟨b, 3, none⟩ x3).setCell ⟨b, 4, none⟩ x4) :=
  (((((Sep.refl (fun k => k = b) w).thenSet (.inl rfl) _).thenSet (.inl rfl) _).thenSet (.inl rfl) _).thenSet (.inl rfl) _).thenSet (.inl rfl) _

section
variable {F : Nat → Prop} {w : World} {size : Nat} {J : Job}
set_option maxRecDepth 100000 in
theorem rgive_full {v : Value} (h : RW F w v size J) (la : Option Addr) (ln lc : Nat) (hf : size ≤ J.box.length) : Calls Try.prog 57 #[v, .slice la ln lc] w fun e w' => e = .returned (.tuple #[v, .bool false]) ∧ Same w w' := by
  obtain ⟨ba, bc, ka, kn, kc, ta, tn, tc, vs, rfl, h1, h2, h3⟩ := h
  obtain ⟨n, hn⟩ : ∃ n, n = J.box.length := ⟨_, rfl⟩
  obtain ⟨bz, hbz⟩ : ∃ bz, bz = J.cur.isSome := ⟨_, rfl⟩
  rw [← hn] at hf
  rw [← hn, ← hbz]
  clear h1 h2 h3 hn hbz
  go_enter Try.func57, Try.ntmps57
  go_wp2
  exact bodyPost_ret (v := .tuple #[.agg #[.int .i64 size, .slice ba n bc, .bool bz, .slice ka kn kc, .slice ta tn tc], .bool false]) (by simp [results, Try.results57, go_sem]) rfl ⟨rfl, (Sep.alloc _ _ _).thenAlloc _⟩

set_option maxRecDepth 100000 in
set_option maxHeartbeats 1000000 in
theorem rgive_room {v : Value} {l : List Acc} {la : Option Addr} {lc : Nat} (h : RW F w v size J) (hv : ArgF F w (.slice la l.length lc) l) (hr : J.box.length < size) (hs : size ≤ 4096) (hF : ∀ b, w.heap.size ≤ b → F b) :
    Calls Try.prog 57 #[v, .slice la l.length lc] w fun e w' => ∃ v', e = .returned (.tuple #[v', .bool true]) ∧ RW F w' v' size ⟨J.box ++ [l], J.cur⟩ ∧ Same w w' := by
  obtain ⟨ba, bc, ka, kn, kc, ta, tn, tc, vs, rfl, h1, h2, h3⟩ := h
  obtain ⟨n, hn⟩ : ∃ n, n = J.box.length := ⟨_, rfl⟩
  obtain ⟨bz, hbz⟩ : ∃ bz, bz = J.cur.isSome := ⟨_, rfl⟩
  obtain ⟨ln, hln⟩ : ∃ ln, ln = l.length := ⟨_, rfl⟩
  rw [← hn] at hr h1
  rw [← hn, ← hbz, ← hln]
  rw [← hln] at hv
  obtain ⟨W, hW, hs0, hsz, b0, b1⟩ := two_g w (.int .i64 size) (.slice ba n bc) (.bool bz) (.slice ka kn kc) (.slice ta tn tc)
  obtain ⟨x0, x1, x2, x3, x4, xf⟩ := cells5 b0
  have q0 := fun o => (Sep.alloc (fun _ => False) W o).cell x0 (fun x => x)
  have q1 := fun o => (Sep.alloc (fun _ => False) W o).cell x1 (fun x => x)
  have q2 := fun o => (Sep.alloc (fun _ => False) W o).cell x2 (fun x => x)
  have q3 := fun o => (Sep.alloc (fun _ => False) W o).cell x3 (fun x => x)
  have q4 := fun o => (Sep.alloc (fun _ => False) W o).cell x4 (fun x => x)
  have own0 : (W.alloc (.cells #[] 41)).ownsRow W.heap.size 41 1 (.slice (some ⟨W.heap.size, 0, none⟩) 0 0) 0 [] := World.ownsRow_made W #[] 0 (Nat.le_refl _) (by simp) rfl
  have hb1 : Slc 1 F (W.alloc (.cells #[] 41)) (.slice ba n bc) n vs := Slc.stay (Slc.stay h1 hs0 (fun _ _ _ x => x)) (Sep.alloc (fun _ => False) W _) (fun _ _ _ x => x)
  have OWN0 := Lib.hid own0
  have HB1' := Lib.hid hb1
  have ONE := Lib.hid (Fits.one h2)
  have H2 := Lib.hid h2
  have H3 := Lib.hid h3
  have HN := Lib.hid hn
  have HBZ := Lib.hid hbz
  have HLN := Lib.hid hln
  have HV := Lib.hid hv
  have HF := Lib.hid hF
  have HB0 := Lib.hid b0
  have HB1 := Lib.hid b1
  have HW := Lib.hid hW
  have HSZ := Lib.hid hsz
  clear hW own0 hb1 h1 h2 h3 hn hbz hln hv hF b0 b1 hsz x0 x1 x2 x3 x4 xf
  go_enter Try.func57, Try.ntmps57
  go_upto_region 3 with fail
  rw [← HW.out]
  go_wp2_with (first | (at_builtin; go_loud (refine app_rows (F := F) rfl (.tmp 13) (.tmp 15) rfl W.heap.size (.slice (some ⟨W.heap.size, 0, none⟩) 0 0) 0 [] rfl OWN0.out (.slice ba n bc) n vs rfl HB1'.out ONE.out (by omega) (by simp) ?_)))
  intro v1 w4 o1 gr1
  have s4 : Same W w4 := grow_same (Sep.alloc _ W _) gr1 (fun k hk => by simp [Value.ownBlock] at hk; omega)
  have s4w := hs0.trans s4
  obtain ⟨y0, y1, y2, y3, y4, yf⟩ := cells5 (s4.obj HB0.out)
  have q0 := fun o => (Sep.alloc (fun _ => False) w4 o).cell y0 (fun x => x)
  have q1 := fun o => (Sep.alloc (fun _ => False) w4 o).cell y1 (fun x => x)
  have own1 : (w4.alloc (.cells #[.slice la ln lc] 41)).ownsRow W.heap.size 41 1 v1 n vs := o1.alloc _
  have O1 := Lib.hid own1
  have hsl : Slc 1 (fun _ => True) (w4.alloc (.cells #[.slice la ln lc] 41)) (.slice (some ⟨w4.heap.size, 0, none⟩) 1 1) 1 [.slice la ln lc] := by
    refine ⟨rfl, .inr ⟨w4.heap.size, 0, 1, rfl, trivial, by simp, Nat.le_refl _, by decide, fun j u hj => ?_⟩⟩
    rw [cell_of_heap (heap_alloc_new _ _), Nat.zero_add, ← hj]
    simp
  have HSL := Lib.hid hsl
  clear y0 y1 y2 y3 y4 yf o1 hsl own1
  have lW4 := s4.size
  obtain ⟨a1, v1c, rfl⟩ : ∃ a c, v1 = .slice a n c := by
    obtain ⟨_, ⟨rfl, h0⟩ | ⟨g', cap', cur', rfl, _⟩⟩ := O1.out
    · exact ⟨none, 0, by rw [h0]⟩
    · exact ⟨_, _, rfl⟩
  go_wp2_with (first | (at_builtin; go_loud (refine app_rows (F := fun _ => True) rfl (.tmp 16) (.tmp 18) rfl W.heap.size _ n vs rfl O1.out (.slice (some ⟨w4.heap.size, 0, none⟩) 1 1) 1 [.slice la ln lc] rfl HSL.out (by simp [Value.oneCell']) (by omega) (by simp; omega) ?_)))
  intro v2 w5 o2 gr2
  have s5 : Same W w5 := grow_same (s4.trans (Sep.alloc _ _ _)) gr2 (fun k hk => by
    obtain ⟨_, ⟨e, h0⟩ | ⟨g', cap', cur', e, hg, _⟩⟩ := O1.out
    · rw [e] at hk; simp [Value.ownBlock] at hk
    · rw [e] at hk; simp [Value.ownBlock] at hk; omega)
  have s5w := hs0.trans s5
  have sl2 : Slc 1 (fun b => W.heap.size ≤ b) w5 v2 (n + 1) (vs ++ [.slice la ln lc]) := Slc.owned (fun b hb => hb) o2
  obtain ⟨g, cap2, rfl⟩ : ∃ g cap2, v2 = .slice (some ⟨g, 0, none⟩) (n + 1) cap2 := by
    obtain ⟨_, ⟨e, h0⟩ | ⟨g', cap', cur', e, _⟩⟩ := o2
    · omega
    · exact ⟨g', cap', e⟩
  have b5 := s5.obj HB0.out
  have b5' := s5.obj HB1.out
  obtain ⟨y0, y1, y2, y3, y4, yf⟩ := cells5 b5
  obtain ⟨z0, z1, z2, z3, z4, zf⟩ := cells5 b5'
  have SL2 := Lib.hid sl2
  have S5W := Lib.hid s5w
  have nN : ¬ (w.heap.size + 1 = w.heap.size) := by omega
  clear sl2 s5w o2 gr2 q0 q1 q2 q3 q4 b5 b5' O1 HSL OWN0 HB1' ONE s5 s4w s4 gr1
  go_wp2
  refine bodyPost_ret (v := .tuple #[.agg #[.int .i64 size, .slice (some ⟨g, 0, none⟩) (n + 1) cap2, .bool bz, .slice ka kn kc, .slice ta tn tc], .bool true]) (by simp [results, Try.results57, go_sem, y0, y1, y2, y3, y4, z0, z1, z2, z3, z4, zf]) rfl ?_
  obtain ⟨wS, hwS⟩ : ∃ x, x = w5.setCell ⟨w.heap.size, 1, none⟩ (.slice (some ⟨g, 0, none⟩) (n + 1) cap2) := ⟨_, rfl⟩
  rw [← hwS]
  have h1 : Sep (fun k => k = w.heap.size ∨ k = w.heap.size + 1) w5 wS := by rw [hwS]; exact (Sep.refl _ w5).thenSet (.inl (.inl rfl)) _
  have h2 := h1.trans ((sep5 wS (w.heap.size + 1) (.int .i64 size) (.slice (some ⟨g, 0, none⟩) (n + 1) cap2) (.bool bz) (.slice ka kn kc) (.slice ta tn tc)).mono fun _ _ e => .inr e)
  have hfin := sep_chain (S := fun _ => False) S5W.out h2 (fun k hk h => by omega)
  refine ⟨_, rfl, ⟨some ⟨g, 0, none⟩, cap2, ka, kn, kc, ta, tn, tc, vs ++ [.slice la ln lc], by rw [HBZ.out, HN.out]; simp, ?_, ?_, fun l' t e => ?_⟩, hfin⟩
  · have e : (J.box ++ [l]).length = n + 1 := by simp [HN.out]
    simp only [e]
    exact Slc.imp (SL2.out.stay h2 (fun b hb _ h => by have := HSZ.out; omega)) (fun b hb _ => HF.out b (by have := HSZ.out; omega))
  · exact Fits.stay hfin (fun _ _ _ x => x) (Fits.add HV.out H2.out)
  · obtain ⟨k1, k2⟩ := H3.out l' t e
    exact ⟨k1.stay hfin (fun _ _ _ x => x), Slc.stay k2 hfin (fun _ _ _ x => x)⟩
end
end Go.Proofs.Ytiljledgoflogaa
