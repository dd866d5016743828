/- What the reading of a slice of accesses tells of its numbers; append of such a slice; the walk of ProgJoin. -/
import Derived.Test.YtiljledgoflogaaZb
import Derived.Test.YtiljledgoflogaaS
namespace Go.Proofs.Ytiljledgoflogaa
open Go.RowKit Go.Deep Go.ChangeShapes
set_option linter.unusedSimpArgs false
set_option linter.unusedVariables false

/-- An access's numbers. -/
def AccW (A : Acc) : Prop := (-9223372036854775808 ≤ A.op ∧ A.op ≤ 9223372036854775807) ∧ (-9223372036854775808 ≤ A.at_ ∧ A.at_ ≤ 9223372036854775807) ∧ isU A.x ∧ isU A.y
section
variable {H : Type} {enc : TypeId × Value → H} {w : World} {fuel : Nat} {a : Option Addr} {len cap : Nat} {x : DataW H × List MemPlace}
set_option maxRecDepth 100000 in
theorem open_rowW (hf : DataW.trod enc Try.prog w 0 (fun _ => true) true fuel 41 (Value.cells (.slice a len cap)).toList = some x) : ∃ l : List Acc, l.length = len ∧ RowA w a l ∧ ∀ A ∈ l, AccW A := by
  rcases open_slice Try.underlying41 hf with ⟨hcs, _⟩ | ⟨y, l, c, m, n, D, Pl, hcs, _, hl, hm, hz, _, hcell⟩
  · simp [Value.cells] at hcs
    obtain ⟨rfl, rfl, rfl⟩ := hcs
    exact ⟨[], rfl, .inl rfl, fun A h => by cases h⟩
  · simp [Value.cells] at hcs
    obtain ⟨rfl, rfl, rfl⟩ := hcs
    have hz' : m = cap := by simpa using hz
    have each : ∀ i, i < len → ∃ z : Acc, (w.cell? (y.add (i * 4)) = some (.int .i64 z.op) ∧ w.cell? ((y.add (i * 4)).add 1) = some (.int .i64 z.at_) ∧ w.cell? ((y.add (i * 4)).add 2) = some (.int .u64 z.x) ∧ w.cell? ((y.add (i * 4)).add 3) = some (.int .u64 z.y)) ∧ AccW z := by
      intro i hi
      obtain ⟨cs, h1, h2⟩ := hcell i (by omega)
      rw [cells25] at h1
      obtain ⟨_, hlen, hget⟩ := World.cells?_some h1
      obtain ⟨y0, y1, y2, y3, n', _, _, h3, h4, h5, h6⟩ := Go.Joins.trod_struct4 Try.underlying25 h2
      match cs, hlen with
      | [c0, c1, c2, c3], _ =>
        simp only [cells3, cells23, List.drop_zero, List.drop_succ_cons, List.take_succ_cons, List.take_zero] at h3 h4 h5 h6
        obtain ⟨v0, e0, _, w0⟩ := DataW.trod_int Try.underlying3 h3
        obtain ⟨v1, e1, _, w1⟩ := DataW.trod_int Try.underlying3 h4
        obtain ⟨v2, e2, _, w2⟩ := DataW.trod_int Try.underlying23 h5
        obtain ⟨v3, e3, _, w3⟩ := DataW.trod_int Try.underlying23 h6
        simp at e0 e1 e2 e3
        have g0 := hget 0 (by omega)
        have g1 := hget 1 (by omega)
        have g2 := hget 2 (by omega)
        have g3 := hget 3 (by omega)
        simp at g0 g1 g2 g3
        refine ⟨⟨v0, v1, v2, v3⟩, ⟨?_, ?_, ?_, ?_⟩, ?_⟩
        · rw [← e0, ← g0]; unfold Addr.add; simp
        · rw [← e1, ← g1]
        · rw [← e2, ← g2]
        · rw [← e3, ← g3]
        · have b0 := bounds_i64 w0
          have b1 := bounds_i64 w1
          have b2 := bounds_u64 w2
          have b3 := bounds_u64 w3
          unfold AccW isU
          simp only
          omega
    obtain ⟨V, hV⟩ := choose_lt each
    refine ⟨(List.range len).map V, by simp, ?_, fun A hA => ?_⟩
    · cases len with
      | zero => exact .inl (by simp)
      | succ k =>
        have h0 : w.cell? (y.add 0) = some (.int .i64 (V 0).op) := by simpa using (hV 0 (by omega)).1.1
        obtain ⟨b, off, s⟩ := y
        obtain rfl : s = none := bare_of_cell h0
        refine .inr ⟨b, off, rfl, ?_, fun i hi => ?_⟩
        · rw [add_bare] at h0; exact lt_of_cell h0
        · simp at hi
          have := (hV i (by omega)).1
          simp only [add_bare] at this
          rw [this.1, this.2.1, this.2.2.1, this.2.2.2]
          simp [List.getD, hi]
    · simp at hA
      obtain ⟨i, hi, rfl⟩ := hA
      exact (hV i hi).2
theorem open_argW (hf : DataW.trod enc Try.prog w 0 (fun _ => true) true fuel 41 (Value.cells (.slice a len cap)).toList = some x) : ∃ l : List Acc, l.length = len ∧ ArgA w (.slice a len cap) l ∧ ∀ A ∈ l, AccW A := by
  obtain ⟨l, rfl, hr, hw⟩ := open_rowW hf
  refine ⟨l, rfl, ?_, hw⟩
  rcases open_slice Try.underlying41 hf with ⟨hcs, _⟩ | ⟨y, l', c, m, n, D, Pl, hcs, _, hl, hm, hz, _, hcell⟩
  · simp [Value.cells] at hcs
    exact ArgA.row hr (by rw [hcs.2.1]; exact Nat.zero_le _) (by rw [hcs.2.2]; exact Nat.zero_le _) (fun _ => hcs.2.2)
  · simp [Value.cells] at hcs
    obtain ⟨rfl, rfl, rfl⟩ := hcs
    exact ArgA.row hr hl hm (fun h => by cases h)
end

/-- A slice of accesses, behind a row of the call's own. -/
theorem app_argA {w : World} {ops : Array Oper} {rest : List Oper} {o : Oper} {a : Act} {Q : Exit → Act → World → Prop} (hgd : o.guard = none) (s x : Operand) (ho : o.op = .call { callee := .builtin .append, args := #[s, x], argTypes := #[41, 41] })
    (base : Nat) (v : Value) (n : Nat) (xs : List Value) (hs : a.eval s = v) (hown : w.ownsRow base 25 4 v n xs) (src : Value) (l : List Acc) (hx : a.eval x = src) (hA : ArgA w src l) (hn : n + l.length ≤ 100000) (hbase : base ≤ w.heap.size)
    (h : ∀ v' w', w'.ownsRow base 25 4 v' (n + l.length) (xs ++ accs l) → w.grownBy w' v.ownBlock → wpList Try.prog ops Q rest (a.put o.dst v') w') : wpList Try.prog ops Q (o :: rest) a w := by
  obtain ⟨i0, hi, hz0, hz1, hz2⟩ := info_parts info25
  rcases hA with ⟨hcl, ⟨rfl, h0⟩ | ⟨b, off, cap, rfl, hBb, hlt, hlc, hm, hc⟩⟩ | ⟨rfl, ad, cap, rfl⟩
  · obtain rfl : l = [] := List.eq_nil_of_length_eq_zero h0
    refine wpList_append_own_none hgd s x 41 ho base 25 i0 4 Try.underlying41 hi v n xs hs hown hx (h v w ?_ ⟨rfl, rfl, rfl, Nat.le_refl _, fun _ _ _ => rfl⟩)
    simpa [accs] using hown
  · exact wpList_append_own w hgd s x 41 ho base 25 i0 (.agg #[.int .i64 0, .int .i64 0, .int .u64 0, .int .u64 0]) 4 32 Try.underlying41 hi hz0 hz1 hz2 rfl (by decide) v n xs hs hown ⟨b, off, none⟩ l.length cap (accs l) hx hcl
      (Slc.news (w := w) (w' := w) (fun _ _ => rfl) hlt hc) (accs_one l) (by unfold maxLen; omega) (by omega) hbase fun v' w' h2 h3 _ => h v' w' h2 h3
  · exact wpList_append_own w hgd s x 41 ho base 25 i0 (.agg #[.int .i64 0, .int .i64 0, .int .u64 0, .int .u64 0]) 4 32 Try.underlying41 hi hz0 hz1 hz2 rfl (by decide) v n xs hs hown ad 0 cap [] hx rfl
      (fun j u hj => by cases hj) (fun u hu => by cases hu) (by unfold maxLen; omega) (by omega) hbase fun v' w' h2 h3 _ => h v' w' (by simpa [accs] using h2) h3

namespace PT
theorem list_bind (k : List Acc) (t s : List Int) : (list k s).bind (fun r => .done (t ++ r)) = list k (t ++ s) := by
  induction k generalizing s with
  | nil => rfl
  | cons A k ih =>
    simp only [list, bind]
    congr 1
    funext z
    rw [ih (s ++ [z]), List.append_assoc]
/-- Two lists' programs, one behind the other, are the program of both lists. -/
theorem list_join (l k : List Acc) (told : List Int) : (list l told).bind (fun a => (list k []).bind fun r => .done (a ++ r)) = list (l ++ k) told := by
  induction l generalizing told with
  | nil => simpa [list, bind] using list_bind k told []
  | cons A l ih =>
    simp only [list, bind, List.cons_append]
    congr 1
    funext z
    exact ih _
theorem list_all (l : List Acc) (told : List Int) (n : Nat) (h : told.length + l.length ≤ n) : (list l told).All fun r => r.length ≤ n := by
  induction l generalizing told with
  | nil => simpa [list, All] using h
  | cons A l ih =>
    intro z _
    exact ih _ (by simp at h ⊢; omega)
theorem list_wf (l : List Acc) (told : List Int) (h : ∀ A ∈ l, AccW A) : (list l told).Wf := by
  induction l generalizing told with
  | nil => trivial
  | cons A l ih => exact ⟨(h A (by simp)).2.2.1, (h A (by simp)).2.2.2, fun z _ => ih _ fun B hB => h B (by simp [hB])⟩
theorem list_run (ci ce : Int) (m : Nat) (L : List Reg) (l : List Acc) (told : List Int) : ∃ l' t', (run ci ce m L (list l told)).2.2 = list l' t' := by
  induction l generalizing told m L with
  | nil => exact ⟨[], told, by rw [show list [] told = .done told from rfl, run_done]⟩
  | cons A l ih =>
    cases m with
    | zero => exact ⟨A :: l, told, by rw [run_zero]⟩
    | succ m =>
      cases h : okB L ci ce A.op A.at_ with
      | false => exact ⟨A :: l, told, by rw [show list (A :: l) told = .step A (fun z => list l (told ++ [z])) from rfl, run_no h]⟩
      | true =>
        rw [show list (A :: l) told = .step A (fun z => list l (told ++ [z])) from rfl, run_yes h]
        exact ih _ _ _
theorem list_run_in (ci ce : Int) (m : Nat) (L : List Reg) (l : List Acc) (told : List Int) : (run ci ce m L (list l told)).2.2 ≠ .out := by
  obtain ⟨l', t', h⟩ := list_run ci ce m L l told
  rw [h]
  cases l' <;> (intro h; cases h)
end PT
theorem words8 : Words fresh8 := by
  intro i j
  unfold peekOf
  split
  · rename_i hc
    obtain ⟨h0, h1, h2⟩ := hc
    have : i.toNat = 0 := by simp [fresh8] at h1; omega
    rw [this]
    show isU ((List.replicate 8 (0 : Int)).getD j.toNat 0)
    rw [show (List.replicate 8 (0 : Int)).getD j.toNat 0 = 0 by
      simp only [List.getD, List.getElem?_replicate]
      split <;> rfl]
    exact isU_zero
  · exact isU_zero

end Go.Proofs.Ytiljledgoflogaa
