/- The law's own test of prog; a slice of accesses that came in, cloned; List at it. -/
import Derived.Test.YtiljledgoflogaaJ
import Derived.Test.YtiljledgoflogaaN
namespace Go.Proofs.Ytiljledgoflogaa
open Go.RowKit Go.Deep Go.ChangeShapes
set_option linter.unusedSimpArgs false
set_option linter.unusedVariables false

theorem done_i (w : World) : Calls Try.prog 63 #[.int .i64 7] w fun e w' => e = .returned (.agg #[.bool true, .int .i64 7, .int .i64 0, .int .i64 0, .int .u64 0, .int .u64 0, .nilFunc]) ∧ Same w w' := by
  go_enter Try.func63, Try.ntmps63
  go_wp2
  exact bodyPost_ret (v := .agg #[.bool true, .int .i64 7, .int .i64 0, .int .i64 0, .int .u64 0, .int .u64 0, .nilFunc]) (by simp [results, Try.results63, go_sem]) rfl ⟨rfl, Sep.alloc _ _ _⟩
theorem over_i (w : World) : Calls Try.prog 64 #[.agg #[.bool true, .int .i64 7, .int .i64 0, .int .i64 0, .int .u64 0, .int .u64 0, .nilFunc]] w fun e w' => e = .returned (.tuple #[.int .i64 7, .bool true]) ∧ Same w w' := by
  have c0 : (w.alloc (.cells #[.bool true, .int .i64 7, .int .i64 0, .int .i64 0, .int .u64 0, .int .u64 0, .nilFunc] 139)).cell? ⟨w.heap.size, 0, none⟩ = some (.bool true) := by rw [cell_of_heap (heap_alloc_new _ _)]; rfl
  have c1 : (w.alloc (.cells #[.bool true, .int .i64 7, .int .i64 0, .int .i64 0, .int .u64 0, .int .u64 0, .nilFunc] 139)).cell? ⟨w.heap.size, 1, none⟩ = some (.int .i64 7) := by rw [cell_of_heap (heap_alloc_new _ _)]; rfl
  go_enter Try.func64, Try.ntmps64
  go_wp2
  go_region
  all_goals go_wp2
  all_goals go_ret2
  all_goals exact ⟨rfl, (Sep.alloc _ _ _).trans (Sep.drew _ _)⟩
theorem awake3_ok (w : World) : Calls Try.prog 34 #[] w fun e w' => e = .returned (.bool true) ∧ Same w w' := by
  go_enter Try.func34, Try.ntmps34
  go_wp2_with fail
  refine (done_i _).mono ?_
  rintro e w1 ⟨rfl, hs1⟩
  go_wp2_with fail
  refine (over_i _).mono ?_
  rintro e w2 ⟨rfl, hs2⟩
  go_wp2
  go_ret
  exact ⟨rfl, hs1.trans hs2⟩

/-- A slice of accesses that came in: its accesses, or none. -/
def ArgA (w : World) (v : Value) (l : List Acc) : Prop := SlcA (fun _ => True) w v l ∨ (l = [] ∧ ∃ a cap, v = .slice (some a) 0 cap)
theorem ArgA.stay {w w' : World} {v : Value} {l : List Acc} {S : Nat → Prop} (h : ArgA w v l) (hs : Sep S w w') (hn : ∀ b, b < w.heap.size → ¬ S b) : ArgA w' v l := by
  rcases h with h | h
  · exact .inl (Slc.stay h hs (fun b _ hb => hn b hb))
  · exact .inr h
theorem ArgA.same {w w' : World} {v : Value} {l : List Acc} (h : ArgA w v l) (hs : Same w w') : ArgA w' v l := h.stay hs fun _ _ x => x
theorem ArgA.below {w w' : World} {v : Value} {l : List Acc} (h : ArgA w v l) (hs : Below w.heap.size w w') : ArgA w' v l :=
  h.stay (same_of_below hs) fun _ _ x => x

theorem accs_get (l : List Acc) (j : Nat) (u : Value) (h : (accs l)[j]? = some u) : j / 4 < l.length ∧ u = (accCells (l.getD (j / 4) default)).getD (j % 4) .nilFunc := by
  induction l generalizing j with
  | nil => simp [accs] at h
  | cons A l ih =>
    rw [show accs (A :: l) = accCells A ++ accs l from rfl] at h
    by_cases hj : j < 4
    · rw [List.getElem?_append_left (by simpa [accCells] using hj)] at h
      rcases (show j = 0 ∨ j = 1 ∨ j = 2 ∨ j = 3 by omega) with rfl | rfl | rfl | rfl <;> (simp [accCells] at h; subst h; simp [accCells])
    · rw [List.getElem?_append_right (by simp [accCells]; omega)] at h
      obtain ⟨h1, h2⟩ := ih (j - 4) (by simpa [accCells] using h)
      rw [show j / 4 = (j - 4) / 4 + 1 by omega, show j % 4 = (j - 4) % 4 by omega]
      exact ⟨by simp; omega, by simpa using h2⟩

theorem ArgA.row {w : World} {a : Option Addr} {l : List Acc} {cap : Nat} (h : RowA w a l) (hlc : l.length ≤ cap) (hm : cap ≤ maxLen) (hn : a = none → cap = 0) : ArgA w (.slice a l.length cap) l := by
  by_cases hl : l = []
  · subst hl
    cases a with
    | none => rw [hn rfl]; exact .inl ⟨rfl, .inl ⟨rfl, rfl⟩⟩
    | some a => exact .inr ⟨rfl, _, _, rfl⟩
  · obtain ⟨b, off, rfl, hlt, hc⟩ := h.resolve_left hl
    refine .inl ⟨accs_len l, .inr ⟨b, off, cap, rfl, trivial, hlt, hlc, hm, fun j u hj => ?_⟩⟩
    obtain ⟨hq, rfl⟩ := accs_get l j u hj
    obtain ⟨h0, h1, h2, h3⟩ := hc (j / 4) hq
    rcases (show j % 4 = 0 ∨ j % 4 = 1 ∨ j % 4 = 2 ∨ j % 4 = 3 by omega) with h | h | h | h <;> rw [h]
    · rw [show off + j = off + j / 4 * 4 by omega]; exact h0
    · rw [show off + j = off + j / 4 * 4 + 1 by omega]; exact h1
    · rw [show off + j = off + j / 4 * 4 + 2 by omega]; exact h2
    · rw [show off + j = off + j / 4 * 4 + 3 by omega]; exact h3

section
variable {H : Type} {enc : TypeId × Value → H} {w : World} {fuel : Nat} {a : Option Addr} {len cap : Nat} {x : DataW H × List MemPlace}
theorem open_argA (hf : DataW.trod enc Try.prog w 0 (fun _ => true) true fuel 41 (Value.cells (.slice a len cap)).toList = some x) : ∃ l : List Acc, l.length = len ∧ RowA w a l ∧ ArgA w (.slice a len cap) l := by
  obtain ⟨l, rfl, hr⟩ := open_rowA hf
  refine ⟨l, rfl, hr, ?_⟩
  rcases open_slice Try.underlying41 hf with ⟨hcs, _⟩ | ⟨y, l', c, m, n, D, Pl, hcs, _, hl, hm, hz, _, hcell⟩
  · simp [Value.cells] at hcs
    exact ArgA.row hr (by rw [hcs.2.1]; exact Nat.zero_le _) (by rw [hcs.2.2]; exact Nat.zero_le _) (fun _ => hcs.2.2)
  · simp [Value.cells] at hcs
    obtain ⟨rfl, rfl, rfl⟩ := hcs
    exact ArgA.row hr hl hm (fun h => by cases h)
end

set_option maxRecDepth 100000 in
theorem cloneA_nil {w : World} (a : Addr) (cap : Nat) : Calls Try.prog 76 #[.slice (some a) 0 cap] w (Cloned 4 25 w 0 []) := by
  obtain ⟨i0, hi, hz0, hz1, hz2⟩ := info_parts info25
  have hnil := fun (w : World) (a : Option Addr) (l c : Nat) => Lib.run_eql_slice_nil (P := Try.prog) w 41 25 a l c 0 0 Try.underlying41
  go_enter Try.func76, Try.ntmps76
  go_wp2_with (first
    | (at_builtin; go_loud (refine wpList_append_own _ rfl (.tmp 5) (.tmp 6) 41 rfl w.heap.size 25 i0 (.agg #[.int .i64 0, .int .i64 0, .int .u64 0, .int .u64 0]) 4 32 Try.underlying41 hi hz0 hz1 hz2 rfl (by decide) (.slice (some ⟨w.heap.size, 0, none⟩) 0 0) 0 [] rfl (World.ownsRow_made w #[] 0 (Nat.le_refl _) (by simp) rfl) a 0 cap [] rfl rfl (fun j u hj => by simp at hj) (fun u hu => by simp at hu) (by unfold maxLen; omega) (by omega) (by simp) ?_)))
  intro v1 w1 o1 g1 _
  go_wp2
  go_ret
  exact clone_end g1 (by simpa using o1)
theorem cloneA_arg {w : World} {v : Value} {l : List Acc} (hv : ArgA w v l) (hl : l.length ≤ 1000000) : Calls Try.prog 76 #[v] w (Cloned 4 25 w l.length (accs l)) := by
  rcases hv with h | ⟨rfl, a, cap, rfl⟩
  · exact cloneA h hl
  · exact cloneA_nil a cap
theorem ArgA.form {w : World} {v : Value} {l : List Acc} (h : ArgA w v l) : ∃ a cap, v = .slice a l.length cap := by
  rcases h with h | ⟨rfl, a, cap, rfl⟩
  · exact Slc.form h
  · exact ⟨_, _, rfl⟩

set_option maxRecDepth 100000 in
theorem list_arg {F : Nat → Prop} {w : World} {v : Value} {l : List Acc} (hv : ArgA w v l) (hl : l.length ≤ 1000) (hF : ∀ b, w.heap.size ≤ b → F b) : Calls Try.prog 42 #[v] w (LPMade F w l []) := by
  have hs0 : Same w (w.alloc (.cells #[.bool false, .slice none 0 0, .int .i64 0, .int .i64 0, .int .u64 0, .int .u64 0, .nilFunc] 87)) := Sep.alloc _ _ _
  have hb : (w.alloc (.cells #[.bool false, .slice none 0 0, .int .i64 0, .int .i64 0, .int .u64 0, .int .u64 0, .nilFunc] 87)).heap[w.heap.size]? = some (.cells #[.bool false, .slice none 0 0, .int .i64 0, .int .i64 0, .int .u64 0, .int .u64 0, .nilFunc] 87) := heap_alloc_new _ _
  obtain ⟨W, hW⟩ : ∃ W, W = w.alloc (.cells #[.bool false, .slice none 0 0, .int .i64 0, .int .i64 0, .int .u64 0, .int .u64 0, .nilFunc] 87) := ⟨_, rfl⟩
  have hsz : W.heap.size = w.heap.size + 1 := by rw [hW]; simp
  rw [← hW] at hs0 hb
  obtain ⟨va, vc, rfl⟩ := hv.form
  obtain ⟨n, hn⟩ : ∃ n, n = l.length := ⟨_, rfl⟩
  have hv' : ArgA W (.slice va n vc) l := by rw [hn]; exact hv.same hs0
  rw [← hn]
  have HW := Lib.hid hW
  have HB := Lib.hid hb
  have HV := Lib.hid hv'
  have HSZ := Lib.hid hsz
  clear hW hb hv hv' hn hsz
  go_enter Try.func42, Try.ntmps42
  go_wp2_with fail
  rw [← HW.out]
  refine (cloneA_arg HV.out (by omega)).mono ?_
  rintro e w1 ⟨v1, rfl, own1, hs1⟩
  have h01 := hs0.trans hs1
  have sl1 : SlcA (fun q => F q ∧ q ≠ w.heap.size) w1 v1 l := Slc.owned (fun q hq => by rw [HSZ.out] at hq; exact ⟨hF q (by omega), by omega⟩) own1
  have hge : W.heap.size ≤ w1.heap.size := hs1.size
  clear own1
  go_wp2_with fail
  refine (list_any (F := fun q => F q ∧ q ≠ w.heap.size) sl1 (told := []) ⟨rfl, .inl ⟨rfl, rfl⟩⟩ (fun q hq => by rw [HSZ.out] at hge; exact ⟨hF q (by omega), by omega⟩)).mono ?_
  rintro e w2 ⟨v2, rfl, hlp, hs2⟩
  have h02 := h01.trans hs2
  obtain ⟨c0, c1, c2, c3, c4, c5, c6, cf⟩ := cells7 (hs2.obj (hs1.obj HB.out))
  have HLP := Lib.hid hlp
  rcases hlp.form with ⟨rfl, ra, rc, rfl⟩ | ⟨A, l', lb, tb, rfl, rfl⟩
  · clear hlp sl1 hs1 hs2 h01
    go_wp2
    refine bodyPost_ret (v := .agg #[.bool true, .slice ra ([] : List Int).length rc, .int .i64 0, .int .i64 0, .int .u64 0, .int .u64 0, .nilFunc]) (by simp [results, Try.results42, go_sem, c0, c1, c2, c3, c4, c5, c6]) rfl ?_
    have h7 := sep7 w2 w.heap.size (.bool true) (.slice ra ([] : List Int).length rc) (.int .i64 0) (.int .i64 0) (.int .u64 0) (.int .u64 0) .nilFunc
    exact ⟨_, rfl, (HLP.out.stay h7 (fun q hq _ => hq.2)).imp (fun q hq => hq.1), same_then h02 (Nat.le_refl _) h7⟩
  · clear hlp sl1 hs1 hs2 h01
    go_wp2
    refine bodyPost_ret (v := .agg #[.bool false, .slice none 0 0, .int .i64 A.op, .int .i64 A.at_, .int .u64 A.x, .int .u64 A.y, .func (.func 93) #[] #[.pointer (some ⟨lb, 0, none⟩), .pointer (some ⟨tb, 0, none⟩)]]) (by simp [results, Try.results42, go_sem, c0, c1, c2, c3, c4, c5, c6]) rfl ?_
    have h7 := sep7 w2 w.heap.size (.bool false) (.slice none 0 0) (.int .i64 A.op) (.int .i64 A.at_) (.int .u64 A.x) (.int .u64 A.y) (.func (.func 93) #[] #[.pointer (some ⟨lb, 0, none⟩), .pointer (some ⟨tb, 0, none⟩)])
    exact ⟨_, rfl, (HLP.out.stay h7 (fun q hq _ => hq.2)).imp (fun q hq => hq.1), same_then h02 (Nat.le_refl _) h7⟩
end Go.Proofs.Ytiljledgoflogaa
