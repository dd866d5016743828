/- Slices of words and of accesses, in blocks from some number on; slices.Clone at both. -/
import Derived.Test.YtiljledgoflogaaI
import Derived.Laws.AppendOwnNone
import Derived.WalkSpells
namespace Go.Proofs.Ytiljledgoflogaa
open Go.RowKit
set_option linter.unusedSimpArgs false
set_option linter.unusedVariables false

/-- A slice of elements of so many cells each, whose cells are cs, in a block of which F holds. -/
def Slc (size : Nat) (F : Nat → Prop) (w : World) (v : Value) (n : Nat) (cs : List Value) : Prop :=
  cs.length = n * size ∧ ((v = .slice none 0 0 ∧ n = 0) ∨ ∃ b off cap, v = .slice (some ⟨b, off, none⟩) n cap ∧ F b ∧ b < w.heap.size ∧ n ≤ cap ∧ cap ≤ maxLen ∧ ∀ j u, cs[j]? = some u → w.cell? ⟨b, off + j, none⟩ = some u)
theorem Slc.stay {size n : Nat} {F : Nat → Prop} {w w' : World} {v : Value} {cs : List Value} {S : Nat → Prop} (h : Slc size F w v n cs) (hs : Sep S w w') (hn : ∀ b, F b → b < w.heap.size → ¬ S b) : Slc size F w' v n cs := by
  obtain ⟨hl, h⟩ := h
  refine ⟨hl, ?_⟩
  rcases h with h | ⟨b, off, cap, rfl, hB, hlt, hlc, hm, hc⟩
  · exact .inl h
  · exact .inr ⟨b, off, cap, rfl, hB, Nat.lt_of_lt_of_le hlt hs.size, hlc, hm, fun j u hj => (World.cell?_of_block (w := w) (hs.block b hlt (hn b hB hlt))).trans (hc j u hj)⟩
theorem Slc.same {size n : Nat} {F : Nat → Prop} {w w' : World} {v : Value} {cs : List Value} (h : Slc size F w v n cs) (hs : Same w w') : Slc size F w' v n cs := h.stay hs fun _ _ _ x => x
theorem Slc.imp {size n : Nat} {F G : Nat → Prop} {w : World} {v : Value} {cs : List Value} (h : Slc size F w v n cs) (hB : ∀ b, F b → b < w.heap.size → G b) : Slc size G w v n cs := by
  obtain ⟨hl, h | ⟨b, off, cap, e, h1, h2, h3⟩⟩ := h
  · exact ⟨hl, .inl h⟩
  · exact ⟨hl, .inr ⟨b, off, cap, e, hB b h1 h2, h2, h3⟩⟩
theorem Slc.form {size n : Nat} {F : Nat → Prop} {w : World} {v : Value} {cs : List Value} (h : Slc size F w v n cs) : ∃ a cap, v = .slice a n cap := by
  obtain ⟨_, ⟨rfl, rfl⟩ | ⟨b, off, cap, rfl, _⟩⟩ := h
  · exact ⟨none, 0, rfl⟩
  · exact ⟨_, _, rfl⟩
/-- What append leaves, as such a slice. -/
theorem Slc.owned {size B n T : Nat} {F : Nat → Prop} {w : World} {v : Value} {cs : List Value} (hB : ∀ b, B ≤ b → F b) (h : w.ownsRow B T size v n cs) : Slc size F w v n cs := by
  refine ⟨h.1, ?_⟩
  rcases h.2 with h0 | ⟨g, cap, cur, rfl, hg, hh, hn, hm, hc, ht⟩
  · exact .inl h0
  · refine .inr ⟨g, 0, cap, rfl, hB g hg, lt_of_block hh, hn, hm, fun j u hj => ?_⟩
    have hjl : j < n * size := by
      rw [← h.1]
      exact (List.getElem?_eq_some_iff.1 hj).1
    rw [Nat.zero_add, h.cellAt j hjl, hj]

def wds (l : List Int) : List Value := l.map (Value.int .u64)
def accCells (a : Acc) : List Value := [.int .i64 a.op, .int .i64 a.at_, .int .u64 a.x, .int .u64 a.y]
def accs (l : List Acc) : List Value := l.flatMap accCells
theorem wds_len (l : List Int) : (wds l).length = l.length := by simp [wds]
theorem accs_len (l : List Acc) : (accs l).length = l.length * 4 := by
  induction l with
  | nil => rfl
  | cons a l ih => simp only [accs, List.flatMap_cons, List.length_append] at *; rw [ih]; simp [accCells]; omega
theorem wds_one (l : List Int) : ∀ u ∈ wds l, u.oneCell' = true := by
  intro u hu
  simp [wds] at hu
  obtain ⟨x, _, rfl⟩ := hu
  rfl
theorem accs_one (l : List Acc) : ∀ u ∈ accs l, u.oneCell' = true := by
  intro u hu
  simp [accs, accCells] at hu
  obtain ⟨x, _, h⟩ := hu
  rcases h with rfl | rfl | rfl | rfl <;> rfl

/-- A slice of words, of accesses. -/
def SlcU (F : Nat → Prop) (w : World) (v : Value) (l : List Int) : Prop := Slc 1 F w v l.length (wds l)
def SlcA (F : Nat → Prop) (w : World) (v : Value) (l : List Acc) : Prop := Slc 4 F w v l.length (accs l)

theorem SlcU.rowU {w : World} {a : Option Addr} {l : List Int} {cap : Nat} (h : RowU w a l) (hlc : l.length ≤ cap) (hm : cap ≤ maxLen) (hn : l = [] → a = none ∧ cap = 0) : SlcU (fun _ => True) w (.slice a l.length cap) l := by
  refine ⟨by rw [wds_len]; omega, ?_⟩
  rcases h with rfl | ⟨b, off, rfl, hlt, hc⟩
  · obtain ⟨rfl, rfl⟩ := hn rfl
    exact .inl ⟨rfl, rfl⟩
  · refine .inr ⟨b, off, cap, rfl, trivial, hlt, hlc, hm, fun j u hj => ?_⟩
    have hjl : j < l.length := by rw [← wds_len]; exact (List.getElem?_eq_some_iff.1 hj).1
    rw [hc j hjl, ← hj]
    simp [wds, hjl]

/-- The cells of a slice's source, for append. -/
theorem Slc.news {w w' : World} {b off : Nat} {cs : List Value} (hb : ∀ k, k < w.heap.size → w'.heap[k]? = w.heap[k]?) (hlt : b < w.heap.size) (hc : ∀ j u, cs[j]? = some u → w.cell? ⟨b, off + j, none⟩ = some u) :
    ∀ j u, cs[j]? = some u → w'.cell? ((⟨b, off, none⟩ : Addr).add j) = some u := by
  intro j u hj
  rw [show (⟨b, off, none⟩ : Addr).add j = ⟨b, off + j, none⟩ by unfold Addr.add; split <;> simp_all]
  exact (World.cell?_of_block (w := w) (w' := w') (a := ⟨b, off + j, none⟩) (hb b hlt)).trans (hc j u hj)

theorem info25 : (Try.prog.info? 25).map (fun i => (i.zero, i.size, i.bytes)) = some (some (.agg #[.int .i64 0, .int .i64 0, .int .u64 0, .int .u64 0]), 4, 32) := by kernel_rfl

def Cloned (size T : Nat) (w : World) (n : Nat) (cs : List Value) (e : Ending) (w' : World) : Prop := ∃ v', e = .returned v' ∧ w'.ownsRow w.heap.size T size v' n cs ∧ Same w w'

theorem clone_end {size n T : Nat} {w w1 : World} {v1 : Value} {cs : List Value} (g1 : (w.alloc (.cells #[] T)).grownBy w1 (Value.ownBlock (.slice (some ⟨w.heap.size, 0, none⟩) 0 0))) (o1 : w1.ownsRow w.heap.size T size v1 n cs) : Cloned size T w n cs (.returned v1) w1 :=
  ⟨v1, rfl, o1, same_of_below (((Below.refl _ _).alloc (Nat.le_refl _) _).grown g1 (by simp) (fun k hk => by simp [Value.ownBlock] at hk; omega))⟩

set_option maxRecDepth 100000 in
theorem cloneU {F : Nat → Prop} {w : World} {v : Value} {l : List Int} (hv : SlcU F w v l) (hl : l.length ≤ 1000000) : Calls Try.prog 94 #[v] w (Cloned 1 23 w l.length (wds l)) := by
  obtain ⟨i0, hi, hz0, hz1, hz2⟩ := info_parts info23
  obtain ⟨hcl, ⟨rfl, h0⟩ | ⟨b, off, cap, rfl, hBb, hlt, hlc, hm, hc⟩⟩ := hv
  · have e0 : Cloned 1 23 w l.length (wds l) (.returned (.slice none 0 0)) w := ⟨_, rfl, ⟨hcl, .inl ⟨rfl, h0⟩⟩, Sep.refl _ _⟩
    have E0 := Lib.hid e0
    clear e0 h0 hcl
    have hnil := fun (w : World) (a : Option Addr) (l c : Nat) => Lib.run_eql_slice_nil (P := Try.prog) w 22 23 a l c 0 0 Try.underlying22
    go_enter Try.func94, Try.ntmps94
    go_wp2
    go_ret
    exact E0.out
  · obtain ⟨n0, hn0⟩ : ∃ n0, n0 = l.length := ⟨_, rfl⟩
    have hcl' : (wds l).length = n0 * 1 := by rw [hcl, hn0]
    rw [← hn0] at hlc hl ⊢
    clear hn0 hcl
    have hnil := fun (w : World) (a : Option Addr) (l c : Nat) => Lib.run_eql_slice_nil (P := Try.prog) w 22 23 a l c 0 0 Try.underlying22
    go_enter Try.func94, Try.ntmps94
    go_wp2_with (first
      | (at_builtin; go_loud (refine wpList_append_own _ rfl (.tmp 5) (.tmp 6) 22 rfl w.heap.size 23 i0 (.int .u64 0) 1 8 Try.underlying22 hi hz0 hz1 hz2 rfl (by decide) (.slice (some ⟨w.heap.size, 0, none⟩) 0 0) 0 [] rfl (World.ownsRow_made w #[] 0 (Nat.le_refl _) (by simp) rfl) ⟨b, off, none⟩ n0 cap (wds l) rfl hcl' (Slc.news (w := w) (fun k hk => Below.heap_alloc _ _ _ hk) hlt hc) (wds_one l) (by unfold maxLen; omega) (by omega) (by simp) ?_)))
    intro v1 w1 o1 g1 _
    go_wp2
    go_ret
    exact clone_end g1 (by simpa using o1)

set_option maxRecDepth 100000 in
theorem cloneA {F : Nat → Prop} {w : World} {v : Value} {l : List Acc} (hv : SlcA F w v l) (hl : l.length ≤ 1000000) : Calls Try.prog 76 #[v] w (Cloned 4 25 w l.length (accs l)) := by
  obtain ⟨i0, hi, hz0, hz1, hz2⟩ := info_parts info25
  obtain ⟨hcl, ⟨rfl, h0⟩ | ⟨b, off, cap, rfl, hBb, hlt, hlc, hm, hc⟩⟩ := hv
  · have e0 : Cloned 4 25 w l.length (accs l) (.returned (.slice none 0 0)) w := ⟨_, rfl, ⟨hcl, .inl ⟨rfl, h0⟩⟩, Sep.refl _ _⟩
    have E0 := Lib.hid e0
    clear e0 h0 hcl
    have hnil := fun (w : World) (a : Option Addr) (l c : Nat) => Lib.run_eql_slice_nil (P := Try.prog) w 41 25 a l c 0 0 Try.underlying41
    go_enter Try.func76, Try.ntmps76
    go_wp2
    go_ret
    exact E0.out
  · obtain ⟨n0, hn0⟩ : ∃ n0, n0 = l.length := ⟨_, rfl⟩
    have hcl' : (accs l).length = n0 * 4 := by rw [hcl, hn0]
    rw [← hn0] at hlc hl ⊢
    clear hn0 hcl
    have hnil := fun (w : World) (a : Option Addr) (l c : Nat) => Lib.run_eql_slice_nil (P := Try.prog) w 41 25 a l c 0 0 Try.underlying41
    go_enter Try.func76, Try.ntmps76
    go_wp2_with (first
      | (at_builtin; go_loud (refine wpList_append_own _ rfl (.tmp 5) (.tmp 6) 41 rfl w.heap.size 25 i0 (.agg #[.int .i64 0, .int .i64 0, .int .u64 0, .int .u64 0]) 4 32 Try.underlying41 hi hz0 hz1 hz2 rfl (by decide) (.slice (some ⟨w.heap.size, 0, none⟩) 0 0) 0 [] rfl (World.ownsRow_made w #[] 0 (Nat.le_refl _) (by simp) rfl) ⟨b, off, none⟩ n0 cap (accs l) rfl hcl' (Slc.news (w := w) (fun k hk => Below.heap_alloc _ _ _ hk) hlt hc) (accs_one l) (by unfold maxLen; omega) (by omega) (by simp) ?_)))
    intro v1 w1 o1 g1 _
    go_wp2
    go_ret
    exact clone_end g1 (by simpa using o1)
end Go.Proofs.Ytiljledgoflogaa
