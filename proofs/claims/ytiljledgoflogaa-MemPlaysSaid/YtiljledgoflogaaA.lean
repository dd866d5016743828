/- The memory of package mem as the proofs see it: a list of regions, laid in blocks of a range of its own. No function is walked here. -/
import Derived.Test.YtiljledgoflogaaProg
import Derived.WalkKit
import Derived.KernelRfl
import Derived.OneCell
import Derived.Deep.QuietTactic
import Derived.BigQuiet
import Derived.Deep.RegionHeld3
import Derived.Lib.Hide
import Derived.Outline
namespace Go.Proofs.Ytiljledgoflogaa
open Go.RowKit

/-- But for blocks in S, and for new ones, the world is as it was. -/
structure Sep (S : Nat → Prop) (w w' : World) : Prop where
  os : w'.os = w.os
  tape : w'.tape = w.tape
  output : w'.output = w.output
  size : w.heap.size ≤ w'.heap.size
  block : ∀ k, k < w.heap.size → ¬ S k → w'.heap[k]? = w.heap[k]?

/-- Nothing that was there has turned. -/
abbrev Same (w w' : World) : Prop := Sep (fun _ => False) w w'
/-- Blocks of the range lo .. hi alone have turned. -/
abbrev In (lo hi : Nat) (w w' : World) : Prop := Sep (fun k => lo ≤ k ∧ k < hi) w w'

section
variable {S S' : Nat → Prop} {a b c w w' : World}
theorem Sep.refl (S : Nat → Prop) (w : World) : Sep S w w := ⟨rfl, rfl, rfl, Nat.le_refl _, fun _ _ _ => rfl⟩
theorem Sep.trans (h : Sep S a b) (k : Sep S b c) : Sep S a c :=
  ⟨k.os.trans h.os, k.tape.trans h.tape, k.output.trans h.output, Nat.le_trans h.size k.size, fun i hi hs => (k.block i (Nat.lt_of_lt_of_le hi h.size) hs).trans (h.block i hi hs)⟩
theorem Sep.mono (h : Sep S a b) (hs : ∀ k, k < a.heap.size → S k → S' k) : Sep S' a b :=
  ⟨h.os, h.tape, h.output, h.size, fun k hk hn => h.block k hk (fun x => hn (hs k hk x))⟩
theorem Same.sep (h : Same a b) (S : Nat → Prop) : Sep S a b := h.mono fun _ _ x => x.elim
theorem Sep.below {B : Nat} (h : Sep S a b) (hs : ∀ k, S k → B ≤ k) (hB : B ≤ a.heap.size) : Below B a b :=
  ⟨h.os, h.tape, h.output, h.size, fun k hk => h.block k (by omega) (fun x => by have := hs k x; omega)⟩
theorem Same.below (h : Same a b) : Below a.heap.size a b := Sep.below h (fun _ x => x.elim) (Nat.le_refl _)
theorem same_of_below (h : Below a.heap.size a b) : Same a b := ⟨h.os, h.tape, h.output, h.size, fun k hk _ => h.block k hk⟩
theorem In.below {lo hi B : Nat} (h : In lo hi a b) (hl : B ≤ lo) (hB : B ≤ a.heap.size) : Below B a b := Sep.below h (fun k x => by omega) hB
theorem Sep.drew (S : Nat → Prop) (w : World) : Sep S w w.drew := ⟨rfl, rfl, rfl, Nat.le_refl _, fun _ _ _ => rfl⟩
theorem Sep.drewN (S : Nat → Prop) (w : World) (n : Nat) : Sep S w (w.drewN n) := ⟨rfl, rfl, rfl, Nat.le_refl _, fun _ _ _ => rfl⟩
theorem Sep.alloc (S : Nat → Prop) (w : World) (o : Obj) : Sep S w (w.alloc o) := ⟨rfl, rfl, rfl, by simp, fun k hk _ => Below.heap_alloc _ _ _ hk⟩
theorem Sep.setCell (S : Nat → Prop) (w : World) (p : Addr) (v : Value) (h : S p.block ∨ w.heap.size ≤ p.block) : Sep S w (w.setCell p v) :=
  ⟨rfl, rfl, rfl, by simp [World.setCell], fun k hk hn => Below.heap_setCell _ _ _ _ (fun e => by subst e; rcases h with h | h; exact hn h; omega)⟩
theorem Sep.thenSet (h : Sep S a b) {p : Addr} (hp : S p.block ∨ a.heap.size ≤ p.block) (v : Value) : Sep S a (b.setCell p v) :=
  ⟨h.os, h.tape, h.output, by simpa [World.setCell] using h.size, fun k hk hn => (Below.heap_setCell _ _ _ _ (fun e => by subst e; rcases hp with h | h; exact hn h; omega)).trans (h.block k hk hn)⟩
theorem Sep.thenAlloc (h : Sep S a b) (o : Obj) : Sep S a (b.alloc o) := h.trans (Sep.alloc _ _ _)
theorem Sep.cell (h : Sep S w w') {p : Addr} {v : Value} (hc : w.cell? p = some v) (hp : ¬ S p.block) : w'.cell? p = some v :=
  (World.cell?_of_block (w := w) (h.block p.block (World.block_lt_of_cell? w p hc) hp)).trans hc
theorem Sep.obj (h : Sep S w w') {b : Nat} {o : Obj} (ho : w.heap[b]? = some o) (hb : ¬ S b) : w'.heap[b]? = some o := (h.block b (lt_of_block ho) hb).trans ho
theorem Same.obj (h : Same w w') {b : Nat} {o : Obj} (ho : w.heap[b]? = some o) : w'.heap[b]? = some o := Sep.obj h ho (fun x => x)
theorem Same.cell (h : Same w w') {p : Addr} {v : Value} (hc : w.cell? p = some v) : w'.cell? p = some v := Sep.cell h hc (fun x => x)
end

theorem heap_set_same {w : World} {b j : Nat} {c : Array Value} {T : TypeId} {f : Nat × Nat} {v : Value} (h : w.heap[b]? = some (.cells c T f)) : (w.setCell ⟨b, j, none⟩ v).heap[b]? = some (.cells (c.setIfInBounds j v) T f) := by
  have hlt := lt_of_block h
  have h' : w.heap[b] = .cells c T f := by simpa [Array.getElem?_eq_getElem hlt] using h
  show (w.heap.modify b _)[b]? = _
  rw [Array.getElem?_eq_getElem (by simpa using hlt), Array.getElem_modify_self, h']
  rfl
theorem heap_set_other {w : World} {b k j : Nat} {v : Value} (h : k ≠ b) : (w.setCell ⟨b, j, none⟩ v).heap[k]? = w.heap[k]? := Below.heap_setCell _ _ _ _ h
theorem cell_of_heap {w : World} {b j : Nat} {c : Array Value} {T : TypeId} {f : Nat × Nat} (h : w.heap[b]? = some (.cells c T f)) : w.cell? ⟨b, j, none⟩ = c[j]? := by simp [World.cell?, h]
theorem free_of_heap {w : World} {b j : Nat} {c : Array Value} {T : TypeId} (h : w.heap[b]? = some (.cells c T)) : w.frozen? ⟨b, j, none⟩ = false := by simp [World.frozen?, h]
theorem ne_of_kind {w : World} {b k : Nat} {c d : Array Value} {T U : TypeId} {f g : Nat × Nat} (h : w.heap[b]? = some (.cells c T f)) (h' : w.heap[k]? = some (.cells d U g)) (hne : T ≠ U) : b ≠ k := by
  rintro rfl
  rw [h] at h'
  simp at h'
  exact hne h'.2.1

/-- A region: its words, its epoch. -/
structure Reg where
  ws : List Int
  ep : Nat
  deriving Inhabited

/-- The memory at p: its regions are L, so many accesses were done; all its blocks lie in lo .. hi: the list of the regions at ab, region i at R i, its words at D i. -/
def MemD (lo hi : Nat) (w : World) (p : Nat) (L : List Reg) (cnt ab cap : Nat) (av : Option Addr) (R D : Nat → Nat) : Prop :=
    lo ≤ p ∧ p < hi ∧ hi ≤ w.heap.size ∧
    w.heap[p]? = some (.cells #[.slice av L.length cap, .int .i64 cnt] 129) ∧
    (0 < L.length → av = some ⟨ab, 0, none⟩ ∧ lo ≤ ab ∧ ab < hi ∧ ∃ cur, w.heap[ab]? = some (.cells cur 130) ∧ ∀ i, i < L.length → cur[i]? = some (.pointer (some ⟨R i, 0, none⟩))) ∧
    (∀ i, i < L.length → lo ≤ R i ∧ R i < hi ∧ lo ≤ D i ∧ D i < hi ∧
      w.heap[R i]? = some (.cells #[.slice (some ⟨D i, 0, none⟩) (L.getD i default).ws.length (L.getD i default).ws.length, .int .u64 (L.getD i default).ep] 132) ∧
      w.heap[D i]? = some (.cells ((L.getD i default).ws.map (Value.int .u64)).toArray 23)) ∧
    (∀ i j, i < L.length → j < L.length → (R i = R j ∨ D i = D j) → i = j)
def Mem (lo hi : Nat) (w : World) (p : Nat) (L : List Reg) (cnt : Nat) : Prop := ∃ (ab cap : Nat) (av : Option Addr) (R D : Nat → Nat), MemD lo hi w p L cnt ab cap av R D

section
variable {lo hi p cnt : Nat} {w w' : World} {L : List Reg} {S : Nat → Prop}

theorem Mem.le (h : Mem lo hi w p L cnt) : hi ≤ w.heap.size := by obtain ⟨ab, cap, av, R, D, _, _, h, _⟩ := h; exact h
theorem Mem.lop (h : Mem lo hi w p L cnt) : lo ≤ p ∧ p < hi := by obtain ⟨ab, cap, av, R, D, h, h', _⟩ := h; exact ⟨h, h'⟩
/-- The memory stays as it is where none of its blocks is written. -/
theorem MemD.stay {ab cap : Nat} {av : Option Addr} {R D : Nat → Nat} (h : MemD lo hi w p L cnt ab cap av R D) (hs : Sep S w w') (hn : ∀ k, lo ≤ k → k < hi → ¬ S k) : MemD lo hi w' p L cnt ab cap av R D := by
  obtain ⟨h1, h2, h3, h4, h5, h6, h7⟩ := h
  have keep : ∀ k, lo ≤ k → k < hi → w'.heap[k]? = w.heap[k]? := fun k h h' => hs.block k (by omega) (hn k h h')
  refine ⟨h1, h2, Nat.le_trans h3 hs.size, (keep p h1 h2).trans h4, fun h0 => ?_, fun i hi => ?_, h7⟩
  · obtain ⟨e, a1, a2, cur, hc, hcur⟩ := h5 h0
    exact ⟨e, a1, a2, cur, (keep ab a1 a2).trans hc, hcur⟩
  · obtain ⟨r1, r2, d1, d2, hr, hd⟩ := h6 i hi
    exact ⟨r1, r2, d1, d2, (keep _ r1 r2).trans hr, (keep _ d1 d2).trans hd⟩
theorem Mem.stay (h : Mem lo hi w p L cnt) (hs : Sep S w w') (hn : ∀ k, lo ≤ k → k < hi → ¬ S k) : Mem lo hi w' p L cnt := by
  obtain ⟨ab, cap, av, R, D, h⟩ := h
  exact ⟨ab, cap, av, R, D, h.stay hs hn⟩
theorem MemD.same {ab cap : Nat} {av : Option Addr} {R D : Nat → Nat} (h : MemD lo hi w p L cnt ab cap av R D) (hs : Same w w') : MemD lo hi w' p L cnt ab cap av R D := h.stay hs fun _ _ _ x => x
theorem Mem.same (h : Mem lo hi w p L cnt) (hs : Same w w') : Mem lo hi w' p L cnt := h.stay hs fun _ _ _ x => x
/-- Its two fields. -/
theorem Mem.head (h : Mem lo hi w p L cnt) : ∃ av cap, w.cell? ⟨p, 0, none⟩ = some (.slice av L.length cap) ∧ w.cell? ⟨p, 1, none⟩ = some (.int .i64 cnt) ∧ w.frozen? ⟨p, 1, none⟩ = false := by
  obtain ⟨ab, cap, av, R, D, h1, h2, h3, h4, _⟩ := h
  exact ⟨av, cap, by rw [cell_of_heap h4]; rfl, by rw [cell_of_heap h4]; rfl, free_of_heap h4⟩
/-- An access more. -/
theorem Mem.count (h : Mem lo hi w p L cnt) : Mem lo hi (w.setCell ⟨p, 1, none⟩ (.int .i64 ((cnt + 1 : Nat) : Int))) p L (cnt + 1) := by
  obtain ⟨ab, cap, av, R, D, h1, h2, h3, h4, h5, h6, h7⟩ := h
  refine ⟨ab, cap, av, R, D, h1, h2, by simpa [World.setCell] using h3, by rw [heap_set_same h4]; simp, fun h0 => ?_, fun i hi => ?_, h7⟩
  · obtain ⟨e, a1, a2, cur, hc, hcur⟩ := h5 h0
    exact ⟨e, a1, a2, cur, by rw [heap_set_other (ne_of_kind hc h4 (by decide))]; exact hc, hcur⟩
  · obtain ⟨r1, r2, d1, d2, hr, hd⟩ := h6 i hi
    exact ⟨r1, r2, d1, d2, by rw [heap_set_other (ne_of_kind hr h4 (by decide))]; exact hr, by rw [heap_set_other (ne_of_kind hd h4 (by decide))]; exact hd⟩

/-- What is known of region i; and what a store into one of its words, or into its epoch, makes of the memory. -/
structure At (lo hi : Nat) (w : World) (p : Nat) (L : List Reg) (cnt i ab cap r d : Nat) (X : Reg) : Prop where
  is : L.getD i default = X
  head : w.cell? ⟨p, 0, none⟩ = some (.slice (some ⟨ab, 0, none⟩) L.length cap)
  ptr : w.cell? ⟨ab, i, none⟩ = some (.pointer (some ⟨r, 0, none⟩))
  words : w.cell? ⟨r, 0, none⟩ = some (.slice (some ⟨d, 0, none⟩) X.ws.length X.ws.length)
  epoch : w.cell? ⟨r, 1, none⟩ = some (.int .u64 X.ep)
  word : ∀ j, j < X.ws.length → w.cell? ⟨d, j, none⟩ = some (.int .u64 (X.ws.getD j 0))
  freeR : w.frozen? ⟨r, 1, none⟩ = false
  freeD : ∀ j, w.frozen? ⟨d, j, none⟩ = false
  inR : lo ≤ r ∧ r < hi
  inD : lo ≤ d ∧ d < hi
  pd : p ≠ d
  pr : p ≠ r
  setD : ∀ (j : Nat) (v : Int), Mem lo hi (w.setCell ⟨d, j, none⟩ (.int .u64 v)) p (L.set i ⟨X.ws.set j v, X.ep⟩) cnt
  setR : ∀ (e : Nat), Mem lo hi (w.setCell ⟨r, 1, none⟩ (.int .u64 e)) p (L.set i ⟨X.ws, e⟩) cnt

theorem getD_set {α : Type} [Inhabited α] (L : List α) (i j : Nat) (x : α) (hj : j < L.length) : (L.set i x).getD j default = if i = j then x else L.getD j default := by
  simp only [List.getD, List.getElem?_set]
  split
  · subst_vars; simp [hj]
  · rfl

theorem MemD.at {ab cap : Nat} {av : Option Addr} {R D : Nat → Nat} (h : MemD lo hi w p L cnt ab cap av R D) {i : Nat} (hL : i < L.length) {X : Reg} (hX : L.getD i default = X) : At lo hi w p L cnt i ab cap (R i) (D i) X := by
  subst hX
  obtain ⟨h1, h2, h3, h4, h5, h6, h7⟩ := h
  obtain ⟨rfl, a1, a2, cur, hc, hcur⟩ := h5 (by omega)
  obtain ⟨r1, r2, d1, d2, hr, hd⟩ := h6 i hL
  constructor
  · rfl
  · rw [cell_of_heap h4]; rfl
  · rw [cell_of_heap hc]; exact hcur i hL
  · rw [cell_of_heap hr]; rfl
  · rw [cell_of_heap hr]; rfl
  · intro j hj
    rw [cell_of_heap hd]
    simp only [List.getElem?_toArray, List.getElem?_map]
    obtain ⟨x, hx⟩ : ∃ x, (L.getD i default).ws[j]? = some x := ⟨_, List.getElem?_eq_getElem hj⟩
    simp only [List.getD] at hx ⊢
    rw [hx]
    rfl
  · exact free_of_heap hr
  · intro j; exact free_of_heap hd
  · exact ⟨r1, r2⟩
  · exact ⟨d1, d2⟩
  · exact ne_of_kind h4 hd (by decide)
  · exact ne_of_kind h4 hr (by decide)
  · intro j v
    refine ⟨ab, cap, some ⟨ab, 0, none⟩, R, D, h1, h2, by simpa [World.setCell] using h3, ?_, fun h0 => ⟨rfl, a1, a2, cur, ?_, fun k hk => hcur k (by simpa using hk)⟩, fun k hk => ?_, fun k l hk hl => h7 k l (by simpa using hk) (by simpa using hl)⟩
    · rw [heap_set_other (ne_of_kind h4 hd (by decide)), h4]; simp
    · rw [heap_set_other (ne_of_kind hc hd (by decide))]; exact hc
    · rw [List.length_set] at hk
      obtain ⟨r1', r2', d1', d2', hr', hd'⟩ := h6 k hk
      refine ⟨r1', r2', d1', d2', ?_, ?_⟩
      · rw [heap_set_other (ne_of_kind hr' hd (by decide)), hr', getD_set L i k _ hk]
        split
        · subst_vars; simp
        · rfl
      · rw [getD_set L i k _ hk]
        split
        · subst_vars
          rw [heap_set_same hd]
          simp
        · rename_i hne
          rw [heap_set_other (fun e => hne (h7 i k hL hk (.inr e.symm)))]
          exact hd'
  · intro e
    refine ⟨ab, cap, some ⟨ab, 0, none⟩, R, D, h1, h2, by simpa [World.setCell] using h3, ?_, fun h0 => ⟨rfl, a1, a2, cur, ?_, fun k hk => hcur k (by simpa using hk)⟩, fun k hk => ?_, fun k l hk hl => h7 k l (by simpa using hk) (by simpa using hl)⟩
    · rw [heap_set_other (ne_of_kind h4 hr (by decide)), h4]; simp
    · rw [heap_set_other (ne_of_kind hc hr (by decide))]; exact hc
    · rw [List.length_set] at hk
      obtain ⟨r1', r2', d1', d2', hr', hd'⟩ := h6 k hk
      refine ⟨r1', r2', d1', d2', ?_, ?_⟩
      · rw [getD_set L i k _ hk]
        split
        · subst_vars
          rw [heap_set_same hr]
          simp
        · rename_i hne
          rw [heap_set_other (fun e => hne (h7 i k hL hk (.inl e.symm)))]
          exact hr'
      · rw [heap_set_other (ne_of_kind hd' hr (by decide)), hd', getD_set L i k _ hk]
        split
        · subst_vars; rfl
        · rfl
theorem Mem.at (h : Mem lo hi w p L cnt) {i : Nat} (hL : i < L.length) : ∃ ab cap r d X, At lo hi w p L cnt i ab cap r d X := by
  obtain ⟨ab, cap, av, R, D, h⟩ := h
  exact ⟨ab, cap, R i, D i, _, h.at hL rfl⟩
end
end Go.Proofs.Ytiljledgoflogaa
