/- Programs as trees: what a program's value must be good for. No function is walked here. -/
import Derived.Test.YtiljledgoflogaaR
namespace Go.Proofs.Ytiljledgoflogaa
open Go.RowKit
set_option linter.unusedSimpArgs false
set_option linter.unusedVariables false

/-- A program: over, or an access and what goes on with what it tells; out: it isn't over; no more is said. -/
inductive PT (R : Type) where
  | done (r : R)
  | step (A : Acc) (k : Int → PT R)
  | out

namespace PT
def bind {A B : Type} : PT A → (A → PT B) → PT B
  | .done a, f => f a
  | .step A k, f => .step A fun z => bind (k z) f
  | .out, _ => .out
end PT

/-- A word's bounds. -/
def isU (z : Int) : Prop := 0 ≤ z ∧ z < 18446744073709551616

/-- A value that a cell bears. -/
def Plain (v : Value) : Prop := ∀ a m w, (Go.store a v m).run Try.prog w = Go.stored Try.prog w a v m
theorem plain_of {v : Value} (h : v.oneCell' = true) : Plain v := fun a m w => Go.run_store Try.prog w a v m h

/-- Number K is a function that has a body. -/
def Enters (K : Nat) : Prop := ∀ args w, (callFunc K args).run Try.prog w = .ok (.enter K args) w

/-- The blocks of F that lie in w are in w' as they were. -/
def Keeps (F : Nat → Prop) (w w' : World) : Prop := w.heap.size ≤ w'.heap.size ∧ ∀ b, b < w.heap.size → F b → w'.heap[b]? = w.heap[b]?
theorem Keeps.refl (F : Nat → Prop) (w : World) : Keeps F w w := ⟨Nat.le_refl _, fun _ _ _ => rfl⟩
theorem Keeps.trans {F : Nat → Prop} {a b c : World} (h : Keeps F a b) (k : Keeps F b c) : Keeps F a c :=
  ⟨Nat.le_trans h.1 k.1, fun i hi hf => (k.2 i (Nat.lt_of_lt_of_le hi h.1) hf).trans (h.2 i hi hf)⟩
theorem Keeps.imp {F G : Nat → Prop} {a b : World} (h : Keeps F a b) (hg : ∀ k, k < a.heap.size → G k → F k) : Keeps G a b := ⟨h.1, fun i hi hf => h.2 i hi (hg i hi hf)⟩
theorem Sep.keeps {S F : Nat → Prop} {a b : World} (h : Sep S a b) (hn : ∀ k, k < a.heap.size → F k → ¬ S k) : Keeps F a b := ⟨h.size, fun i hi hf => h.block i hi (hn i hi hf)⟩
theorem Same.keeps {F : Nat → Prop} {a b : World} (h : Same a b) : Keeps F a b := Sep.keeps h fun _ _ _ x => x
theorem Keeps.obj {F : Nat → Prop} {a b : World} (h : Keeps F a b) {k : Nat} {o : Obj} (ho : a.heap[k]? = some o) (hf : F k) : b.heap[k]? = some o := (h.2 k (lt_of_block ho) hf).trans ho

/-- What F owns at w, and what is new at w'. -/
def Grown (F : Nat → Prop) (w w' : World) : Nat → Prop := fun b => (F b ∧ b < w.heap.size) ∨ w'.heap.size ≤ b
/-- The part of F that lies in w. -/
def Part (F : Nat → Prop) (w : World) : Nat → Prop := fun b => F b ∧ b < w.heap.size

/-- What stands for a result: its zero's cells, and when cells are a result's. -/
structure Lay (R : Type) where
  zero : List Value
  rep : World → (Nat → Prop) → List Value → R → Prop
  len : ∀ w F rc r, rep w F rc r → rc.length = zero.length
  plain : ∀ w F rc r, rep w F rc r → ∀ u ∈ rc, Plain u
  keep : ∀ w w' F rc r, rep w F rc r → Keeps F w w' → rep w' F rc r
  imp : ∀ w F G rc r, rep w F rc r → (∀ b, b < w.heap.size → F b → G b) → rep w G rc r
  plainZ : ∀ u ∈ zero, Plain u
  val : List Value → Value

/-- A program's cells. -/
def cellsOf (o : Bool) (rc : List Value) (A : Acc) (nx : Value) : Array Value := (.bool o :: (rc ++ [.int .i64 A.op, .int .i64 A.at_, .int .u64 A.x, .int .u64 A.y, nx])).toArray
def acc0 : Acc := ⟨0, 0, 0, 0⟩

section
variable {R : Type} (Y : Lay R)
/-- v has the cells of a program. -/
def Form (v : Value) : Prop := ∃ o rc A nx, v = .agg (cellsOf o rc A nx) ∧ rc.length = Y.zero.length ∧ (∀ u ∈ rc, Plain u) ∧ Plain nx

/-- v is a value of the program p; what it rests on lies in the blocks of F. -/
def Is : PT R → World → (Nat → Prop) → Value → Prop
  | .done r, w, F, v => ∃ rc, v = .agg (cellsOf true rc acc0 .nilFunc) ∧ Y.rep w F rc r
  | .step A k, w, F, v => ∃ K caps, v = .agg (cellsOf false Y.zero A (.func (.func K) #[] caps)) ∧ Enters K ∧
      ∀ w', Keeps F w w' → ∀ z, isU z → Calls Try.prog K (#[.int .u64 z] ++ caps) w' fun e w'' => ∃ v', e = .returned v' ∧ Is (k z) w'' (Grown F w w') v' ∧ Sep (Part F w) w' w''
  | .out, _, _, v => ∃ rc A nx, v = .agg (cellsOf false rc A nx) ∧ rc.length = Y.zero.length ∧ (∀ u ∈ rc, Plain u) ∧ Plain nx
end

section
variable {R : Type} {Y : Lay R} {p : PT R} {w w' : World} {F G : Nat → Prop} {v : Value}
theorem Is.form (h : Is Y p w F v) : Form Y v := by
  cases p with
  | done r =>
    obtain ⟨rc, rfl, hr⟩ := h
    exact ⟨true, rc, acc0, .nilFunc, rfl, Y.len _ _ _ _ hr, Y.plain _ _ _ _ hr, plain_of rfl⟩
  | step A k =>
    obtain ⟨K, caps, rfl, _, _⟩ := h
    exact ⟨false, Y.zero, A, _, rfl, rfl, Y.plainZ, plain_of rfl⟩
  | out =>
    obtain ⟨rc, A, nx, e, h1, h2, h3⟩ := h
    exact ⟨false, rc, A, nx, e, h1, h2, h3⟩
end

section
variable {R : Type} {Y : Lay R}
theorem Is.imp {p : PT R} : ∀ {w : World} {F G : Nat → Prop} {v : Value}, Is Y p w F v → (∀ b, b < w.heap.size → F b → G b) → Is Y p w G v := by
  induction p with
  | done r =>
    rintro w F G v ⟨rc, rfl, hr⟩ hg
    exact ⟨rc, rfl, Y.imp _ _ _ _ _ hr hg⟩
  | step A k ih =>
    rintro w F G v ⟨K, caps, rfl, hK, h⟩ hg
    refine ⟨K, caps, rfl, hK, fun w' hk z hz => (h w' (hk.imp hg) z hz).mono ?_⟩
    rintro e w'' ⟨v', rfl, hi, hs⟩
    exact ⟨v', rfl, ih z hi (fun b _ hb => hb.imp (fun x => ⟨hg b x.2 x.1, x.2⟩) id), hs.mono fun b _ hb => ⟨hg b hb.2 hb.1, hb.2⟩⟩
  | out => exact fun h _ => h
theorem Is.keep {p : PT R} {w w' : World} {F : Nat → Prop} {v : Value} (h : Is Y p w F v) (hk : Keeps F w w') : Is Y p w' (Part F w) v := by
  cases p with
  | done r =>
    obtain ⟨rc, rfl, hr⟩ := h
    exact ⟨rc, rfl, Y.keep _ _ _ _ _ (Y.imp _ _ _ _ _ hr fun b hb hf => ⟨hf, hb⟩) (hk.imp fun b _ hf => hf.1)⟩
  | step A k =>
    obtain ⟨K, caps, rfl, hK, h⟩ := h
    refine ⟨K, caps, rfl, hK, fun w2 hk2 z hz => (h w2 ⟨Nat.le_trans hk.1 hk2.1, fun b hb hf => (hk2.2 b (Nat.lt_of_lt_of_le hb hk.1) ⟨hf, hb⟩).trans (hk.2 b hb hf)⟩ z hz).mono ?_⟩
    rintro e w3 ⟨v', rfl, hi, hs⟩
    exact ⟨v', rfl, hi.imp (fun b _ hb => hb.imp (fun x => ⟨x, Nat.lt_of_lt_of_le x.2 hk.1⟩) id), hs.mono fun b _ hb => ⟨hb, Nat.lt_of_lt_of_le hb.2 hk.1⟩⟩
  | out => exact h
theorem Is.same {p : PT R} {w w' : World} {F : Nat → Prop} {v : Value} (h : Is Y p w F v) (hs : Same w w') : Is Y p w' F v := (h.keep (Same.keeps hs)).imp fun _ _ hb => hb.1
/-- What the making of a program out of plain values comes to. -/
def Makes (Y : Lay R) (p : PT R) (w : World) (e : Ending) (w' : World) : Prop := ∃ v, e = .returned v ∧ Is Y p w' (fun b => w.heap.size ≤ b) v ∧ Same w w'
/-- What a call at w' comes to, of what F owned at w. -/
def Gives (Y : Lay R) (p : PT R) (F : Nat → Prop) (w w' : World) (e : Ending) (w'' : World) : Prop := ∃ v', e = .returned v' ∧ Is Y p w'' (Grown F w w') v' ∧ Sep (Part F w) w' w''
theorem Makes.gives {p : PT R} {F : Nat → Prop} {w w' w'' : World} {e : Ending} (h : Makes Y p w' e w'') : Gives Y p F w w' e w'' := by
  obtain ⟨v, rfl, hi, hs⟩ := h
  exact ⟨v, rfl, hi.imp fun b _ hb => .inr hb, hs.sep _⟩
end
end Go.Proofs.Ytiljledgoflogaa
